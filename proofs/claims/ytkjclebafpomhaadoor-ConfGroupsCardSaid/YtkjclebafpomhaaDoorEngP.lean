/- The engine, part 16: a call that needs none of the heap, and leaves nothing that is named. -/
import Derived.Test.YtkjclebafpomhaaDoorEngO
set_option linter.unusedVariables false
set_option linter.unusedSimpArgs false
namespace Go.Eng
open Go

def noHeap (G : Nat) : AHeap := { t := .lf, next := G }
theorem noHeap_get (G i : Nat) : (noHeap G).get i = none := by
  rcases Nat.lt_or_ge i G with h | h
  · rw [AHeap.get_in (H := noHeap G) h]; rfl
  · exact AHeap.get_out (H := noHeap G) h

theorem Rel.none {G : Nat} {μ : Mu} {H : AHeap} {w : World} (hR : Rel G μ H w) : Rel G (μ.upto G) (noHeap G) w where
  dom := fun i o h => by rw [noHeap_get] at h; cases h
  fin := fun i p h => by
    simp only [Mu.upto] at h
    split at h
    · assumption
    · cases h
  base := Nat.le_refl _
  glob := fun g hg => by
    obtain ⟨p, h1, h2⟩ := hR.glob g hg
    exact ⟨p, by simp only [Mu.upto]; rw [if_pos hg]; exact h1, h2⟩
  sep := fun i j oi oj pi pj _ h => by rw [noHeap_get] at h; cases h
  ro := fun i j oi oj h => by rw [noHeap_get] at h; cases h
  plt := fun i o j h => by rw [noHeap_get] at h; cases h
  pend := fun i j oi oj pi pj h => by rw [noHeap_get] at h; cases h

/-- Where every old block stays: the heap is as it was. -/
theorem Rel.stay {G : Nat} {μ μ1 μ' : Mu} {H R : AHeap} {w w' : World} (hR : Rel G μ H w) (t : Tn μ1 (noHeap G) w μ' R w') : Rel G μ H w' ∧ Tn μ H w μ H w' := by
  have no : ∀ b, ¬ Img μ1 (noHeap G) b := by
    rintro b ⟨i, o, p, h, _⟩
    rw [noHeap_get] at h; cases h
  have same : ∀ k, k < w.heap.size → w'.heap[k]? = w.heap[k]? := fun k hk => t.ext.block k hk (no k)
  constructor
  · exact ⟨fun i o h => by
      obtain ⟨p, x, h1, h2, h3⟩ := hR.dom i o h
      exact ⟨p, x, h1, by rw [same _ (Array.getElem?_eq_some_iff.1 h2).1]; exact h2, h3⟩, hR.fin, hR.base, hR.glob, hR.sep, hR.ro, hR.plt, hR.pend⟩
  · exact { Tn.refl hR with ext := ⟨t.ext.os, t.ext.tape, t.ext.output, t.ext.size, fun k hk _ => same k hk⟩ }

theorem acalls_pure {P : Program} {G : Nat} {f : FuncId} {args : List Value} {v : Value} {R : AHeap} (h : ACalls P G f args (noHeap G) fun v1 H1 => v1 = v ∧ H1 = R) (hf : args.all (flat 0) = true) (hv : flat 1 v = true) (H : AHeap) :
    ACalls P G f args H fun v1 H1 => v1 = v ∧ H1 = H := by
  intro μ w args' hR hA
  have e := min_flat hA hf
  subst e
  refine (h _ w _ hR.none (by simpa using LRel.flat hf)).mono ?_
  rintro e w' ⟨v1, v', H', μ', rfl, q1, q2, q3, rfl, rfl⟩
  obtain ⟨k1, k2⟩ := hR.stay q3
  exact ⟨v1, v', H, μ, rfl, by rw [flat_eq q1 1 hv]; exact flat_rel 1 _ hv, k1, k2, rfl, rfl⟩

theorem acalls_reckoned {cx : Cx} (hc : CxOK cx) {lf k : Nat} {f : FuncId} {fn : Func} {args : List Value} {v : Value} (hf : args.all (flat 0) = true) (hv : flat 1 v = true) (hfn : cx.fn f = some fn) (hb : fn.body.isSome = true)
    (h : (callD cx lf k f args (noHeap cx.G)).map (·.1) = some v) (H : AHeap) : ACalls cx.P cx.G f args H fun v1 H1 => v1 = v ∧ H1 = H := by
  obtain ⟨⟨v1, R⟩, hr, rfl⟩ := Option.map_eq_some_iff.1 h
  obtain ⟨fn', f1, f2⟩ := callD_ok hc k f args _ _ _ hr
  rw [hfn] at f1
  injection f1 with f1
  subst f1
  rcases f2 with ⟨_, hA⟩ | ⟨hn, _⟩
  · exact acalls_pure hA hf hv H
  · rw [hn] at hb; cases hb
end Go.Eng
