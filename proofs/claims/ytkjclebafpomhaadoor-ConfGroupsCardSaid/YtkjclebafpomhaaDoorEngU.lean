/- The engine, part 21: what a call makes and hands to no one is left out. -/
import Derived.Test.YtkjclebafpomhaaDoorEngT
set_option linter.unusedVariables false
set_option linter.unusedSimpArgs false
namespace Go.Eng
open Go

theorem VRel.back {μ μ' : Mu} (hm : μ.le μ') {v v0 : Value} (h : VRel μ v v0) : ∀ v', VRel μ' v v' → VRel μ v v' := by
  induction h with
  | any v => intro v' _; exact .any v'
  | @ptr i o p hp =>
    intro v' k
    cases k with
    | ptr hq =>
      rw [hm _ _ hp] at hq
      injection hq with hq
      subst hq
      exact .ptr hp
  | @slice i o l c c' p hp hc =>
    intro v' k
    cases k with
    | slice hq hd =>
      rw [hm _ _ hp] at hq
      injection hq with hq
      subst hq
      exact .slice hp hd
    | empty hc' => exact .empty hc'
  | empty hc =>
    intro v' k
    cases k with
    | empty hc' => exact .empty hc'
    | slice hq hd =>
      obtain ⟨h1, h2, h3⟩ := hd
      exfalso
      rcases h3 with ⟨h4, _⟩ | ⟨_, h4, _⟩
      · unfold empt grow at *; omega
      · omega
  | @map i p hp =>
    intro v' k
    cases k with
    | map hq =>
      rw [hm _ _ hp] at hq
      injection hq with hq
      subst hq
      exact .map hp
  | func fn a b _ _ ih1 ih2 =>
    intro v' k
    cases k with
    | func _ a' b' k1 k2 => exact .func fn a' b' (fun i hi => ih1 i hi _ (k1 i hi)) (fun i hi => ih2 i hi _ (k2 i hi))
  | iface t _ ih =>
    intro v' k
    cases k with
    | iface _ k1 => exact .iface t (ih _ k1)
  | agg a _ ih =>
    intro v' k
    cases k with
    | agg a' k1 => exact .agg a' fun i hi => ih i hi _ (k1 i hi)
  | tuple a _ ih =>
    intro v' k
    cases k with
    | tuple a' k1 => exact .tuple a' fun i hi => ih i hi _ (k1 i hi)
  | _ => intro v' k; cases k <;> constructor

theorem ObjRel.back {μ μ' : Mu} (hm : μ.le μ') {o : AObj} {x0 x : Obj} {p : Pl} (h0 : ObjRel μ o x0 p) (h : ObjRel μ' o x p) : ObjRel μ o x p := by
  cases h with
  | cells a1 a2 a3 a4 a5 a6 a7 =>
    cases h0 with
    | cells b1 b2 b3 b4 b5 b6 b7 => exact .cells a1 a2 a3 (fun i hi => (b4 i hi).back hm _ (a4 i hi)) a5 a6 a7
  | map a b =>
    cases h0 with
    | map c d => exact .map a fun i hi => ⟨(d i hi).1.back hm _ (b i hi).1, (d i hi).2.1.back hm _ (b i hi).2.1, (b i hi).2.2⟩
  | iter s pos hs => exact .iter s pos hs

theorem Rel.trim {G : Nat} {μ μ' : Mu} {H R : AHeap} {w w' : World} (hR : Rel G μ H w) (hR' : Rel G μ' R w') (t : Tn μ H w μ' R w') (k : Keeps [] H R) : Rel G μ H w' ∧ Tn μ H w μ H w' := by
  constructor
  · refine ⟨fun i o h => ?_, hR.fin, hR.base, hR.glob, hR.sep, hR.ro, hR.plt, hR.pend⟩
    obtain ⟨p, x0, h1, h2, h3⟩ := hR.dom i o h
    have h4 : R.get i = some o := by rw [k.old i (AHeap.get_lt h) (by simp)]; exact h
    obtain ⟨q, x, e1, e2, e3⟩ := hR'.dom i o h4
    rw [t.le _ _ h1] at e1
    injection e1 with e1
    subst e1
    exact ⟨p, x, h1, e2, h3.back t.le e3⟩
  · exact { Tn.refl hR with ext := t.ext }

theorem ACalls.trim {P : Program} {G : Nat} {f : FuncId} {args : List Value} {H : AHeap} {Q : Value → Prop} (h : ACalls P G f args H fun v H' => Q v ∧ flat 1 v = true ∧ Keeps [] H H') : ACalls P G f args H fun v H' => Q v ∧ H' = H := by
  intro μ w args' hR hA
  refine (h μ w args' hR hA).mono ?_
  rintro e w' ⟨v, v', H', μ', rfl, q1, q2, q3, q4, q5, q6⟩
  obtain ⟨k1, k2⟩ := hR.trim q2 q3 q6
  have e := flat_eq q1 1 q5
  subst e
  exact ⟨v', v', H, μ, rfl, flat_rel 1 _ q5, k1, k2, q4, rfl⟩
theorem ACalls.trim1 {P : Program} {G : Nat} {f : FuncId} {args : List Value} {H : AHeap} {v0 : Value} (hv : flat 1 v0 = true) (h : ACalls P G f args H fun v H' => v = v0 ∧ Keeps [] H H') : ACalls P G f args H fun v H' => v = v0 ∧ H' = H :=
  (h.mono fun v H' ⟨h1, h2⟩ => (⟨h1, by rw [h1]; exact hv, h2⟩ : v = v0 ∧ flat 1 v = true ∧ Keeps [] H H')).trim
theorem ACalls.trimD {P : Program} {G : Nat} {f : FuncId} {args : List Value} {H : AHeap} {v0 : Value} {d : Nat} (hv : flat d v0 = true) (h : ACalls P G f args H fun v H' => v = v0 ∧ Keeps [] H H') : ACalls P G f args H fun v H' => v = v0 ∧ H' = H := by
  intro μ w args' hR hA
  refine (h μ w args' hR hA).mono ?_
  rintro e w' ⟨v, v', H', μ', rfl, q1, q2, q3, rfl, q6⟩
  obtain ⟨k1, k2⟩ := hR.trim q2 q3 q6
  have e := flat_eq q1 d hv
  subst e
  exact ⟨v', v', H, μ, rfl, flat_rel d _ hv, k1, k2, rfl, rfl⟩
theorem keeps_iff (H : AHeap) (o : AObj) (H0 : AHeap) (h : Keeps [] H0 H) : Keeps [] H0 (H.new o) := h.trans (Keeps.new _ _ _)
attribute [go_sem] Keeps.refl Keeps.new
theorem Keeps.new' {W : List Nat} {H0 H : AHeap} (o : AObj) (h : Keeps W H0 H) : Keeps W H0 (H.new o) := h.trans (Keeps.new _ _ _)
theorem Keeps.set' {H0 H : AHeap} {i : Nat} {o : AObj} (h : Keeps [] H0 H) (h1 : H0.next ≤ i) (h2 : i < H.next) : Keeps [] H0 (H.set i o) := h.setNew o h1 h2
attribute [go_sem] Keeps.new' Keeps.set'
@[go_sem] theorem next_lt_one (n : Nat) : (n < n + 1) = True := by simp
@[go_sem] theorem next_ne_one (n : Nat) : (n = n + 1) = False := by simp
@[go_sem] theorem next_ne_one' (n : Nat) : (n + 1 = n) = False := by simp
@[go_sem] theorem next_lt_two (n : Nat) : (n < n + 2) = True := by simp
@[go_sem] theorem next_le (n k : Nat) : (n ≤ n + k) = True := by simp
@[go_sem] theorem next_le0 (n : Nat) : (n ≤ n) = True := by simp
end Go.Eng
