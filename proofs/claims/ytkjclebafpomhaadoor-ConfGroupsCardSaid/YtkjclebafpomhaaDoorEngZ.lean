/- The engine, part 26: from a law that is proved on the abstract heap to the world's own: the arguments' rows, laid under names; what the row asks behind the call. -/
import Derived.Test.YtkjclebafpomhaaDoorEngU
import Derived.Carry
import Derived.ChangeSame
import Derived.RowKit
import Derived.OpenShut
import Derived.WideKeyArgs
set_option linter.unusedVariables false
set_option linter.unusedSimpArgs false
namespace Go.Eng
open Go Go.ChangeShapes Go.RowKit

/-- A row of cells that came in. -/
structure RIn where
  b : Nat
  s : Nat
  sz : Nat
  cs : List Value
def RIn.fin (r : RIn) : Nat := r.s + r.cs.length
def RIn.ok (W : World) (r : RIn) : Prop := ∃ arr e fr, W.heap[r.b]? = some (.cells arr e fr) ∧ r.sz = arr.size ∧ r.s + r.cs.length ≤ arr.size ∧ (∀ i, i < r.cs.length → arr.getD (r.s + i) undef = r.cs.getD i undef) ∧ ∀ x ∈ r.cs, flat 0 x = true ∧ one x = true
def finOf (rs : List RIn) (i : Nat) : Nat := ((rs[i]?).map RIn.fin).getD 0
def ahead (rs : List RIn) (j i : Nat) : Bool := decide (finOf rs j < finOf rs i) || (decide (finOf rs j = finOf rs i) && decide (j < i))
def parsOf (rs : List RIn) (i : Nat) : List Nat := ((List.range rs.length).filter fun j => ahead rs j i).map (· + 4)
def inObj (rs : List RIn) (i : Nat) : Option AObj := (rs[i]?).map fun r => .cells r.cs true (parsOf rs i) 1
def inHeap (rs : List RIn) : AHeap := { t := .lf, next := 4 + rs.length, back := fun i => if i < 4 then none else inObj rs (i - 4) }
def inMu (rs : List RIn) : Mu := fun i => if i < 4 then some ⟨i, 0, 0, 0⟩ else (rs[i - 4]?).map fun r => ⟨r.b, r.s, r.sz, 1⟩
theorem inHeap_next (rs : List RIn) : (inHeap rs).next = 4 + rs.length := rfl
theorem inHeap_get (rs : List RIn) (i : Nat) : (inHeap rs).get i = if i < 4 then none else inObj rs (i - 4) := by
  rcases Nat.lt_or_ge i (4 + rs.length) with h | h
  · rw [AHeap.get_in (by exact h)]; rfl
  · rw [AHeap.get_out (by exact h), if_neg (by omega)]
    unfold inObj
    rw [List.getElem?_eq_none (by omega)]; rfl
theorem inHeap_row {rs : List RIn} {i : Nat} {r : RIn} (h : rs[i]? = some r) : (inHeap rs).get (4 + i) = some (.cells r.cs true (parsOf rs i) 1) := by
  rw [inHeap_get, if_neg (by omega), Nat.add_sub_cancel_left]; unfold inObj; rw [h]; rfl
theorem inMu_row {rs : List RIn} {i : Nat} {r : RIn} (h : rs[i]? = some r) : inMu rs (4 + i) = some ⟨r.b, r.s, r.sz, 1⟩ := by
  unfold inMu; rw [if_neg (by omega), Nat.add_sub_cancel_left, h]; rfl
theorem inHeap_some {rs : List RIn} {i : Nat} {o : AObj} (h : (inHeap rs).get i = some o) : ∃ k r, i = 4 + k ∧ rs[k]? = some r ∧ o = .cells r.cs true (parsOf rs k) 1 := by
  rw [inHeap_get] at h
  split at h
  · cases h
  · obtain ⟨r, h1, h2⟩ := Option.map_eq_some_iff.1 h
    exact ⟨i - 4, r, by omega, h1, h2.symm⟩
theorem mem_pars {rs : List RIn} {i j : Nat} (hj : j < rs.length) (h : ahead rs j i = true) : 4 + j ∈ parsOf rs i := by
  unfold parsOf
  rw [List.mem_map]
  exact ⟨j, List.mem_filter.2 ⟨List.mem_range.2 hj, h⟩, by omega⟩
theorem of_pars {rs : List RIn} {i k : Nat} (h : k ∈ parsOf rs i) : ∃ j, k = 4 + j ∧ j < rs.length ∧ ahead rs j i = true := by
  unfold parsOf at h
  rw [List.mem_map] at h
  obtain ⟨j, h1, h2⟩ := h
  obtain ⟨h3, h4⟩ := List.mem_filter.1 h1
  exact ⟨j, by omega, List.mem_range.1 h3, h4⟩
theorem in_rel {W : World} {rs : List RIn} (h : ∀ r ∈ rs, r.ok W) : Rel 4 (inMu rs) (inHeap rs) W where
  dom := fun i o hi => by
    obtain ⟨k, r, rfl, hk, rfl⟩ := inHeap_some hi
    obtain ⟨arr, e, fr, h1, h2, h3, h4, h5⟩ := h r (List.mem_of_getElem? hk)
    refine ⟨_, _, inMu_row hk, h1, .cells (lo := fr.1) (hi := fr.2) h2 rfl h3 (fun i hi => ?_) (fun x hx => (h5 x hx).2) (fun hf => by cases hf) (fun hf => by cases hf)⟩
    show VRel _ (r.cs.getD i undef) (arr.getD (r.s + i) undef)
    rw [h4 i hi]
    refine flat_rel 0 _ (h5 _ ?_).1
    rw [List.getD_eq_getElem?_getD, List.getElem?_eq_getElem hi]
    exact List.getElem_mem hi
  fin := fun i p hp => by
    unfold inMu at hp
    rw [inHeap_next]
    split at hp
    · omega
    · obtain ⟨r, h1, _⟩ := Option.map_eq_some_iff.1 hp
      have := (List.getElem?_eq_some_iff.1 h1).1
      omega
  base := by rw [inHeap_next]; omega
  glob := fun g hg => ⟨_, by unfold inMu; rw [if_pos hg], rfl, rfl⟩
  sep := fun i j oi oj pi pj hn hi hj _ _ _ => by
    obtain ⟨a, r, rfl, ha, rfl⟩ := inHeap_some hi
    obtain ⟨b, u, rfl, hb, rfl⟩ := inHeap_some hj
    have la := (List.getElem?_eq_some_iff.1 ha).1
    have lb := (List.getElem?_eq_some_iff.1 hb).1
    have : ahead rs a b = true ∨ ahead rs b a = true := by
      unfold ahead
      simp only [Bool.or_eq_true, Bool.and_eq_true, decide_eq_true_eq]
      omega
    rcases this with h | h
    · exact .inl (mem_pars la h)
    · exact .inr (mem_pars lb h)
  ro := fun i j oi oj hi hj _ => by
    obtain ⟨a, r, rfl, ha, rfl⟩ := inHeap_some hi
    rfl
  plt := fun i o j hi hj => by
    obtain ⟨a, r, rfl, ha, rfl⟩ := inHeap_some hi
    obtain ⟨k, rfl, hk, _⟩ := of_pars hj
    exact ⟨_, inMu_row (List.getElem?_eq_getElem hk)⟩
  pend := fun i j oi oj pi pj hi hj hij h1 h2 _ => by
    obtain ⟨a, r, rfl, ha, rfl⟩ := inHeap_some hi
    obtain ⟨b, u, rfl, hb, rfl⟩ := inHeap_some hj
    rw [inMu_row ha] at h1
    rw [inMu_row hb] at h2
    injection h1 with h1; subst h1
    injection h2 with h2; subst h2
    obtain ⟨k, hk, _, hah⟩ := of_pars hij
    obtain rfl : a = k := by omega
    have e1 : finOf rs a = r.s + r.cs.length := by unfold finOf; rw [ha]; rfl
    have e2 : finOf rs b = u.s + u.cs.length := by unfold finOf; rw [hb]; rfl
    unfold ahead at hah
    rw [e1, e2] at hah
    simp only [Bool.or_eq_true, Bool.and_eq_true, decide_eq_true_eq] at hah
    show r.s + r.cs.length ≤ u.s + u.cs.length
    omega

/-- A law, brought to the world. -/
theorem law_world {P : Program} {f : FuncId} {args : List Value} {args' : Array Value} {rs : List RIn} {W : World} (h : ∀ r ∈ rs, r.ok W) (hA : LRel (inMu rs) args args'.toList) (hc : ACalls P 4 f args (inHeap rs) fun v _ => v = .bool true) :
    Calls P f args' W fun e W' => e = .returned (.bool true) ∧ Below W.heap.size W W' := by
  refine (hc _ W args' (in_rel h) hA).mono ?_
  rintro e W' ⟨v, v', H', μ', rfl, hv, _, hT, rfl⟩
  obtain rfl : v' = .bool true := flat_eq hv 0 rfl
  refine ⟨rfl, hT.ext.os, hT.ext.tape, hT.ext.output, hT.ext.size, fun k hk => hT.ext.block k hk ?_⟩
  rintro ⟨i, o, p, h1, h2, _, _⟩
  obtain ⟨a, r, rfl, ha, rfl⟩ := inHeap_some h1
  cases h2

section
variable {H : Type} {enc : TypeId × Value → H} {P : Program}
theorem trodAll_stays (hl : laidOutB P = true) {W W' : World} {sp' : Nat → Bool} : ∀ {ts : List TypeId} {vs : List Value} {ds : List (DataW H)} {ps : List MemPlace}, (∀ t ∈ ts, P.readableRec t = true ∧ t < P.types.size) →
    DataW.TrodAll enc P W 0 (fun _ => true) true ts vs ds ps → (∀ p ∈ ps, W.sameAt W' p) → (∀ p ∈ ps, sp' p.block = true) → DataW.TrodAll enc P W' 0 sp' true ts vs ds ps
  | [], _, _, _, _, h, _, _ => by
    obtain ⟨rfl, rfl, rfl⟩ := trodAll_nil h
    exact trodAll_mk0
  | t :: ts, _, _, _, hr, h, h1, h2 => by
    obtain ⟨v, vs', d, ds', p, q, rfl, rfl, rfl, h3, h4⟩ := trodAll_cons h
    have := hr t (by simp)
    exact trodAll_cons_mk (WideElems.Trod_stays hl this.1 this.2 h3 (fun x hx => h1 x (by simp [hx])) (fun x hx => h2 x (by simp [hx])))
      (trodAll_stays hl (fun t ht => hr t (by simp [ht])) h4 (fun x hx => h1 x (by simp [hx])) (fun x hx => h2 x (by simp [hx])))
theorem trodAll_len {W : World} {base : Nat} {sp : Nat → Bool} {hd : Bool} : ∀ {ts : List TypeId} {vs : List Value} {ds : List (DataW H)} {ps : List MemPlace}, DataW.TrodAll enc P W base sp hd ts vs ds ps → ds.length = ts.length
  | [], _, _, _, h => by
    obtain ⟨rfl, rfl, rfl⟩ := trodAll_nil h
    rfl
  | t :: ts, _, _, _, h => by
    obtain ⟨v, vs', d, ds', p, q, rfl, rfl, rfl, h3, h4⟩ := trodAll_cons h
    simp [trodAll_len h4]

/-- What the row asks behind the call of a law. -/
theorem law_post {fn : Func} {s : ChangeSpec} {apart fresh handsOn again : Bool} {W W' : World} {args : Array Value} {ds gs : List (DataW H)} {before : List MemPlace} {tb : TypeId}
    (hl : laidOutB P = true) (hr : ∀ t ∈ fn.params.toList, P.readableRec t = true ∧ t < P.types.size) (hres : fn.resultTypes = #[tb]) (hbool : P.underlying tb = some .bool) (hv : s.vars = [])
    (hs : ∀ l : List (DataW H), l.length = fn.params.toList.length → s.fn H l = { results := [.lit (.bool true)], args := l })
    (hW : DataW.Whole enc P fn.params.toList s.vars apart W args.toList ds gs before) (hb : Below W.heap.size W W') : s.post enc P fn apart fresh handsOn again W args (.bool true) W' := by
  have hlt := hW.lt
  have hW' := hW
  obtain ⟨p, q, hA, hV, rfl, hz, hn⟩ := hW
  rw [hv] at hV
  obtain ⟨rfl, rfl⟩ : gs = [] ∧ q = [] := by
    cases gs with
    | nil => exact ⟨rfl, hV⟩
    | cons g gs => exact absurd hV (by simp [DataW.TrodVars])
  have hfn : s.fn H (ds ++ []) = { results := [.lit (.bool true)], args := ds } := by rw [List.append_nil]; exact hs ds (trodAll_len hA)
  have hsame : ∀ x ∈ p, W.sameAt W' x := fun x hx => hb.same (hlt x (by simp [hx]))
  have hR : ∀ (b : Nat) (sp : Nat → Bool) (hd : Bool), DataW.TrodAll enc P W' b sp hd fn.resultTypes.toList ((Value.bool true).resultList fn.resultTypes.size) [.lit (.bool true)] [] := by
    intro b sp hd
    rw [hres]
    exact trodAll_cons_mk (shut_bool hbool _) trodAll_mk0
  have hvars : ∀ sp, DataW.TrodVars enc P W' sp s.vars [] [] := by intro sp; rw [hv]; rfl
  unfold ChangeSpec.post
  refine ⟨ds, [], p ++ [], [], p, [], hW', by rw [hfn]; exact hR _ _ _, by rw [hfn]; exact trodAll_stays hl hr hA hsame (fun x hx => by simpa using hlt x (by simp [hx])), by rw [hfn]; exact hvars _, hb.frame _, fun _ => ⟨?_, ?_⟩⟩
  · exact ok_one hres rfl (okWide_bool_mk hbool _)
  · refine ⟨_, [], p, ⟨[] ++ p, [], trodAll_append (trodAll_stays hl hr hA hsame (fun _ _ => rfl)) (hR _ _ _), hvars _, by simp, ?_, ?_⟩, fun x hx _ => by simpa using hx⟩
    · intro b off hx
      rw [hb.frozen (hlt _ (by simpa using hx))]
      exact hz b off (by simpa using hx)
    · intro ha
      simpa using hn ha
end
end Go.Eng
