/- The engine, part 26: from a law that is proved on the abstract heap to the world's own: the arguments' rows, laid under names; what the row asks behind the call. -/
import Derived.Test.YtkjclebafpomhaaDoorPDA8
import Derived.Carry
import Derived.ChangeSame
import Derived.RowKit
import Derived.OpenShut
import Derived.WideKeyArgs
import Derived.ChangeArms
import Derived.SizedLaws
set_option linter.unusedVariables false
set_option linter.unusedSimpArgs false
namespace Go.Eng
open Go Go.ChangeShapes Go.RowKit

/-- A row of cells that came in. -/
structure RIn where
  b : Nat
  s : Nat
  sz : Nat
  cs : List Value
def RIn.fin (r : RIn) : Nat := r.s + r.cs.length
def RIn.ok (W : World) (r : RIn) : Prop := ∃ arr e fr, W.heap[r.b]? = some (.cells arr e fr) ∧ r.sz = arr.size ∧ r.s + r.cs.length ≤ arr.size ∧ (∀ i, i < r.cs.length → arr.getD (r.s + i) undef = r.cs.getD i undef) ∧ ∀ x ∈ r.cs, flat 0 x = true ∧ one x = true
def finOf (rs : List RIn) (i : Nat) : Nat := ((rs[i]?).map RIn.fin).getD 0
def ahead (rs : List RIn) (j i : Nat) : Bool := decide (finOf rs j < finOf rs i) || (decide (finOf rs j = finOf rs i) && decide (j < i))
def parsOf (rs : List RIn) (i : Nat) : List Nat := ((List.range rs.length).filter fun j => ahead rs j i).map (· + 4)
def inObj (rs : List RIn) (i : Nat) : Option AObj := (rs[i]?).map fun r => .cells r.cs true (parsOf rs i) 1
def inHeap (rs : List RIn) : AHeap := { t := .lf, next := 4 + rs.length, back := fun i => if i < 4 then none else inObj rs (i - 4) }
def inMu (rs : List RIn) : Mu := fun i => if i < 4 then some ⟨i, 0, 0, 0⟩ else (rs[i - 4]?).map fun r => ⟨r.b, r.s, r.sz, 1⟩
theorem inHeap_next (rs : List RIn) : (inHeap rs).next = 4 + rs.length := rfl
theorem inHeap_get (rs : List RIn) (i : Nat) : (inHeap rs).get i = if i < 4 then none else inObj rs (i - 4) := by
  rcases Nat.lt_or_ge i (4 + rs.length) with h | h
  · rw [AHeap.get_in (by exact h)]; rfl
  · rw [AHeap.get_out (by exact h), if_neg (by omega)]
    unfold inObj
    rw [List.getElem?_eq_none (by omega)]; rfl
theorem inHeap_row {rs : List RIn} {i : Nat} {r : RIn} (h : rs[i]? = some r) : (inHeap rs).get (4 + i) = some (.cells r.cs true (parsOf rs i) 1) := by
  rw [inHeap_get, if_neg (by omega), Nat.add_sub_cancel_left]; unfold inObj; rw [h]; rfl
theorem inMu_row {rs : List RIn} {i : Nat} {r : RIn} (h : rs[i]? = some r) : inMu rs (4 + i) = some ⟨r.b, r.s, r.sz, 1⟩ := by
  unfold inMu; rw [if_neg (by omega), Nat.add_sub_cancel_left, h]; rfl
theorem inHeap_some {rs : List RIn} {i : Nat} {o : AObj} (h : (inHeap rs).get i = some o) : ∃ k r, i = 4 + k ∧ rs[k]? = some r ∧ o = .cells r.cs true (parsOf rs k) 1 := by
  rw [inHeap_get] at h
  split at h
  · cases h
  · obtain ⟨r, h1, h2⟩ := Option.map_eq_some_iff.1 h
    exact ⟨i - 4, r, by omega, h1, h2.symm⟩
theorem mem_pars {rs : List RIn} {i j : Nat} (hj : j < rs.length) (h : ahead rs j i = true) : 4 + j ∈ parsOf rs i := by
  unfold parsOf
  rw [List.mem_map]
  exact ⟨j, List.mem_filter.2 ⟨List.mem_range.2 hj, h⟩, by omega⟩
theorem of_pars {rs : List RIn} {i k : Nat} (h : k ∈ parsOf rs i) : ∃ j, k = 4 + j ∧ j < rs.length ∧ ahead rs j i = true := by
  unfold parsOf at h
  rw [List.mem_map] at h
  obtain ⟨j, h1, h2⟩ := h
  obtain ⟨h3, h4⟩ := List.mem_filter.1 h1
  exact ⟨j, by omega, List.mem_range.1 h3, h4⟩
theorem in_rel {W : World} {rs : List RIn} (h : ∀ r ∈ rs, r.ok W) : Rel 4 (inMu rs) (inHeap rs) W where
  dom := fun i o hi => by
    obtain ⟨k, r, rfl, hk, rfl⟩ := inHeap_some hi
    obtain ⟨arr, e, fr, h1, h2, h3, h4, h5⟩ := h r (List.mem_of_getElem? hk)
    refine ⟨_, _, inMu_row hk, h1, .cells (lo := fr.1) (hi := fr.2) h2 rfl h3 (fun i hi => ?_) (fun x hx => (h5 x hx).2) (fun hf => by cases hf) (fun hf => by cases hf)⟩
    show VRel _ (r.cs.getD i undef) (arr.getD (r.s + i) undef)
    rw [h4 i hi]
    refine flat_rel 0 _ (h5 _ ?_).1
    rw [List.getD_eq_getElem?_getD, List.getElem?_eq_getElem hi]
    exact List.getElem_mem hi
  fin := fun i p hp => by
    unfold inMu at hp
    rw [inHeap_next]
    split at hp
    · omega
    · obtain ⟨r, h1, _⟩ := Option.map_eq_some_iff.1 hp
      have := (List.getElem?_eq_some_iff.1 h1).1
      omega
  base := by rw [inHeap_next]; omega
  glob := fun g hg => ⟨_, by unfold inMu; rw [if_pos hg], rfl, rfl⟩
  sep := fun i j oi oj pi pj hn hi hj _ _ _ => by
    obtain ⟨a, r, rfl, ha, rfl⟩ := inHeap_some hi
    obtain ⟨b, u, rfl, hb, rfl⟩ := inHeap_some hj
    have la := (List.getElem?_eq_some_iff.1 ha).1
    have lb := (List.getElem?_eq_some_iff.1 hb).1
    have : ahead rs a b = true ∨ ahead rs b a = true := by
      unfold ahead
      simp only [Bool.or_eq_true, Bool.and_eq_true, decide_eq_true_eq]
      omega
    rcases this with h | h
    · exact .inl (mem_pars la h)
    · exact .inr (mem_pars lb h)
  ro := fun i j oi oj hi hj _ => by
    obtain ⟨a, r, rfl, ha, rfl⟩ := inHeap_some hi
    rfl
  plt := fun i o j hi hj => by
    obtain ⟨a, r, rfl, ha, rfl⟩ := inHeap_some hi
    obtain ⟨k, rfl, hk, _⟩ := of_pars hj
    exact ⟨_, inMu_row (List.getElem?_eq_getElem hk)⟩
  pend := fun i j oi oj pi pj hi hj hij h1 h2 _ => by
    obtain ⟨a, r, rfl, ha, rfl⟩ := inHeap_some hi
    obtain ⟨b, u, rfl, hb, rfl⟩ := inHeap_some hj
    rw [inMu_row ha] at h1
    rw [inMu_row hb] at h2
    injection h1 with h1; subst h1
    injection h2 with h2; subst h2
    obtain ⟨k, hk, _, hah⟩ := of_pars hij
    obtain rfl : a = k := by omega
    have e1 : finOf rs a = r.s + r.cs.length := by unfold finOf; rw [ha]; rfl
    have e2 : finOf rs b = u.s + u.cs.length := by unfold finOf; rw [hb]; rfl
    unfold ahead at hah
    rw [e1, e2] at hah
    simp only [Bool.or_eq_true, Bool.and_eq_true, decide_eq_true_eq] at hah
    show r.s + r.cs.length ≤ u.s + u.cs.length
    omega

/-- A law, brought to the world. -/
theorem law_world {P : Program} {f : FuncId} {args : List Value} {args' : Array Value} {rs : List RIn} {W : World} (h : ∀ r ∈ rs, r.ok W) (hA : LRel (inMu rs) args args'.toList) (hc : ACalls P 4 f args (inHeap rs) fun v _ => v = .bool true) :
    Calls P f args' W fun e W' => e = .returned (.bool true) ∧ Below W.heap.size W W' := by
  refine (hc _ W args' (in_rel h) hA).mono ?_
  rintro e W' ⟨v, v', H', μ', rfl, hv, _, hT, rfl⟩
  obtain rfl : v' = .bool true := flat_eq hv 0 rfl
  refine ⟨rfl, hT.ext.os, hT.ext.tape, hT.ext.output, hT.ext.size, fun k hk => hT.ext.block k hk ?_⟩
  rintro ⟨i, o, p, h1, h2, _, _⟩
  obtain ⟨a, r, rfl, ha, rfl⟩ := inHeap_some h1
  cases h2

section
variable {H : Type} {enc : TypeId × Value → H} {P : Program}
theorem trodAll_stays (hl : laidOutB P = true) {W W' : World} {sp' : Nat → Bool} : ∀ {ts : List TypeId} {vs : List Value} {ds : List (DataW H)} {ps : List MemPlace}, (∀ t ∈ ts, P.readableRec t = true ∧ t < P.types.size) →
    DataW.TrodAll enc P W 0 (fun _ => true) true ts vs ds ps → (∀ p ∈ ps, W.sameAt W' p) → (∀ p ∈ ps, sp' p.block = true) → DataW.TrodAll enc P W' 0 sp' true ts vs ds ps
  | [], _, _, _, _, h, _, _ => by
    obtain ⟨rfl, rfl, rfl⟩ := trodAll_nil h
    exact trodAll_mk0
  | t :: ts, _, _, _, hr, h, h1, h2 => by
    obtain ⟨v, vs', d, ds', p, q, rfl, rfl, rfl, h3, h4⟩ := trodAll_cons h
    have := hr t (by simp)
    exact trodAll_cons_mk (WideElems.Trod_stays hl this.1 this.2 h3 (fun x hx => h1 x (by simp [hx])) (fun x hx => h2 x (by simp [hx])))
      (trodAll_stays hl (fun t ht => hr t (by simp [ht])) h4 (fun x hx => h1 x (by simp [hx])) (fun x hx => h2 x (by simp [hx])))
theorem trodAll_len {W : World} {base : Nat} {sp : Nat → Bool} {hd : Bool} : ∀ {ts : List TypeId} {vs : List Value} {ds : List (DataW H)} {ps : List MemPlace}, DataW.TrodAll enc P W base sp hd ts vs ds ps → ds.length = ts.length
  | [], _, _, _, h => by
    obtain ⟨rfl, rfl, rfl⟩ := trodAll_nil h
    rfl
  | t :: ts, _, _, _, h => by
    obtain ⟨v, vs', d, ds', p, q, rfl, rfl, rfl, h3, h4⟩ := trodAll_cons h
    simp [trodAll_len h4]

/-- What the row asks behind the call of a law. -/
theorem law_post {fn : Func} {s : ChangeSpec} {apart fresh handsOn again : Bool} {W W' : World} {args : Array Value} {ds gs : List (DataW H)} {before : List MemPlace} {tb : TypeId}
    (hl : laidOutB P = true) (hr : ∀ t ∈ fn.params.toList, P.readableRec t = true ∧ t < P.types.size) (hres : fn.resultTypes = #[tb]) (hbool : P.underlying tb = some .bool) (hv : s.vars = [])
    (hs : ∀ l : List (DataW H), l.length = fn.params.toList.length → s.fn H l = { results := [.lit (.bool true)], args := l })
    (hW : DataW.Whole enc P fn.params.toList s.vars apart W args.toList ds gs before) (hb : Below W.heap.size W W') : s.post enc P fn apart fresh handsOn again W args (.bool true) W' := by
  have hlt := hW.lt
  have hW' := hW
  obtain ⟨p, q, hA, hV, rfl, hz, hn⟩ := hW
  rw [hv] at hV
  obtain ⟨rfl, rfl⟩ : gs = [] ∧ q = [] := by
    cases gs with
    | nil => exact ⟨rfl, hV⟩
    | cons g gs => exact absurd hV (by simp [DataW.TrodVars])
  have hfn : s.fn H (ds ++ []) = { results := [.lit (.bool true)], args := ds } := by rw [List.append_nil]; exact hs ds (trodAll_len hA)
  have hsame : ∀ x ∈ p, W.sameAt W' x := fun x hx => hb.same (hlt x (by simp [hx]))
  have hR : ∀ (b : Nat) (sp : Nat → Bool) (hd : Bool), DataW.TrodAll enc P W' b sp hd fn.resultTypes.toList ((Value.bool true).resultList fn.resultTypes.size) [.lit (.bool true)] [] := by
    intro b sp hd
    rw [hres]
    exact trodAll_cons_mk (shut_bool hbool _) trodAll_mk0
  have hvars : ∀ sp, DataW.TrodVars enc P W' sp s.vars [] [] := by intro sp; rw [hv]; rfl
  unfold ChangeSpec.post
  refine ⟨ds, [], p ++ [], [], p, [], hW', by rw [hfn]; exact hR _ _ _, by rw [hfn]; exact trodAll_stays hl hr hA hsame (fun x hx => by simpa using hlt x (by simp [hx])), by rw [hfn]; exact hvars _, hb.frame _, fun _ => ⟨?_, ?_⟩⟩
  · exact ok_one hres rfl (okWide_bool_mk hbool _)
  · refine ⟨_, [], p, ⟨[] ++ p, [], trodAll_append (trodAll_stays hl hr hA hsame (fun _ _ => rfl)) (hR _ _ _), hvars _, by simp, ?_, ?_⟩, fun x hx _ => by simpa using hx⟩
    · intro b off hx
      rw [hb.frozen (hlt _ (by simpa using hx))]
      exact hz b off (by simpa using hx)
    · intro ha
      simpa using hn ha
end
end Go.Eng
set_option linter.unusedVariables false
set_option linter.unusedSimpArgs false
namespace Go.Eng
open Go Go.ChangeShapes Go.RowKit

theorem chunk_mem {n c : Nat} {cs : List Value} (hl : cs.length = n * c) {v : Value} (hv : v ∈ cs) : ∃ i, i < n ∧ v ∈ (cs.drop (i * c)).take c := by
  obtain ⟨k, hk⟩ := List.mem_iff_getElem?.1 hv
  have hlt : k < n * c := by rw [← hl]; exact (List.getElem?_eq_some_iff.1 hk).1
  have hc : 0 < c := by
    rcases Nat.eq_zero_or_pos c with h | h
    · subst h; simp at hlt
    · exact h
  refine ⟨k / c, (Nat.div_lt_iff_lt_mul hc).2 hlt, List.mem_iff_getElem?.2 ⟨k % c, ?_⟩⟩
  rw [List.getElem?_take, if_pos (Nat.mod_lt _ hc), List.getElem?_drop, Nat.mul_comm, Nat.div_add_mod]
  exact hk

section
variable {H : Type} {enc : TypeId × Value → H} {P : Program} {W : World} {base fuel : Nat} {sp : Nat → Bool} {held : Bool} {t e : TypeId}
theorem rg (n k : Nat) : (List.range n)[k]? = if k < n then some k else none := by
  split
  · rename_i h; exact List.getElem?_range h
  · rename_i h; rw [List.getElem?_eq_none]; simpa using h
def rowC (arr : Array Value) (o n : Nat) : List Value := (List.range n).map fun k => arr.getD (o + k) undef
theorem rowC_len (arr : Array Value) (o n : Nat) : (rowC arr o n).length = n := by simp [rowC]
theorem rowC_chunk (arr : Array Value) (o i c m : Nat) (h : i * c + c ≤ m) : ((rowC arr o m).drop (i * c)).take c = rowC arr (o + i * c) c := by
  apply List.ext_getElem?
  intro k
  unfold rowC
  rw [List.getElem?_take, List.getElem?_map, rg]
  by_cases hk : k < c
  · rw [if_pos hk, List.getElem?_drop, List.getElem?_map, rg, if_pos (by omega), if_pos hk]
    simp only [Option.map_some]
    rw [Nat.add_assoc]
  · rw [if_neg hk, if_neg hk]; rfl
theorem cell_add {a : Addr} {i : Nat} {v : Value} (h : W.cell? (a.add i) = some v) : ∃ arr e fr, W.heap[a.block]? = some (.cells arr e fr) ∧ (i = 0 → a.spot = none) ∧ arr[a.off + i]? = some v := by
  have hb : (a.add i).block = a.block := by unfold Addr.add; split <;> rfl
  have ho : (a.add i).off = a.off + i := by
    unfold Addr.add; split
    · rename_i h; subst h; rfl
    · rfl
  unfold World.cell? at h
  rw [hb, ho] at h
  split at h
  · rename_i c e fr hc
    split at h
    · cases h
    · rename_i hs
      refine ⟨c, e, fr, hc, fun h0 => ?_, h⟩
      subst h0
      have : (a.add 0).spot = a.spot := by unfold Addr.add; rw [if_pos rfl]
      rw [this] at hs
      simpa using hs
  · cases h
theorem cells_row {a : Addr} {n : Nat} {cs : List Value} (h : W.cells? base a n = some cs) (hn : 0 < n) :
    ∃ arr e fr, W.heap[a.block]? = some (.cells arr e fr) ∧ a.spot = none ∧ a.off + n ≤ arr.size ∧ cs = rowC arr a.off n := by
  unfold World.cells? at h
  split at h
  case isFalse => cases h
  have hl := mapM_some_length h
  simp only [List.length_range] at hl
  have hg : ∀ i, i < n → W.cell? (a.add i) = cs[i]? := fun i hi => mapM_some_get h i i (by simp [hi])
  have hv : ∀ i, (hi : i < n) → cs[i]? = some (cs[i]'(by omega)) := fun i hi => List.getElem?_eq_getElem (by omega)
  obtain ⟨arr, e, fr, h1, h2, h3⟩ := cell_add ((hg 0 hn).trans (hv 0 hn))
  have hall : ∀ i, (hi : i < n) → arr[a.off + i]? = some (cs[i]'(by omega)) := fun i hi => by
    obtain ⟨arr', e', fr', k1, _, k3⟩ := cell_add ((hg i hi).trans (hv i hi))
    rw [h1] at k1; injection k1 with k1; injection k1 with k1; subst k1
    exact k3
  refine ⟨arr, e, fr, h1, h2 rfl, ?_, ?_⟩
  · have := (Array.getElem?_eq_some_iff.1 (hall (n - 1) (by omega))).1
    omega
  · apply List.ext_getElem?
    intro i
    unfold rowC
    rw [List.getElem?_map, rg]
    by_cases hi : i < n
    · rw [if_pos hi, hv i hi, Option.map_some, Array.getD_eq_getD_getElem?, hall i hi]; rfl
    · rw [if_neg hi, List.getElem?_eq_none (by omega)]; rfl

/-- A slice that came in: nil; with nothing in it; or a part of a row. -/
theorem slice_open {α : Type} {f : α → List Value} {good : α → Prop} {c : Nat} {v : Value} {x : DataW H × List MemPlace} (ht : P.underlying t = some (.slice e)) (hc : P.cellsOf e = c) (h0 : 0 < c)
    (hdec : ∀ n cs y, DataW.trod enc P W base sp held n e cs = some y → ∃ z, good z ∧ cs = f z) (h : DataW.trod enc P W base sp held fuel t [v] = some x) :
    ∃ l : List α, (∀ z ∈ l, good z) ∧ (l = [] ∨ ∃ es rest, x.1 = .slice es rest ∧ es.length = l.length) ∧ ((l = [] ∧ v = .slice none 0 0) ∨ (l = [] ∧ ∃ a cap, v = .slice (some a) 0 cap ∧ cap ≤ maxLen) ∨
      ∃ a cap arr te fr, v = .slice (some a) l.length cap ∧ a.spot = none ∧ l.length ≤ cap ∧ cap ≤ maxLen ∧ W.heap[a.block]? = some (.cells arr te fr) ∧ a.off + l.length * c ≤ arr.size ∧ ∀ i z, l[i]? = some z → rowC arr (a.off + i * c) c = f z) := by
  rcases DataW.trod_slice ht h with ⟨h1, _⟩ | ⟨a, len, cap, elems, rest, n, _, h1, hx, _, h2, h3, h4, h5, _⟩
  · injection h1 with h1
    exact ⟨[], by simp, .inl rfl, .inl ⟨rfl, h1⟩⟩
  injection h1 with h1 _
  rcases Nat.eq_zero_or_pos len with hz | hpos
  · subst hz
    exact ⟨[], by simp, .inl rfl, .inr (.inl ⟨rfl, a, cap, h1, h3⟩)⟩
  rw [hc] at h5
  have hel : ∀ i, i < len → ∃ cs y, W.cells? base (a.add (i * c)) c = some cs ∧ DataW.trod enc P W base sp held n e cs = some y := fun i hi => by
    have := h5 i hi
    rw [List.getElem?_eq_getElem (by omega)] at this
    obtain ⟨cs, k1, k2⟩ := Option.bind_eq_some_iff.1 this
    exact ⟨cs, _, k1, k2⟩
  have hblk : ∀ i : Nat, (a.add i).block = a.block := fun i => by unfold Addr.add; split <;> rfl
  have hoff : ∀ i : Nat, (a.add i).off = a.off + i := fun i => by
    unfold Addr.add; split
    · rename_i h; subst h; rfl
    · rfl
  obtain ⟨cs0, y0, k1, _⟩ := hel 0 hpos
  obtain ⟨arr, te, fr, r1, r2, r3, _⟩ := cells_row k1 h0
  rw [Nat.zero_mul] at r2
  have r2 : a.spot = none := by
    have : a.add 0 = a := by unfold Addr.add; rw [if_pos rfl]
    rwa [this] at r2
  rw [hblk] at r1
  have hrow : ∀ i, i < len → ∃ z, good z ∧ rowC arr (a.off + i * c) c = f z ∧ a.off + i * c + c ≤ arr.size := fun i hi => by
    obtain ⟨cs, y, k1, k2⟩ := hel i hi
    obtain ⟨arr', te', fr', s1, _, s3, s4⟩ := cells_row k1 h0
    rw [hblk, r1] at s1
    injection s1 with s1; injection s1 with s1; subst s1
    rw [hoff] at s3 s4
    obtain ⟨z, g1, g2⟩ := hdec n cs y k2
    exact ⟨z, g1, s4.symm.trans g2, s3⟩
  let pick : Nat → α := fun i => if hi : i < len then (hrow i hi).choose else (hrow 0 hpos).choose
  have hpick : ∀ i, i < len → good (pick i) ∧ rowC arr (a.off + i * c) c = f (pick i) ∧ a.off + i * c + c ≤ arr.size := fun i hi => by
    show good (if hi : i < len then (hrow i hi).choose else _) ∧ _
    have e : pick i = (hrow i hi).choose := dif_pos hi
    rw [dif_pos hi, e]
    exact (hrow i hi).choose_spec
  refine ⟨(List.range len).map pick, ?_, .inr ⟨_, _, by rw [hx], by simpa using h4⟩, .inr (.inr ⟨a, cap, arr, te, fr, by simpa using h1, r2, by simpa using h2, h3, r1, ?_, ?_⟩)⟩
  · intro z hz
    obtain ⟨i, hi, rfl⟩ := List.mem_map.1 hz
    exact (hpick i (by simpa using hi)).1
  · have := (hpick (len - 1) (by omega)).2.2
    have e : (len - 1) * c + c = len * c := by rw [← Nat.succ_mul]; congr 1; omega
    simp; omega
  · intro i z hz
    rw [List.getElem?_map] at hz
    obtain ⟨j, hj, rfl⟩ := Option.map_eq_some_iff.1 hz
    obtain ⟨hlt, rfl⟩ := List.getElem?_eq_some_iff.1 hj
    simp only [List.getElem_range]
    simp only [List.length_range] at hlt
    exact (hpick i hlt).2.1

/-- Whole numbers, side by side: an array of them. -/
def intC (k : IntKind) (v : Value) : Prop := ∃ n, v = .int k n ∧ (Lit.int k n).wf = true
theorem arr_ints {n : Nat} {k : IntKind} {cs : List Value} {x : DataW H × List MemPlace} (ht : P.underlying t = some (.array n e)) (hc : P.cellsOf e = 1) (hn : P.cellsOf t = n) (he : P.underlying e = some (.int k))
    (h : DataW.trod enc P W base sp held fuel t cs = some x) : cs.length = n ∧ ∀ v ∈ cs, intC k v := by
  obtain ⟨xs, m, _, _, h1, h2, h3⟩ := DataW.trod_array ht h
  refine ⟨h1.trans hn, fun v hv => ?_⟩
  obtain ⟨i, hi, hm⟩ := chunk_mem (n := n) (c := 1) (by rw [h1, hn, Nat.mul_one]) hv
  have := h3 i hi
  rw [hc, List.getElem?_eq_getElem (by omega)] at this
  obtain ⟨z, e1, _, e3⟩ := DataW.trod_int he this
  rw [e1] at hm
  exact ⟨z, by simpa using hm, e3⟩
theorem arr_arr {p : Value → Prop} {n c : Nat} {cs : List Value} {x : DataW H × List MemPlace} (ht : P.underlying t = some (.array n e)) (hc : P.cellsOf e = c) (hn : P.cellsOf t = n * c)
    (he : ∀ m cs x, DataW.trod enc P W base sp held m e cs = some x → ∀ v ∈ cs, p v) (h : DataW.trod enc P W base sp held fuel t cs = some x) : cs.length = n * c ∧ ∀ v ∈ cs, p v := by
  obtain ⟨xs, m, _, _, h1, h2, h3⟩ := DataW.trod_array ht h
  refine ⟨h1.trans hn, fun v hv => ?_⟩
  obtain ⟨i, hi, hm⟩ := chunk_mem (n := n) (c := c) (by rw [h1, hn]) hv
  have := h3 i hi
  rw [hc, List.getElem?_eq_getElem (by omega)] at this
  exact he _ _ _ this v hm
theorem ints_of {k : IntKind} : ∀ {cs : List Value}, (∀ v ∈ cs, intC k v) → ∃ l : List Int, cs = l.map (.int k ·) ∧ ∀ x ∈ l, (Lit.int k x).wf = true := by
  intro cs
  induction cs with
  | nil => intro _; exact ⟨[], rfl, by simp⟩
  | cons v cs ih =>
    intro h
    obtain ⟨l, h1, h2⟩ := ih fun v hv => h v (by simp [hv])
    obtain ⟨n, rfl, h3⟩ := h v (by simp)
    refine ⟨n :: l, by rw [h1]; rfl, fun x hx => ?_⟩
    rcases List.mem_cons.1 hx with rfl | hx
    · exact h3
    · exact h2 x hx
end

/-- What is known of a slice's places. -/
def capOK (s : Value) : Prop := s = .slice none 0 0 ∨ (∃ a l c, s = .slice (some a) l c ∧ l ≤ c ∧ c < grow) ∨ ∃ a, s = .slice (some a) 0 empt
theorem wf_u8 {n : Int} (h : (Lit.int .u8 n).wf = true) : 0 ≤ n ∧ n ≤ 255 := by
  simpa [Lit.wf, IntKind.min, IntKind.max, IntKind.signed, IntKind.bits] using h
theorem wf_u16 {n : Int} (h : (Lit.int .u16 n).wf = true) : 0 ≤ n ∧ n ≤ 65535 := by
  simpa [Lit.wf, IntKind.min, IntKind.max, IntKind.signed, IntKind.bits] using h
theorem wf_i64 {n : Int} (h : (Lit.int .i64 n).wf = true) : -9223372036854775808 ≤ n ∧ n ≤ 9223372036854775807 := by
  simpa [Lit.wf, IntKind.min, IntKind.max, IntKind.signed, IntKind.bits] using h
end Go.Eng
set_option linter.unusedVariables false
set_option linter.unusedSimpArgs false
set_option maxRecDepth 100000
namespace Go.Proofs.YtkjclebafpomhaaDoor
open Go Go.Eng Go.ChangeShapes Go.RowKit

theorem LRel.flat0 {μ : Mu} {l : List Value} (h : ∀ v ∈ l, flat 0 v = true) : LRel μ l l := ⟨rfl, fun i hi => by
  rw [List.getD_eq_getElem?_getD, List.getElem?_eq_getElem hi]; exact flat_rel 0 _ (h _ (List.getElem_mem hi))⟩

/-- The row of a slice that came in; its value on the abstract heap. -/
theorem slice_arg {α : Type} {f : α → List Value} {good : α → Prop} {c : Nat} {v : Value} {W : World} {l : List α} (hz : ∃ z te fr, W.heap[0]? = some (.cells z te fr)) (hp : ∀ z, good z → ∀ x ∈ f z, flat 0 x = true ∧ one x = true) (hl : ∀ z ∈ l, good z)
    (h : (l = [] ∧ v = .slice none 0 0) ∨ (l = [] ∧ ∃ a cap, v = .slice (some a) 0 cap ∧ cap ≤ maxLen) ∨
      ∃ a cap arr te fr, v = .slice (some a) l.length cap ∧ a.spot = none ∧ l.length ≤ cap ∧ cap ≤ maxLen ∧ W.heap[a.block]? = some (.cells arr te fr) ∧ a.off + l.length * c ≤ arr.size ∧ ∀ i z, l[i]? = some z → rowC arr (a.off + i * c) c = f z) :
    ∃ (r : RIn) (sv : Nat → Value), r.ok W ∧ (∀ rs k, rs[k]? = some r → VRel (inMu rs) (sv k) v ∧ SlcE (inHeap rs) (sv k) f c l ∧ capOK (sv k)) := by
  have hml : maxLen < grow := by decide
  obtain ⟨z, te, fr, hz⟩ := hz
  have nil_ok : RIn.ok W ⟨0, 0, z.size, []⟩ := ⟨z, te, fr, hz, rfl, by simp, fun i hi => by simp at hi, by simp⟩
  rcases h with ⟨rfl, rfl⟩ | ⟨rfl, a, cap, rfl, h1⟩ | ⟨a, cap, arr, te, fr, rfl, h1, h2, h3, h4, h5, h6⟩
  · exact ⟨⟨0, 0, z.size, []⟩, fun _ => .slice none 0 0, nil_ok, fun rs k _ => ⟨.sliceNil, .inl ⟨rfl, rfl⟩, .inl rfl⟩⟩
  · exact ⟨⟨0, 0, z.size, []⟩, fun k => .slice (some ⟨4 + k, 0, none⟩) 0 empt, nil_ok, fun rs k hk => ⟨.empty (by omega), .inr ⟨4 + k, empt, _, _, _, _, rfl, inHeap_row hk, fun i z hz => by simp at hz⟩, .inr (.inr ⟨_, rfl⟩)⟩⟩
  · have hcl : l.length * c = (rowC arr a.off (l.length * c)).length := (rowC_len _ _ _).symm
    refine ⟨⟨a.block, a.off, arr.size, rowC arr a.off (l.length * c)⟩, fun k => .slice (some ⟨4 + k, 0, none⟩) l.length cap, ⟨arr, te, fr, h4, rfl, by rw [rowC_len]; exact h5, fun i hi => ?_, fun x hx => ?_⟩, fun rs k hk => ⟨?_, ?_, .inr (.inl ⟨_, _, _, rfl, h2, by omega⟩)⟩⟩
    · rw [rowC_len] at hi
      show _ = (rowC arr a.off (l.length * c)).getD i undef
      unfold rowC
      rw [List.getD_eq_getElem?_getD, List.getElem?_map, rg, if_pos hi]
      rfl
    · obtain ⟨i, hi, hm⟩ := chunk_mem (rowC_len arr a.off (l.length * c)) hx
      have hic : i * c + c ≤ l.length * c := by rw [← Nat.succ_mul]; exact Nat.mul_le_mul_right c hi
      rw [rowC_chunk _ _ _ _ _ hic, h6 i _ (List.getElem?_eq_getElem hi)] at hm
      exact hp _ (hl _ (List.getElem_mem hi)) _ hm
    · have := VRel.slice (o := 0) (l := l.length) (c := cap) (c' := cap) (inMu_row hk) ⟨h2, by omega, .inl ⟨by omega, rfl⟩⟩
      obtain ⟨ab, ao, asp⟩ := a
      simp only at h1
      subst h1
      exact this
    · refine .inr ⟨4 + k, cap, _, _, _, _, rfl, inHeap_row hk, fun i z hz => ?_⟩
      have hi := (List.getElem?_eq_some_iff.1 hz).1
      have hic : i * c + c ≤ l.length * c := by rw [← Nat.succ_mul]; exact Nat.mul_le_mul_right c hi
      show ((rowC arr a.off (l.length * c)).drop (i * c)).take c = _ ∧ _ ≤ (rowC arr a.off (l.length * c)).length
      rw [rowC_chunk _ _ _ _ _ hic, rowC_len]
      exact ⟨h6 i z hz, hic⟩

section
variable {H : Type} {enc : TypeId × Value → H} {W : World} {base fuel : Nat} {sp : Nat → Bool} {held : Bool}
theorem c5 : Tryd.prog.cellsOf 5 = 1 := by kernel_rfl
theorem c23 : Tryd.prog.cellsOf 23 = 25 := by kernel_rfl
theorem c24 : Tryd.prog.cellsOf 24 = 1 := by kernel_rfl
theorem c26 : Tryd.prog.cellsOf 26 = 27 := by kernel_rfl
theorem b5 : Tryd.prog.bytesOf 5 = 1 := by kernel_rfl
theorem bytes_dec : ∀ n cs (y : DataW H × List MemPlace), DataW.trod enc Tryd.prog W base sp held n 5 cs = some y → ∃ z : Int, (0 ≤ z ∧ z ≤ 255) ∧ cs = [Value.int .u8 z] := fun n cs y h => by
  obtain ⟨z, h1, _, h2⟩ := DataW.trod_int Tryd.underlying5 h
  exact ⟨z, wf_u8 h2, h1⟩
/-- A Size that came in. -/
theorem size_open {v : Value} {d : DataW H} {ps : List MemPlace} (hz : ∃ z te fr, W.heap[0]? = some (.cells z te fr)) (hok : Value.okWide Tryd.prog W .any 0 26 v) (h : DataW.Trod enc Tryd.prog W base sp held 26 v d ps)
    {ts : List TypeId} {ds : List (DataW H)} {j : Nat} (hj : ts[j]? = some 26) (hd : ds[j]? = some d) (hw : (DataW.weightsEach Tryd.prog ts ds).all (· ≤ reachBytes) = true) :
    ∃ (a : Int) (arr bytes : List Int) (r : RIn) (sv : Nat → Value), (0 ≤ a ∧ a ≤ 255) ∧ arr.length = 25 ∧ (∀ x ∈ arr, 0 ≤ x ∧ x ≤ 255) ∧ (∀ x ∈ bytes, 0 ≤ x ∧ x ≤ 255) ∧ bytes.length ≤ reachBytes ∧ r.ok W ∧
      ∀ rs k, rs[k]? = some r → VRel (inMu rs) (.agg (sizeCells a arr (sv k)).toArray) v ∧ SlcE (inHeap rs) (sv k) (fun x => [Value.int .u8 x]) 1 bytes := by
  obtain ⟨fuel, h⟩ := h
  obtain ⟨cs, rfl, hcs⟩ : ∃ cs, v = .agg cs ∧ cs.size = 27 := by
    unfold Value.okWide at hok
    rw [Tryd.underlying26] at hok
    obtain ⟨cs, h1, h2, _⟩ := hok
    exact ⟨cs, h1, h2.trans c26⟩
  have hcl : (Value.agg cs).cells.toList = cs.toList := rfl
  rw [hcl] at h
  obtain ⟨xs, n, _, hx, h1, h2, h3⟩ := DataW.trod_struct Tryd.underlying26 h
  have hxl : xs.length = 3 := h2
  have f0 := h3 0 _ rfl
  have f1 := h3 1 _ rfl
  have f2 := h3 2 _ rfl
  have f0 : DataW.trod enc Tryd.prog W base sp held n 5 ((cs.toList.drop 0).take (Tryd.prog.cellsOf 5)) = xs[0]? := f0
  have f1 : DataW.trod enc Tryd.prog W base sp held n 23 ((cs.toList.drop 1).take (Tryd.prog.cellsOf 23)) = xs[1]? := f1
  have f2 : DataW.trod enc Tryd.prog W base sp held n 24 ((cs.toList.drop 26).take (Tryd.prog.cellsOf 24)) = xs[2]? := f2
  rw [c5] at f0
  rw [c23] at f1
  rw [c24] at f2
  rw [List.getElem?_eq_getElem (by omega)] at f0 f1 f2
  obtain ⟨a, e0, _, w0⟩ := DataW.trod_int Tryd.underlying5 f0
  obtain ⟨l1, m1⟩ := arr_arr (n := 5) (c := 5) (p := intC .u8) Tryd.underlying23 (by kernel_rfl) (by kernel_rfl) (fun m cs x hh => (arr_ints (n := 5) Tryd.underlying22 c5 (by kernel_rfl) Tryd.underlying5 hh).2) f1
  obtain ⟨arr, e1, w1⟩ := ints_of m1
  obtain ⟨s, e2⟩ : ∃ s, (cs.toList.drop 26).take 1 = [s] := by
    have : ((cs.toList.drop 26).take 1).length = 1 := by simp; omega
    match hq : (cs.toList.drop 26).take 1, this with
    | [s], _ => exact ⟨s, rfl⟩
  rw [e2] at f2
  obtain ⟨bytes, w2, hlen, hsl⟩ := slice_open (f := fun x : Int => [Value.int .u8 x]) (good := fun x => 0 ≤ x ∧ x ≤ 255) (c := 1) Tryd.underlying24 c5 (by omega) bytes_dec f2
  obtain ⟨r, sv, hr, hrs⟩ := slice_arg (f := fun x : Int => [Value.int .u8 x]) hz (fun z _ x hx => by simp at hx; subst hx; exact ⟨rfl, rfl⟩) w2 hsl
  have hall : cs.toList = sizeCells a arr s := by
    have e : cs.toList = (cs.toList.drop 0).take 1 ++ ((cs.toList.drop 1).take 25 ++ (cs.toList.drop 26).take 1) := by
      have hl : cs.toList.length = 27 := by simpa using hcs
      have q1 : (cs.toList.drop 26).take 1 = cs.toList.drop 26 := List.take_of_length_le (by simp; omega)
      have q2 : cs.toList.drop 26 = (cs.toList.drop 1).drop 25 := by rw [List.drop_drop]
      rw [q1, q2, List.take_append_drop, List.drop_zero, List.take_append_drop]
    rw [e, e0, e1, e2]
    rfl
  have harr : arr.length = 25 := by
    have := congrArg List.length e1
    rw [l1] at this
    simpa using this.symm
  refine ⟨a, arr, bytes, r, sv, wf_u8 w0, harr, fun x hx => wf_u8 (w1 x hx), w2, ?_, hr, fun rs k hk => ⟨?_, (hrs rs k hk).2.1⟩⟩
  · rcases hlen with rfl | ⟨es, rest, q1, q2⟩
    · simp
    · rw [← q2]
      have hmem : (es.length + rest.length) * 1 ∈ d.weights Tryd.prog 26 := by
        injection hx with hx1 hx2
        have hx1 : d = .agg (xs.map (·.1)) := hx1
        rw [hx1]
        simp only [DataW.weights, Tryd.underlying26]
        refine DataW.weights_mem_each (j := 2) (t := 24) (d := .slice es rest) rfl ?_ _ ?_
        · rw [List.getElem?_map, List.getElem?_eq_getElem (by omega), Option.map_some, q1]
        · simp [DataW.weights, Tryd.underlying24, b5]
      have := List.all_eq_true.1 hw _ (DataW.weights_mem_each hj hd _ hmem)
      simp only [decide_eq_true_eq] at this
      omega
  · have hL : LRel (inMu rs) (sizeCells a arr (sv k)) (sizeCells a arr s) :=
      LRel.cons (flat_rel 0 _ rfl) (LRel.append (LRel.flat0 (by intro v hv; obtain ⟨x, _, rfl⟩ := List.mem_map.1 hv; rfl)) (LRel.cons (hrs rs k hk).1 LRel.nil))
    have : cs = (sizeCells a arr s).toArray := by rw [← hall]
    rw [this]
    have := hL.arr
    exact .agg this.1 this.2
end
end Go.Proofs.YtkjclebafpomhaaDoor
set_option linter.unusedVariables false
set_option linter.unusedSimpArgs false
set_option maxRecDepth 100000
namespace Go.Proofs.YtkjclebafpomhaaDoor
open Go Go.Eng

/-! ### Rows that grow -/
/-! ### Slices cut -/
theorem info48 : (tb.info 48).map (·.size) = some 2 := by kernel_rfl
theorem info38 : (tb.info 38).map (·.size) = some 9 := by kernel_rfl
theorem und44 : tb.und 44 = some (.slice 48) := by kernel_rfl
theorem und43 : tb.und 43 = some (.slice 38) := by kernel_rfl
theorem aSlice_marks {sm : Value} {marks : List (Int × Int)} {H : AHeap} (hm : SlcE H sm mkC 2 marks) (hc : capOK sm) {m : Nat} (hml : m ≤ marks.length) :
    ∃ s, (∀ G, aSlice tb 44 sm none (some (.int .i64 (m : Nat))) none G = some s) ∧ SlcE H s mkC 2 (marks.take m) ∧ ∃ ra ca, s = .slice ra m ca := by
  obtain ⟨inf, hi, hs⟩ := Option.map_eq_some_iff.1 info48
  rcases hm with ⟨rfl, rfl⟩ | ⟨b, c, row, ro, par, gs, rfl, hrow, hel⟩
  · obtain rfl : m = 0 := by simpa using hml
    refine ⟨.slice none 0 0, fun G => ?_, .inl ⟨rfl, rfl⟩, none, 0, rfl⟩
    unfold aSlice
    simp only [und44, hi, Option.bind_some, bnd_some (Nat.le_refl 0)]
    rfl
  · have hel' : Elems mkC 2 row (marks.take m) := fun k a h => hel k a (by
      rw [List.getElem?_take] at h
      split at h
      · exact h
      · cases h)
    have hlen : (marks.take m).length = m := by simp; omega
    rcases hc with h | ⟨a, l, c', h, h1, h2⟩ | ⟨a, h⟩
    · cases h
    · injection h with e1 e2 e3
      injection e1 with e1
      subst e1; subst e3
      refine ⟨.slice (some ⟨b, 0, none⟩) m c, fun G => ?_, .inr ⟨b, c, row, ro, par, gs, by rw [hlen], hrow, hel'⟩, _, _, rfl⟩
      unfold aSlice
      simp only [und44, hi]
      rw [if_pos h2, if_pos (by omega), bnd_some (by omega)]
      simp only [Option.bind_some, bnd, Option.map_some, Nat.zero_mul, Nat.add_zero, Nat.sub_zero, ite_self]
    · injection h with e1 e2 e3
      injection e1 with e1
      subst e1; subst e3
      obtain rfl : m = 0 := by omega
      refine ⟨.slice (some ⟨b, 0, none⟩) 0 empt, fun G => ?_, .inr ⟨b, empt, row, ro, par, gs, by rw [hlen], hrow, hel'⟩, _, _, rfl⟩
      unfold aSlice
      simp only [und44, hi]
      rw [if_neg (by unfold empt grow; omega), if_neg (by omega), bnd_some (Nat.le_refl 0)]
      simp only [Option.bind_some, bnd, Option.map_some]
theorem aSlice_one {b n : Nat} {cs : List Value} {par : List Nat} {H : AHeap} (hb : H.get b = some (.cells cs false par 9)) (h1 : 1 ≤ n) (h2 : n < grow) :
    aSlice tb 43 (.slice (some ⟨b, 0, none⟩) n (grow + n)) none (some (.int .i64 1)) none H = some (.slice (some ⟨b, 0, none⟩) 1 (grow + n)) := by
  obtain ⟨inf, hi, hs⟩ := Option.map_eq_some_iff.1 info38
  have h3 : bnd (some (Value.int .i64 1)) n (grow + n - grow) = some 1 := bnd_some (h := 1) (by omega) n
  unfold aSlice
  simp only [und43, hi]
  rw [if_neg (by omega), if_pos (by unfold empt grow at *; omega), if_pos ⟨by omega, by unfold gsOf; rw [hb, hs]⟩, h3]
  simp only [Option.bind_some, bnd, Option.map_some]
  rw [if_neg (by unfold grow; omega)]
  simp
theorem min_two (P : Program) (T : Tb) (ts : Array TypeId) (n : Nat) (H : AHeap) : aBuiltin P T .min ts [.int .i64 (n : Nat), .int .i64 2] H = some (.int .i64 ((min n 2 : Nat) : Int), H) := by
  show (if ([Value.int .i64 (n : Nat), .int .i64 2]).all (flat 0) then okFlat (prun P (Builtin.min_ #[] 0 (#[Value.int .i64 (n : Nat), .int .i64 2]))) H else none) = _
  rw [if_pos (show ([Value.int .i64 (n : Nat), .int .i64 2]).all (flat 0) = true from rfl)]
  have : prun P (Builtin.min_ #[] 0 (#[Value.int .i64 (n : Nat), .int .i64 2])) = some (.int .i64 ((min n 2 : Nat) : Int)) := by
    show prun P (do let y ← Builtin.min2 (.int .i64 (n : Nat)) (.int .i64 2); pure y) = _
    show prun P (pure (Value.int .i64 (if (2 : Int) < (n : Nat) then 2 else (n : Nat)))) = _
    rw [prun_pure]
    congr 2
    split <;> omega
  rw [this]
  rfl

/-! ### A label with something turned -/
theorem set_flat {l : List RegD} {k o : Nat} {r : RegD} {vs : List Value} (hk : l[k]? = some r) (r' : RegD) (ho : o + vs.length ≤ 9) (h : r'.cells = r.cells.take o ++ (vs ++ r.cells.drop (o + vs.length))) :
    (l.flatMap RegD.cells).take (k * 9 + o) ++ (vs ++ (l.flatMap RegD.cells).drop (k * 9 + o + vs.length)) = (l.set k r').flatMap RegD.cells := by
  induction l generalizing k with
  | nil => simp at hk
  | cons a l ih =>
    have ha : a.cells.length = 9 := RegD.cells_length a
    cases k with
    | zero =>
      simp at hk; subst hk
      simp only [List.set_cons_zero, List.flatMap_cons, Nat.zero_mul, Nat.zero_add]
      rw [List.take_append_of_le_length (by omega), List.drop_append_of_le_length (by omega), h]
      simp
    | succ k =>
      have e1 : (k + 1) * 9 + o = a.cells.length + (k * 9 + o) := by omega
      have e2 : a.cells.length + (k * 9 + o) + vs.length = a.cells.length + (k * 9 + o + vs.length) := by omega
      simp only [List.set_cons_succ, List.flatMap_cons]
      rw [e1, e2, List.take_append, List.drop_append]
      have e3 : a.cells.take (a.cells.length + (k * 9 + o)) = a.cells := List.take_of_length_le (by omega)
      have e4 : a.cells.drop (a.cells.length + (k * 9 + o + vs.length)) = [] := List.drop_of_length_le (by omega)
      rw [e3, e4, Nat.add_sub_cancel_left, Nat.add_sub_cancel_left, List.nil_append, List.append_assoc, ih (by simpa using hk)]
end Go.Proofs.YtkjclebafpomhaaDoor
set_option linter.unusedVariables false
set_option linter.unusedSimpArgs false
set_option maxRecDepth 100000
namespace Go.Proofs.YtkjclebafpomhaaDoor
open Go Go.Eng
def s4 : Specs := spAdd sp0 12 F12
theorem s4_12 : s4 12 = some F12 := id rfl
theorem s4_19 : s4 19 = none := id rfl
theorem s4_20 : s4 20 = none := id rfl
theorem s4_21 : s4 21 = none := id rfl
theorem s4_22 : s4 22 = none := id rfl
theorem s4_ok : SpsOK s4 := spAdd_ok sp0_ok sp12
def okR (l : List RegD) : Prop := ∀ r ∈ l, (0 ≤ r.lev ∧ r.lev ≤ 255) ∧ 0 ≤ r.cats ∧ r.cats ≤ 65535
def okM (l : List (Int × Int)) : Prop := (∀ m ∈ l, 0 ≤ m.1 ∧ m.1 ≤ 255 ∧ 0 ≤ m.2 ∧ m.2 ≤ 65535) ∧ l.length ≤ 1000
def goodR (H : AHeap) (v : Value) : Prop := ∃ l, SlcE H v RegD.cells 9 l ∧ okR l
def goodM (H : AHeap) (v : Value) : Prop := ∃ l, SlcE H v mkC 2 l ∧ okM l
theorem goodR.keeps {H H' : AHeap} {v : Value} (h : goodR H v) (k : Keeps [] H H') : goodR H' v := by obtain ⟨l, h1, h2⟩ := h; exact ⟨l, h1.keeps k, h2⟩
theorem goodM.keeps {H H' : AHeap} {v : Value} (h : goodM H v) (k : Keeps [] H H') : goodM H' v := by obtain ⟨l, h1, h2⟩ := h; exact ⟨l, h1.keeps k, h2⟩
theorem finRegs_ok {many : Nat} {arr : List Int} (hm : many ≤ 5) : okR (finRegs many arr) ∧ ∀ r ∈ finRegs many arr, r.name.size ≤ 8 := by
  refine ⟨fun r hr => ?_, fun r hr => ?_⟩ <;>
  · simp only [finRegs, List.mem_map, List.mem_range] at hr
    obtain ⟨k, hk, rfl⟩ := hr
    have : k = 0 ∨ k = 1 ∨ k = 2 ∨ k = 3 ∨ k = 4 := by omega
    rcases this with rfl | rfl | rfl | rfl | rfl <;> simp [finReg, preReg, mkReg, lbL, lbC, nmB] <;> decide
set_option maxHeartbeats 8000000 in
theorem makes_c {H : AHeap} {sr sm sl : Value} {regs : List RegD} {marks : List (Int × Int)} {a at_ wh n : Int} {arr bytes : List Int} (hr : SlcE H sr RegD.cells 9 regs) (hm : SlcE H sm mkC 2 marks) (hcm : capOK sm) (hrw : okR regs) (hmw : ∀ m ∈ marks, 0 ≤ m.1 ∧ m.1 ≤ 255 ∧ 0 ≤ m.2 ∧ m.2 ≤ 65535)
    (ha : 0 ≤ a ∧ a ≤ 255) (h25 : arr.length = 25) (hb : ∀ x ∈ arr, 0 ≤ x ∧ x ≤ 255) (hs : SlcE H sl (fun x => [Value.int .u8 x]) 1 bytes) (hbb : ∀ x ∈ bytes, 0 ≤ x ∧ x ≤ 255) (hlen : bytes.length < 4611686018427387904) (hat : 0 ≤ at_ ∧ at_ ≤ 255) (hwh : 0 ≤ wh ∧ wh ≤ 255) :
    ACalls Tryd.prog 4 4 [sr, sm, .agg (sizeCells a arr sl).toArray, .int .u8 at_, .int .u8 wh, .int .i64 n] H fun v H' => v = .bool true := by
  refine walk s4_ok (fn := Tryd.f4) (by kernel_rfl) (c := Tryd.f4.body.get (by kernel_rfl)) (by kernel_rfl) (by simp [Tryd.f4]) ?_
  simp only [Tryd.f4, Option.get]
  rw [hideB 2]
  have qone : (sizeCells a arr sl).all one = true := by
    have h1 : one sl = true := by
      rcases hs with ⟨_, rfl⟩ | ⟨b, c, row, ro, par, gs, rfl, _⟩
      · exact one_slice ..
      · exact one_slice ..
    simp only [sizeCells, List.all_cons, List.all_append, h1, List.all_nil, Bool.and_true, Bool.and_eq_true, List.all_eq_true, List.mem_map]
    exact ⟨rfl, by rintro x ⟨y, _, rfl⟩; rfl⟩
  have ql : (sizeCells a arr sl).length = 27 := by simp [sizeCells, h25]
  have qt : (sizeCells a arr sl).take 27 = sizeCells a arr sl := List.take_of_length_le (by omega)
  have ql' : 27 ≤ (sizeCells a arr sl).length := by omega
  have hK1 : Keeps [] H (H.new (.cells (sizeCells a arr sl) false [] 0)) := (Keeps.refl [] H).new' _
  obtain ⟨m2, m5, me⟩ := size_many ha
  have hsr : ∃ ra ca, sr = .slice ra regs.length ca := by
    rcases hr with ⟨rfl, rfl⟩ | ⟨b, c, row, ro, par, gs, rfl, _⟩
    · exact ⟨none, 0, rfl⟩
    · exact ⟨_, _, rfl⟩
  have hsm : ∃ rm cm, sm = .slice rm marks.length cm := by
    rcases hm with ⟨rfl, rfl⟩ | ⟨b, c, row, ro, par, gs, rfl, _⟩
    · exact ⟨none, 0, rfl⟩
    · exact ⟨_, _, rfl⟩
  obtain ⟨ra, ca, hsr⟩ := hsr
  obtain ⟨rm, cm, hsm⟩ := hsm
  by_cases c1 : 70 < (regs.length : Int)
  · subst hsr
    simp only [go_sem, Nat.reduceLT, Nat.reduceEqDiff, ↓reduceIte, Nat.reduceAdd, Nat.zero_add, Nat.add_zero, Nat.reduceLeDiff, Int.reduceEq, Nat.reduceMul, List.take_zero, List.drop_succ_cons, List.drop_zero, List.nil_append, List.append_nil, List.drop_nil, List.take_succ_cons, List.take_nil, List.cons_append, Int.toNat_natCast, Int.toNat_zero, Int.toNat_one, qone, s4_12, F12_eq, fn_ex, c1]
  by_cases c2 : 60 < (marks.length : Int)
  · subst hsr; subst hsm
    simp only [go_sem, Nat.reduceLT, Nat.reduceEqDiff, ↓reduceIte, Nat.reduceAdd, Nat.zero_add, Nat.add_zero, Nat.reduceLeDiff, Int.reduceEq, Nat.reduceMul, List.take_zero, List.drop_succ_cons, List.drop_zero, List.nil_append, List.append_nil, List.drop_nil, List.take_succ_cons, List.take_nil, List.cons_append, Int.toNat_natCast, Int.toNat_zero, Int.toNat_one, qone, s4_12, F12_eq, fn_ex, c1, c2]
  have h19 := ACalls.grew (regs_cL ha h25 hb (hs.keeps hK1) hbb hlen)
  subst hsr; subst hsm
  simp only [go_sem, Nat.reduceLT, Nat.reduceEqDiff, ↓reduceIte, Nat.reduceAdd, Nat.zero_add, Nat.add_zero, Nat.reduceLeDiff, Int.reduceEq, Nat.reduceMul, List.take_zero, List.drop_succ_cons, List.drop_zero, List.nil_append, List.append_nil, List.drop_nil, List.take_succ_cons, List.take_nil, List.cons_append, Int.toNat_natCast, Int.toNat_zero, Int.toNat_one, qone, ql', qt, s4_12, s4_19, F12_eq, fn_ex, c1, c2]
  refine callsx_of (cxS_ok s4_ok) (fn := Tryd.f19) (by kernel_rfl) (by kernel_rfl) h19 ?_
  rintro v X ⟨⟨hK, sr2, sm2, rfl, h1, h2⟩, hG⟩
  generalize hmany : (2 + a.tmod 4).toNat = many at *
  rw [← me] at h2
  have mok : okM (marksOf (many : Nat) bytes 0 []) := ⟨fun m hm => by
    rcases marksOf_mem _ _ _ _ _ hm with hm | ⟨x, hx, rfl⟩
    · cases hm
    · have := mark_ok m2 (hbb x hx); omega, by have := marksOf_len many bytes 0 [] (by simp) (by simp); omega⟩
  have mok9 := marksOf_len many bytes 0 [] (by simp) (by simp)
  generalize marksOf (many : Nat) bytes 0 [] = bM at *
  obtain ⟨rok, rsz⟩ := finRegs_ok (arr := arr) m5
  have hal := fin_len many arr
  generalize finRegs many arr = aR at *
  rw [hal] at h1
  rcases h1 with ⟨h, _⟩ | ⟨bA, parA, _, rfl, hbA, hloA, _, hparA⟩
  · omega
  simp only [AHeap.next_new] at hloA hparA h2
  have hbl := AHeap.get_lt hbA
  have hKX := hK1.trans hK
  have hHX := hKX.le
  obtain ⟨s44, hs44, hm44, r4, c4, e44⟩ := aSlice_marks hm hcm (m := min marks.length 2) (by omega)
  have hm3 : IntKind.wrap .i64 ((marks.length : Nat) : Int) = (marks.length : Nat) := by rw [wrap64] <;> omega
  have hmml : min marks.length 2 ≤ marks.length := Nat.min_le_left _ _
  have hmm2 : min marks.length 2 ≤ 2 := Nat.min_le_right _ _
  generalize hmm : min marks.length 2 = mm at *
  subst e44
  simp only [go_sem, Nat.reduceLT, Nat.reduceEqDiff, ↓reduceIte, Nat.reduceAdd, Nat.zero_add, Nat.add_zero, Nat.reduceLeDiff, Int.reduceEq, Nat.reduceMul, List.take_zero, List.drop_succ_cons, List.drop_zero, List.nil_append, List.append_nil, List.drop_nil, List.take_succ_cons, List.take_nil, List.cons_append, Int.toNat_natCast, Int.toNat_zero, Int.toNat_one, min_two, hmm, hs44]
  obtain ⟨p, hp⟩ : ∃ p : Nat → Prop, p = fun j => H.next + 1 ≤ j ∧ j ≠ bA ∧ j ∉ parA := ⟨_, rfl⟩
  have hpn : ∀ j, X.next ≤ j → p j := fun j hj => by
    rw [hp]
    refine ⟨by omega, by omega, fun h => ?_⟩
    have := (hG bA _ hbA j h).1
    omega
  have hpA : ∀ j, p j → j ≠ bA ∧ j ∉ parA := fun j h => by rw [hp] at h; exact ⟨h.2.1, h.2.2⟩
  have hpL : ∀ j, p j → H.next + 1 ≤ j := fun j h => by rw [hp] at h; exact h.1
  have hbM : RowP X p sm2 bM.length 2 (bM.flatMap mkC) := by
    rcases h2 with h | ⟨b, par, q1, q2, q3, q4, _, _⟩
    · exact .inl h
    · refine .inr ⟨b, par, q1, q2, q3, ?_⟩
      rw [hp]
      refine ⟨q4, fun e => ?_, fun h => ?_⟩
      · rw [e, hbA] at q3; injection q3 with q3; injection q3 with _ _ _ q3; omega
      · have := (hG bA _ hbA b h).2 _ q3
        cases this
  clear h2 hp
  refine codeW_loop (fun nn τ Y => ∃ k : Nat, nn = mm - k ∧ k ≤ mm ∧ tget τ 0 = .slice ra regs.length ca ∧ tget τ 1 = .slice rm marks.length cm ∧ tget τ 3 = .int .u8 at_ ∧ tget τ 4 = .int .u8 wh ∧ tget τ 5 = .int .i64 n ∧ tget τ 13 = .slice (some ⟨bA, 0, none⟩) many (grow + many) ∧ tget τ 44 = .slice r4 mm c4 ∧ tget τ 45 = .int .i64 mm ∧ tget τ 46 = .int .i64 (k : Nat) ∧
    X.next ≤ Y.next ∧ (∀ j, j < X.next → ¬ p j → Y.get j = X.get j) ∧ RowP Y p (tget τ 14) (bM.length + k) 2 ((bM ++ marks.take k).flatMap mkC)) (n := mm) ⟨0, rfl, Nat.zero_le _, ?_, ?_, ?_, ?_, ?_, ?_, ?_, ?_, ?_, Nat.le_refl _, fun _ _ _ => rfl, ?_⟩ ?_
  · simp only [go_sem, Nat.reduceLT, Nat.reduceEqDiff, ↓reduceIte, Nat.reduceAdd, Nat.zero_add, Nat.add_zero, Nat.reduceLeDiff, Int.reduceEq, Nat.reduceMul]
  · simp only [go_sem, Nat.reduceLT, Nat.reduceEqDiff, ↓reduceIte, Nat.reduceAdd, Nat.zero_add, Nat.add_zero, Nat.reduceLeDiff, Int.reduceEq, Nat.reduceMul]
  · simp only [go_sem, Nat.reduceLT, Nat.reduceEqDiff, ↓reduceIte, Nat.reduceAdd, Nat.zero_add, Nat.add_zero, Nat.reduceLeDiff, Int.reduceEq, Nat.reduceMul]
  · simp only [go_sem, Nat.reduceLT, Nat.reduceEqDiff, ↓reduceIte, Nat.reduceAdd, Nat.zero_add, Nat.add_zero, Nat.reduceLeDiff, Int.reduceEq, Nat.reduceMul]
  · simp only [go_sem, Nat.reduceLT, Nat.reduceEqDiff, ↓reduceIte, Nat.reduceAdd, Nat.zero_add, Nat.add_zero, Nat.reduceLeDiff, Int.reduceEq, Nat.reduceMul]
  · simp only [go_sem, Nat.reduceLT, Nat.reduceEqDiff, ↓reduceIte, Nat.reduceAdd, Nat.zero_add, Nat.add_zero, Nat.reduceLeDiff, Int.reduceEq, Nat.reduceMul, hal]
  · simp only [go_sem, Nat.reduceLT, Nat.reduceEqDiff, ↓reduceIte, Nat.reduceAdd, Nat.zero_add, Nat.add_zero, Nat.reduceLeDiff, Int.reduceEq, Nat.reduceMul]
  · simp only [go_sem, Nat.reduceLT, Nat.reduceEqDiff, ↓reduceIte, Nat.reduceAdd, Nat.zero_add, Nat.add_zero, Nat.reduceLeDiff, Int.reduceEq, Nat.reduceMul]
  · simp only [go_sem, Nat.reduceLT, Nat.reduceEqDiff, ↓reduceIte, Nat.reduceAdd, Nat.zero_add, Nat.add_zero, Nat.reduceLeDiff, Int.reduceEq, Nat.reduceMul]; rfl
  · simp only [go_sem, Nat.reduceLT, Nat.reduceEqDiff, ↓reduceIte, Nat.reduceAdd, Nat.zero_add, Nat.add_zero, Nat.reduceLeDiff, Int.reduceEq, Nat.reduceMul]; simpa using hbM
  clear hbM
  rintro nn τ Y ⟨k, rfl, hk, t0, t1, t3, t4, t5, t13, t44, t45, t46, hXY, hold, hrp⟩
  obtain ⟨s14, t14⟩ : ∃ s, tget τ 14 = s := ⟨_, rfl⟩
  rw [t14] at hrp
  by_cases hlt : k < mm
  · have hkm : k < marks.length := by omega
    obtain ⟨⟨ma, mb⟩, hmk⟩ : ∃ m, marks[k]? = some m := ⟨_, List.getElem?_eq_getElem hkm⟩
    rcases hm44 with ⟨h, _⟩ | ⟨b4, c4', row4, ro4, par4, gs4, e0, hrow4, hel4⟩
    · have := congrArg List.length h; rw [List.length_take, List.length_nil] at this; omega
    have hlen4 : (marks.take mm).length = mm := by simp; omega
    rw [hlen4] at e0
    injection e0 with e1 e2 e3
    subst e1; subst e3
    have hmk4 : (marks.take mm)[k]? = some (ma, mb) := by rw [List.getElem?_take, if_pos hlt]; exact hmk
    obtain ⟨f1, f2⟩ := hel4 k _ hmk4
    have h4n : ¬ p b4 := fun h => by have := hpL _ h; have := AHeap.get_lt hrow4; omega
    have y4 : Y.get b4 = some (.cells row4 ro4 par4 gs4) := by rw [hold b4 (by have := AHeap.get_lt hrow4; omega) h4n]; exact hKX.get hrow4 (by simp)
    have y4l := AHeap.get_lt y4
    have hz : (0 : Int) ≤ (k : Int) := by omega
    have hd : (k : Int) < (mm : Int) := by omega
    have hw : IntKind.wrap .i64 ((k : Int) + 1) = ((k + 1 : Nat) : Int) := by rw [wrap64] <;> omega
    have hlen2 : (bM.length + k) * 2 = ((bM ++ marks.take k).flatMap mkC).length := by
      rw [flat_len (f := mkC) (n := 2) (fun _ => rfl), List.length_append, List.length_take]; congr 1; omega
    have yA : ∀ k, b4 < Y.next + k := fun k => by omega
    have yB : ∀ k, b4 ≠ Y.next + k := fun k => by omega
    have yC : b4 ≠ Y.next := by omega
    have kp : Keeps [] Y (((Y.new (.cells [.int .u8 0, .int .u16 0] false [] 0)).set Y.next (.cells [.int .u8 ma, .int .u16 mb] false [] 0)).new (.cells [.int .u8 ma, .int .u16 mb] false [] 2)) := (((Keeps.refl [] Y).new' _).set' (by omega) (by simp)).new' _
    obtain ⟨s', U, u1, u2, u3, u4⟩ := app_rowP (by_ := 4) (vs := [.int .u8 ma, .int .u16 mb]) (hrp.keeps kp) hlen2 rfl (by have := mok.2; omega) (by have := mok.2; unfold grow; omega) (fun j hj => hpn j (by have := kp.le; omega))
    simp only [go_sem, Nat.reduceLT, Nat.reduceEqDiff, ↓reduceIte, Nat.reduceAdd, Nat.zero_add, Nat.add_zero, Nat.reduceLeDiff, Int.reduceEq, Nat.reduceMul, List.take_zero, List.drop_succ_cons, List.drop_zero, List.nil_append, List.append_nil, List.drop_nil, List.take_succ_cons, List.take_nil, List.cons_append, Int.toNat_natCast, Int.toNat_zero, Int.toNat_one, t0, t1, t3, t4, t5, t13, t14, t44, t45, t46, y4, y4l, yA, yB, yC, hz, hd, f1, f2, mkC, u1, hw]
    simp only [AHeap.next_new, AHeap.next_set] at u3
    refine ⟨mm - (k + 1), by omega, k + 1, rfl, hlt, rfl, by omega, fun j hj hnp => ?_, ?_⟩
    · rw [u4 j (by simp; omega) (.inl hnp), kp.old j (by omega) (by simp), hold j hj hnp]
    · have e : marks.take (k + 1) = marks.take k ++ [(ma, mb)] := by rw [List.take_add_one, hmk]; rfl
      rw [e, ← List.append_assoc, List.flatMap_append]
      exact u2
  · obtain rfl : k = mm := by omega
    have hd : ¬ ((k : Int) < (k : Int)) := by omega
    have hbY : Y.get bA = some (.cells (aR.flatMap RegD.cells) false parA 9) := by rw [hold bA hbl (fun h => (hpA _ h).1 rfl)]; exact hbA
    have hblY := AHeap.get_lt hbY
    obtain ⟨q, hq, hqm⟩ : ∃ q : Nat, at_.tmod many = q ∧ q < many := by
      rw [Int.tmod_eq_emod_of_nonneg hat.1]
      exact ⟨(at_ % many).toNat, by have := Int.emod_nonneg at_ (show (many : Int) ≠ 0 by omega); omega, by have := Int.emod_lt_of_pos at_ (show (0 : Int) < many by omega); have := Int.emod_nonneg at_ (show (many : Int) ≠ 0 by omega); omega⟩
    have hatw : IntKind.wrap .i64 at_ = at_ := by rw [wrap64] <;> omega
    have hm0 : ¬ ((many : Int) = 0) := by omega
    have hz : (0 : Int) ≤ (q : Int) := by omega
    have hqd : (q : Int) < (many : Int) := by omega
    have n12 : ¬ ((12 : Int) = 0) := by omega
    obtain ⟨r, hrq⟩ : ∃ r, aR[q]? = some r := ⟨_, List.getElem?_eq_getElem (by omega)⟩
    simp only [go_sem, Nat.reduceLT, Nat.reduceEqDiff, ↓reduceIte, Nat.reduceAdd, Nat.zero_add, Nat.add_zero, Nat.reduceLeDiff, Int.reduceEq, Nat.reduceMul, List.take_zero, List.drop_succ_cons, List.drop_zero, List.nil_append, List.append_nil, List.drop_nil, List.take_succ_cons, List.take_nil, List.cons_append, Int.toNat_natCast, Int.toNat_zero, Int.toNat_one, t0, t1, t3, t4, t5, t13, t14, t44, t45, t46, hd, hatw, hm0, hq, hz, hqd, n12]
    obtain ⟨P, hP⟩ : ∃ P : Tmps → AHeap → Prop, P = fun τ Z => ∃ (a' : List RegD) (par' : List Nat), a'.length = many ∧ okR a' ∧ tget τ 0 = .slice ra regs.length ca ∧ tget τ 1 = .slice rm marks.length cm ∧ tget τ 13 = .slice (some ⟨bA, 0, none⟩) many (grow + many) ∧ tget τ 14 = s14 ∧ Z.get bA = some (.cells (a'.flatMap RegD.cells) false par' 9) ∧ RowP Z p s14 (bM.length + k) 2 ((bM ++ marks.take k).flatMap mkC) ∧ Keeps [] H Z := ⟨_, rfl⟩
    have hHY : Keeps [] H Y := ⟨by omega, fun j hj _ => by rw [hold j (by omega) (fun h => by have := hpL j h; omega), hKX.old j hj (by simp)]⟩
    refine codeW_post P ?_ ?_
    · rw [← hideB 2]
      obtain ⟨w, hw, hw12⟩ : ∃ w : Nat, wh.tmod 12 = w ∧ w < 12 := by
        rw [Int.tmod_eq_emod_of_nonneg hwh.1]
        exact ⟨(wh % 12).toNat, by omega, by omega⟩
      have hcl : (aR.flatMap RegD.cells).length = many * 9 := by rw [flat_len RegD.cells_length, hal]
      have hL : ∀ o, o ≤ 9 → q * 9 + o ≤ (aR.flatMap RegD.cells).length := fun o ho => by rw [hcl]; omega
      have hel : Elems RegD.cells 9 (aR.flatMap RegD.cells) aR := fun k g h => flat_at RegD.cells_length aR k g h
      obtain ⟨r0, hr0⟩ : ∃ r, aR[0]? = some r := ⟨_, List.getElem?_eq_getElem (by omega)⟩
      have nmq : (aR.flatMap RegD.cells)[q * 9]? = some (.string r.name) := hel.cell q 0 r hrq (by omega)
      have nm0 : (aR.flatMap RegD.cells)[0]? = some (.string r0.name) := (show (aR.flatMap RegD.cells)[0]? = (aR.flatMap RegD.cells)[0 * 9 + 0]? by rw [Nat.zero_mul, Nat.zero_add]).trans (hel.cell 0 0 r0 hr0 (by omega))
      have hsz : r.name.size + ByteArray.size ⟨#[120]⟩ < 9223372036854775808 := by
        have := rsz r (List.mem_of_getElem? hrq)
        have : ByteArray.size ⟨#[120]⟩ = 1 := rfl
        omega
      have hpm : (0 : Int) < (many : Int) := by omega
      have hz8 : (0 : Int) ≤ 8 := by omega
      have hz0 : ((0 : Int) ≤ 0) = True := by simp
      have okS : ∀ r' : RegD, ((0 ≤ r'.lev ∧ r'.lev ≤ 255) ∧ 0 ≤ r'.cats ∧ r'.cats ≤ 65535) → okR (aR.set q r') := fun r' h x hx => by
        rcases List.mem_or_eq_of_mem_set hx with hx | rfl
        · exact rok x hx
        · exact h
      have rq := rok r (List.mem_of_getElem? hrq)
      have bw6 : (0 ≤ IntKind.wrap .u8 n ∧ IntKind.wrap .u8 n ≤ 255) ∧ 0 ≤ IntKind.wrap .u16 (shrI .i64 n 8) ∧ IntKind.wrap .u16 (shrI .i64 n 8) ≤ 65535 := by rw [wu8, w16]; omega
      have fin : ∀ (τ' : Tmps) (r' : RegD) (cs : List Value), cs = (aR.set q r').flatMap RegD.cells → ((0 ≤ r'.lev ∧ r'.lev ≤ 255) ∧ 0 ≤ r'.cats ∧ r'.cats ≤ 65535) → tget τ' 0 = .slice ra regs.length ca → tget τ' 1 = .slice rm marks.length cm → tget τ' 13 = .slice (some ⟨bA, 0, none⟩) many (grow + many) → tget τ' 14 = s14 → P τ' ((Y.dels parA).set bA (.cells cs false [] 9)) := fun τ' r' cs hcs hr' g0 g1 g13 g14 => by
        rw [hP]
        refine ⟨aR.set q r', [], by rw [List.length_set, hal], okS r' hr', g0, g1, g13, g14, ?_, hrp.poke hpA hblY, ?_⟩
        · rw [get_set_self _ (by simpa using hblY), hcs]
        · refine ⟨by simpa using hHY.le, fun j hj _ => ?_⟩
          rw [get_set_ne _ (by omega) (by simpa using hblY), AHeap.get_dels, if_neg (fun h => by have := (hparA j h).1; omega), hHY.old j hj (by simp)]
      rcases (show w = 0 ∨ w = 1 ∨ w = 2 ∨ w = 3 ∨ w = 4 ∨ w = 5 ∨ w = 6 ∨ w = 7 ∨ w = 8 ∨ 9 ≤ w by omega) with rfl | rfl | rfl | rfl | rfl | rfl | rfl | rfl | rfl | h9
      · simp only [go_sem, Nat.reduceLT, Nat.reduceEqDiff, ↓reduceIte, Nat.reduceAdd, Nat.zero_add, Nat.add_zero, Nat.reduceLeDiff, Int.reduceEq, Nat.reduceMul, List.take_zero, List.drop_succ_cons, List.drop_zero, List.nil_append, List.append_nil, List.drop_nil, List.take_succ_cons, List.take_nil, List.cons_append, Int.toNat_natCast, Int.toNat_zero, Int.toNat_one, Int.reduceLT, Int.reduceLE, Int.cast_ofNat_Int, Int.reduceToNat, Int.reduceAdd, Int.reduceSub, Int.reduceMul, Int.reduceNeg, t0, t1, t5, t13, t14, hw, hbY, hblY, hL, nmq, nm0, hsz, hpm, hz8, hz0]
        exact fin _ { r with blocks := n } _ ((List.append_assoc ..).trans <| set_flat (o := 3) (vs := [.int .i64 n]) hrq { r with blocks := n } (by simp) rfl) rq (by simp only [go_sem, Nat.reduceLT, Nat.reduceEqDiff, ↓reduceIte, Nat.reduceAdd, Nat.zero_add, Nat.add_zero, Nat.reduceLeDiff, Int.reduceEq, Nat.reduceMul, t0]) (by simp only [go_sem, Nat.reduceLT, Nat.reduceEqDiff, ↓reduceIte, Nat.reduceAdd, Nat.zero_add, Nat.add_zero, Nat.reduceLeDiff, Int.reduceEq, Nat.reduceMul, t1]) (by simp only [go_sem, Nat.reduceLT, Nat.reduceEqDiff, ↓reduceIte, Nat.reduceAdd, Nat.zero_add, Nat.add_zero, Nat.reduceLeDiff, Int.reduceEq, Nat.reduceMul, t13]) (by simp only [go_sem, Nat.reduceLT, Nat.reduceEqDiff, ↓reduceIte, Nat.reduceAdd, Nat.zero_add, Nat.add_zero, Nat.reduceLeDiff, Int.reduceEq, Nat.reduceMul, t14])
      · simp only [go_sem, Nat.reduceLT, Nat.reduceEqDiff, ↓reduceIte, Nat.reduceAdd, Nat.zero_add, Nat.add_zero, Nat.reduceLeDiff, Int.reduceEq, Nat.reduceMul, List.take_zero, List.drop_succ_cons, List.drop_zero, List.nil_append, List.append_nil, List.drop_nil, List.take_succ_cons, List.take_nil, List.cons_append, Int.toNat_natCast, Int.toNat_zero, Int.toNat_one, Int.reduceLT, Int.reduceLE, Int.cast_ofNat_Int, Int.reduceToNat, Int.reduceAdd, Int.reduceSub, Int.reduceMul, Int.reduceNeg, t0, t1, t5, t13, t14, hw, hbY, hblY, hL, nmq, nm0, hsz, hpm, hz8, hz0]
        exact fin _ { r with nodes := n } _ ((List.append_assoc ..).trans <| set_flat (o := 4) (vs := [.int .i64 n]) hrq { r with nodes := n } (by simp) rfl) rq (by simp only [go_sem, Nat.reduceLT, Nat.reduceEqDiff, ↓reduceIte, Nat.reduceAdd, Nat.zero_add, Nat.add_zero, Nat.reduceLeDiff, Int.reduceEq, Nat.reduceMul, t0]) (by simp only [go_sem, Nat.reduceLT, Nat.reduceEqDiff, ↓reduceIte, Nat.reduceAdd, Nat.zero_add, Nat.add_zero, Nat.reduceLeDiff, Int.reduceEq, Nat.reduceMul, t1]) (by simp only [go_sem, Nat.reduceLT, Nat.reduceEqDiff, ↓reduceIte, Nat.reduceAdd, Nat.zero_add, Nat.add_zero, Nat.reduceLeDiff, Int.reduceEq, Nat.reduceMul, t13]) (by simp only [go_sem, Nat.reduceLT, Nat.reduceEqDiff, ↓reduceIte, Nat.reduceAdd, Nat.zero_add, Nat.add_zero, Nat.reduceLeDiff, Int.reduceEq, Nat.reduceMul, t14])
      · simp only [go_sem, Nat.reduceLT, Nat.reduceEqDiff, ↓reduceIte, Nat.reduceAdd, Nat.zero_add, Nat.add_zero, Nat.reduceLeDiff, Int.reduceEq, Nat.reduceMul, List.take_zero, List.drop_succ_cons, List.drop_zero, List.nil_append, List.append_nil, List.drop_nil, List.take_succ_cons, List.take_nil, List.cons_append, Int.toNat_natCast, Int.toNat_zero, Int.toNat_one, Int.reduceLT, Int.reduceLE, Int.cast_ofNat_Int, Int.reduceToNat, Int.reduceAdd, Int.reduceSub, Int.reduceMul, Int.reduceNeg, t0, t1, t5, t13, t14, hw, hbY, hblY, hL, nmq, nm0, hsz, hpm, hz8, hz0]
        exact fin _ { r with frames := n } _ ((List.append_assoc ..).trans <| set_flat (o := 5) (vs := [.int .i64 n]) hrq { r with frames := n } (by simp) rfl) rq (by simp only [go_sem, Nat.reduceLT, Nat.reduceEqDiff, ↓reduceIte, Nat.reduceAdd, Nat.zero_add, Nat.add_zero, Nat.reduceLeDiff, Int.reduceEq, Nat.reduceMul, t0]) (by simp only [go_sem, Nat.reduceLT, Nat.reduceEqDiff, ↓reduceIte, Nat.reduceAdd, Nat.zero_add, Nat.add_zero, Nat.reduceLeDiff, Int.reduceEq, Nat.reduceMul, t1]) (by simp only [go_sem, Nat.reduceLT, Nat.reduceEqDiff, ↓reduceIte, Nat.reduceAdd, Nat.zero_add, Nat.add_zero, Nat.reduceLeDiff, Int.reduceEq, Nat.reduceMul, t13]) (by simp only [go_sem, Nat.reduceLT, Nat.reduceEqDiff, ↓reduceIte, Nat.reduceAdd, Nat.zero_add, Nat.add_zero, Nat.reduceLeDiff, Int.reduceEq, Nat.reduceMul, t14])
      · simp only [go_sem, Nat.reduceLT, Nat.reduceEqDiff, ↓reduceIte, Nat.reduceAdd, Nat.zero_add, Nat.add_zero, Nat.reduceLeDiff, Int.reduceEq, Nat.reduceMul, List.take_zero, List.drop_succ_cons, List.drop_zero, List.nil_append, List.append_nil, List.drop_nil, List.take_succ_cons, List.take_nil, List.cons_append, Int.toNat_natCast, Int.toNat_zero, Int.toNat_one, Int.reduceLT, Int.reduceLE, Int.cast_ofNat_Int, Int.reduceToNat, Int.reduceAdd, Int.reduceSub, Int.reduceMul, Int.reduceNeg, t0, t1, t5, t13, t14, hw, hbY, hblY, hL, nmq, nm0, hsz, hpm, hz8, hz0]
        exact fin _ { r with procs := n } _ ((List.append_assoc ..).trans <| set_flat (o := 6) (vs := [.int .i64 n]) hrq { r with procs := n } (by simp) rfl) rq (by simp only [go_sem, Nat.reduceLT, Nat.reduceEqDiff, ↓reduceIte, Nat.reduceAdd, Nat.zero_add, Nat.add_zero, Nat.reduceLeDiff, Int.reduceEq, Nat.reduceMul, t0]) (by simp only [go_sem, Nat.reduceLT, Nat.reduceEqDiff, ↓reduceIte, Nat.reduceAdd, Nat.zero_add, Nat.add_zero, Nat.reduceLeDiff, Int.reduceEq, Nat.reduceMul, t1]) (by simp only [go_sem, Nat.reduceLT, Nat.reduceEqDiff, ↓reduceIte, Nat.reduceAdd, Nat.zero_add, Nat.add_zero, Nat.reduceLeDiff, Int.reduceEq, Nat.reduceMul, t13]) (by simp only [go_sem, Nat.reduceLT, Nat.reduceEqDiff, ↓reduceIte, Nat.reduceAdd, Nat.zero_add, Nat.add_zero, Nat.reduceLeDiff, Int.reduceEq, Nat.reduceMul, t14])
      · simp only [go_sem, Nat.reduceLT, Nat.reduceEqDiff, ↓reduceIte, Nat.reduceAdd, Nat.zero_add, Nat.add_zero, Nat.reduceLeDiff, Int.reduceEq, Nat.reduceMul, List.take_zero, List.drop_succ_cons, List.drop_zero, List.nil_append, List.append_nil, List.drop_nil, List.take_succ_cons, List.take_nil, List.cons_append, Int.toNat_natCast, Int.toNat_zero, Int.toNat_one, Int.reduceLT, Int.reduceLE, Int.cast_ofNat_Int, Int.reduceToNat, Int.reduceAdd, Int.reduceSub, Int.reduceMul, Int.reduceNeg, t0, t1, t5, t13, t14, hw, hbY, hblY, hL, nmq, nm0, hsz, hpm, hz8, hz0]
        exact fin _ { r with opens := n } _ ((List.append_assoc ..).trans <| set_flat (o := 7) (vs := [.int .i64 n]) hrq { r with opens := n } (by simp) rfl) rq (by simp only [go_sem, Nat.reduceLT, Nat.reduceEqDiff, ↓reduceIte, Nat.reduceAdd, Nat.zero_add, Nat.add_zero, Nat.reduceLeDiff, Int.reduceEq, Nat.reduceMul, t0]) (by simp only [go_sem, Nat.reduceLT, Nat.reduceEqDiff, ↓reduceIte, Nat.reduceAdd, Nat.zero_add, Nat.add_zero, Nat.reduceLeDiff, Int.reduceEq, Nat.reduceMul, t1]) (by simp only [go_sem, Nat.reduceLT, Nat.reduceEqDiff, ↓reduceIte, Nat.reduceAdd, Nat.zero_add, Nat.add_zero, Nat.reduceLeDiff, Int.reduceEq, Nat.reduceMul, t13]) (by simp only [go_sem, Nat.reduceLT, Nat.reduceEqDiff, ↓reduceIte, Nat.reduceAdd, Nat.zero_add, Nat.add_zero, Nat.reduceLeDiff, Int.reduceEq, Nat.reduceMul, t14])
      · simp only [go_sem, Nat.reduceLT, Nat.reduceEqDiff, ↓reduceIte, Nat.reduceAdd, Nat.zero_add, Nat.add_zero, Nat.reduceLeDiff, Int.reduceEq, Nat.reduceMul, List.take_zero, List.drop_succ_cons, List.drop_zero, List.nil_append, List.append_nil, List.drop_nil, List.take_succ_cons, List.take_nil, List.cons_append, Int.toNat_natCast, Int.toNat_zero, Int.toNat_one, Int.reduceLT, Int.reduceLE, Int.cast_ofNat_Int, Int.reduceToNat, Int.reduceAdd, Int.reduceSub, Int.reduceMul, Int.reduceNeg, t0, t1, t5, t13, t14, hw, hbY, hblY, hL, nmq, nm0, hsz, hpm, hz8, hz0]
        exact fin _ { r with clear := n } _ ((List.append_assoc ..).trans <| set_flat (o := 8) (vs := [.int .i64 n]) hrq { r with clear := n } (by simp) rfl) rq (by simp only [go_sem, Nat.reduceLT, Nat.reduceEqDiff, ↓reduceIte, Nat.reduceAdd, Nat.zero_add, Nat.add_zero, Nat.reduceLeDiff, Int.reduceEq, Nat.reduceMul, t0]) (by simp only [go_sem, Nat.reduceLT, Nat.reduceEqDiff, ↓reduceIte, Nat.reduceAdd, Nat.zero_add, Nat.add_zero, Nat.reduceLeDiff, Int.reduceEq, Nat.reduceMul, t1]) (by simp only [go_sem, Nat.reduceLT, Nat.reduceEqDiff, ↓reduceIte, Nat.reduceAdd, Nat.zero_add, Nat.add_zero, Nat.reduceLeDiff, Int.reduceEq, Nat.reduceMul, t13]) (by simp only [go_sem, Nat.reduceLT, Nat.reduceEqDiff, ↓reduceIte, Nat.reduceAdd, Nat.zero_add, Nat.add_zero, Nat.reduceLeDiff, Int.reduceEq, Nat.reduceMul, t14])
      · simp only [go_sem, Nat.reduceLT, Nat.reduceEqDiff, ↓reduceIte, Nat.reduceAdd, Nat.zero_add, Nat.add_zero, Nat.reduceLeDiff, Int.reduceEq, Nat.reduceMul, List.take_zero, List.drop_succ_cons, List.drop_zero, List.nil_append, List.append_nil, List.drop_nil, List.take_succ_cons, List.take_nil, List.cons_append, Int.toNat_natCast, Int.toNat_zero, Int.toNat_one, Int.reduceLT, Int.reduceLE, Int.cast_ofNat_Int, Int.reduceToNat, Int.reduceAdd, Int.reduceSub, Int.reduceMul, Int.reduceNeg, t0, t1, t5, t13, t14, hw, hbY, hblY, hL, nmq, nm0, hsz, hpm, hz8, hz0]
        exact fin _ { r with lev := IntKind.wrap .u8 n, cats := IntKind.wrap .u16 (shrI .i64 n 8) } _ ((List.append_assoc ..).trans <| set_flat (o := 1) (vs := [.int .u8 (IntKind.wrap .u8 n), .int .u16 (IntKind.wrap .u16 (shrI .i64 n 8))]) hrq { r with lev := IntKind.wrap .u8 n, cats := IntKind.wrap .u16 (shrI .i64 n 8) } (by simp) rfl) bw6 (by simp only [go_sem, Nat.reduceLT, Nat.reduceEqDiff, ↓reduceIte, Nat.reduceAdd, Nat.zero_add, Nat.add_zero, Nat.reduceLeDiff, Int.reduceEq, Nat.reduceMul, t0]) (by simp only [go_sem, Nat.reduceLT, Nat.reduceEqDiff, ↓reduceIte, Nat.reduceAdd, Nat.zero_add, Nat.add_zero, Nat.reduceLeDiff, Int.reduceEq, Nat.reduceMul, t1]) (by simp only [go_sem, Nat.reduceLT, Nat.reduceEqDiff, ↓reduceIte, Nat.reduceAdd, Nat.zero_add, Nat.add_zero, Nat.reduceLeDiff, Int.reduceEq, Nat.reduceMul, t13]) (by simp only [go_sem, Nat.reduceLT, Nat.reduceEqDiff, ↓reduceIte, Nat.reduceAdd, Nat.zero_add, Nat.add_zero, Nat.reduceLeDiff, Int.reduceEq, Nat.reduceMul, t14])
      · simp only [go_sem, Nat.reduceLT, Nat.reduceEqDiff, ↓reduceIte, Nat.reduceAdd, Nat.zero_add, Nat.add_zero, Nat.reduceLeDiff, Int.reduceEq, Nat.reduceMul, List.take_zero, List.drop_succ_cons, List.drop_zero, List.nil_append, List.append_nil, List.drop_nil, List.take_succ_cons, List.take_nil, List.cons_append, Int.toNat_natCast, Int.toNat_zero, Int.toNat_one, Int.reduceLT, Int.reduceLE, Int.cast_ofNat_Int, Int.reduceToNat, Int.reduceAdd, Int.reduceSub, Int.reduceMul, Int.reduceNeg, t0, t1, t5, t13, t14, hw, hbY, hblY, hL, nmq, nm0, hsz, hpm, hz8, hz0]
        exact fin _ { r with name := r.name ++ (⟨#[120]⟩ : ByteArray) } _ ((List.append_assoc ..).trans <| set_flat (o := 0) (vs := [.string (r.name ++ (⟨#[120]⟩ : ByteArray))]) hrq { r with name := r.name ++ (⟨#[120]⟩ : ByteArray) } (by simp) rfl) rq (by simp only [go_sem, Nat.reduceLT, Nat.reduceEqDiff, ↓reduceIte, Nat.reduceAdd, Nat.zero_add, Nat.add_zero, Nat.reduceLeDiff, Int.reduceEq, Nat.reduceMul, t0]) (by simp only [go_sem, Nat.reduceLT, Nat.reduceEqDiff, ↓reduceIte, Nat.reduceAdd, Nat.zero_add, Nat.add_zero, Nat.reduceLeDiff, Int.reduceEq, Nat.reduceMul, t1]) (by simp only [go_sem, Nat.reduceLT, Nat.reduceEqDiff, ↓reduceIte, Nat.reduceAdd, Nat.zero_add, Nat.add_zero, Nat.reduceLeDiff, Int.reduceEq, Nat.reduceMul, t13]) (by simp only [go_sem, Nat.reduceLT, Nat.reduceEqDiff, ↓reduceIte, Nat.reduceAdd, Nat.zero_add, Nat.add_zero, Nat.reduceLeDiff, Int.reduceEq, Nat.reduceMul, t14])
      · simp only [go_sem, Nat.reduceLT, Nat.reduceEqDiff, ↓reduceIte, Nat.reduceAdd, Nat.zero_add, Nat.add_zero, Nat.reduceLeDiff, Int.reduceEq, Nat.reduceMul, List.take_zero, List.drop_succ_cons, List.drop_zero, List.nil_append, List.append_nil, List.drop_nil, List.take_succ_cons, List.take_nil, List.cons_append, Int.toNat_natCast, Int.toNat_zero, Int.toNat_one, Int.reduceLT, Int.reduceLE, Int.cast_ofNat_Int, Int.reduceToNat, Int.reduceAdd, Int.reduceSub, Int.reduceMul, Int.reduceNeg, t0, t1, t5, t13, t14, hw, hbY, hblY, hL, nmq, nm0, hsz, hpm, hz8, hz0]
        exact fin _ { r with name := r0.name } _ ((List.append_assoc ..).trans <| set_flat (o := 0) (vs := [.string r0.name]) hrq { r with name := r0.name } (by simp) rfl) rq (by simp only [go_sem, Nat.reduceLT, Nat.reduceEqDiff, ↓reduceIte, Nat.reduceAdd, Nat.zero_add, Nat.add_zero, Nat.reduceLeDiff, Int.reduceEq, Nat.reduceMul, t0]) (by simp only [go_sem, Nat.reduceLT, Nat.reduceEqDiff, ↓reduceIte, Nat.reduceAdd, Nat.zero_add, Nat.add_zero, Nat.reduceLeDiff, Int.reduceEq, Nat.reduceMul, t1]) (by simp only [go_sem, Nat.reduceLT, Nat.reduceEqDiff, ↓reduceIte, Nat.reduceAdd, Nat.zero_add, Nat.add_zero, Nat.reduceLeDiff, Int.reduceEq, Nat.reduceMul, t13]) (by simp only [go_sem, Nat.reduceLT, Nat.reduceEqDiff, ↓reduceIte, Nat.reduceAdd, Nat.zero_add, Nat.add_zero, Nat.reduceLeDiff, Int.reduceEq, Nat.reduceMul, t14])
      · have hn : ∀ i : Int, i ≤ 8 → ¬ ((w : Int) = i) := fun i hi => by omega
        simp only [go_sem, Nat.reduceLT, Nat.reduceEqDiff, ↓reduceIte, Nat.reduceAdd, Nat.zero_add, Nat.add_zero, Nat.reduceLeDiff, Int.reduceEq, Nat.reduceMul, List.take_zero, List.drop_succ_cons, List.drop_zero, List.nil_append, List.append_nil, List.drop_nil, List.take_succ_cons, List.take_nil, List.cons_append, Int.toNat_natCast, Int.toNat_zero, Int.toNat_one, Int.reduceLT, Int.reduceLE, Int.cast_ofNat_Int, Int.reduceToNat, Int.reduceAdd, Int.reduceSub, Int.reduceMul, Int.reduceNeg, t0, t1, t5, t13, t14, hw, hn]
        rw [hP]
        exact ⟨aR, parA, hal, rok, by simp only [go_sem, Nat.reduceLT, Nat.reduceEqDiff, ↓reduceIte, Nat.reduceAdd, Nat.zero_add, Nat.add_zero, Nat.reduceLeDiff, Int.reduceEq, Nat.reduceMul, t0], by simp only [go_sem, Nat.reduceLT, Nat.reduceEqDiff, ↓reduceIte, Nat.reduceAdd, Nat.zero_add, Nat.add_zero, Nat.reduceLeDiff, Int.reduceEq, Nat.reduceMul, t1], by simp only [go_sem, Nat.reduceLT, Nat.reduceEqDiff, ↓reduceIte, Nat.reduceAdd, Nat.zero_add, Nat.add_zero, Nat.reduceLeDiff, Int.reduceEq, Nat.reduceMul, t13], by simp only [go_sem, Nat.reduceLT, Nat.reduceEqDiff, ↓reduceIte, Nat.reduceAdd, Nat.zero_add, Nat.add_zero, Nat.reduceLeDiff, Int.reduceEq, Nat.reduceMul, t14], hbY, hrp, hHY⟩
    · rw [hP]
      rintro τ Z ⟨a', par', hal', hok', t0, t1, t13, t14, hbZ, hrpZ, hKZ⟩
      obtain ⟨r14, n14, c14, hs14⟩ : ∃ r n c, s14 = .slice r n c := by
        rcases hrpZ with ⟨_, h, _⟩ | ⟨_, _, _, h, _⟩
        · exact ⟨_, _, _, h⟩
        · exact ⟨_, _, _, h⟩
      rw [hs14] at t14
      have hmany : 1 ≤ many := by omega
      have hmg : many < grow := by unfold grow; omega
      have hone := aSlice_one hbZ hmany hmg
      have i0 : ((0 : Int) ≤ 0) = True := by simp
      simp only [go_sem, Nat.reduceLT, Nat.reduceEqDiff, ↓reduceIte, Nat.reduceAdd, Nat.zero_add, Nat.add_zero, Nat.reduceLeDiff, Int.reduceEq, Nat.reduceMul, List.take_zero, List.drop_succ_cons, List.drop_zero, List.nil_append, List.append_nil, List.drop_nil, List.take_succ_cons, List.take_nil, List.cons_append, Int.toNat_natCast, Int.toNat_zero, Int.toNat_one, t0, t1, t13, t14, hone]
      have gR0 : goodR Z (.slice ra regs.length ca) := ⟨regs, hr.keeps hKZ, hrw⟩
      have gR1 : goodR Z (.slice (some ⟨bA, 0, none⟩) many (grow + many)) := ⟨a', .inr ⟨bA, _, _, _, _, _, by rw [hal'], hbZ, fun k g h => flat_at RegD.cells_length a' k g h⟩, hok'⟩
      have gR2 : goodR Z (.slice (some ⟨bA, 0, none⟩) 1 (grow + many)) := ⟨a'.take 1, .inr ⟨bA, _, _, _, _, _, by rw [List.length_take, hal', Nat.min_eq_left hmany], hbZ, fun k g h => by
        rw [List.getElem?_take] at h
        split at h
        · exact flat_at RegD.cells_length a' k g h
        · cases h⟩, fun x hx => hok' x (List.mem_of_mem_take hx)⟩
      have gR3 : goodR Z (.slice none 0 0) := ⟨[], .inl ⟨rfl, rfl⟩, fun x hx => by cases hx⟩
      have gM0 : goodM Z (.slice rm marks.length cm) := ⟨marks, hm.keeps hKZ, hmw, by omega⟩
      have gM1 : goodM Z s14 := by
        have hl : bM.length + k = (bM ++ marks.take k).length := by simp; omega
        rw [hl] at hrpZ
        refine ⟨_, hrpZ.slc fun _ => rfl, fun m hm' => ?_, ?_⟩
        · rcases List.mem_append.1 hm' with h | h
          · exact mok.1 m h
          · exact hmw m (List.mem_of_mem_take h)
        · have := mok.2
          rw [← hl]; omega
      have gM2 : goodM Z (.slice none 0 0) := ⟨[], .inl ⟨rfl, rfl⟩, show okM [] from ⟨(fun x hx => by cases hx), Nat.zero_le _⟩⟩
      rw [hs14] at gM1
      clear hrpZ hbZ hr hm hrp hold hbA hbY hone
      obtain ⟨L, hL⟩ : ∃ L : List Value, L = [Value.slice ra regs.length ca, .slice (some ⟨bA, 0, none⟩) many (grow + many), .slice (some ⟨bA, 0, none⟩) 1 (grow + many), .slice none 0 0] := ⟨_, rfl⟩
      obtain ⟨M, hM⟩ : ∃ M : List Value, M = [Value.slice rm marks.length cm, .slice r14 n14 c14, .slice none 0 0] := ⟨_, rfl⟩
      have hLg : ∀ j, j < 4 → ∃ v, L[j]? = some v ∧ goodR Z v := fun j hj => by
        rcases (show j = 0 ∨ j = 1 ∨ j = 2 ∨ j = 3 by omega) with rfl | rfl | rfl | rfl <;> rw [hL]
        · exact ⟨_, rfl, gR0⟩
        · exact ⟨_, rfl, gR1⟩
        · exact ⟨_, rfl, gR2⟩
        · exact ⟨_, rfl, gR3⟩
      have hMg : ∀ j, j < 3 → ∃ v, M[j]? = some v ∧ goodM Z v := fun j hj => by
        rcases (show j = 0 ∨ j = 1 ∨ j = 2 by omega) with rfl | rfl | rfl <;> rw [hM]
        · exact ⟨_, rfl, gM0⟩
        · exact ⟨_, rfl, gM1⟩
        · exact ⟨_, rfl, gM2⟩
      refine codeW_loop (fun nn τ U => ∃ j : Nat, nn = 4 - j ∧ j ≤ 4 ∧ tget τ 1 = .slice rm marks.length cm ∧ tget τ 14 = .slice r14 n14 c14 ∧ tget τ 133 = .slice (some ⟨Z.next, 0, none⟩) 4 4 ∧ tget τ 134 = .int .i64 ((4 : Nat) : Int) ∧ tget τ 135 = .int .i64 (j : Nat) ∧ Keeps [] Z U ∧ U.get Z.next = some (.cells L false [] 1)) (n := 4) ⟨0, rfl, Nat.zero_le _, ?_, ?_, ?_, ?_, ?_, (Keeps.refl [] Z).new' _, ?_⟩ ?_
      · simp only [go_sem, Nat.reduceLT, Nat.reduceEqDiff, ↓reduceIte, Nat.reduceAdd, Nat.zero_add, Nat.add_zero, Nat.reduceLeDiff, Int.reduceEq, Nat.reduceMul, t1]
      · simp only [go_sem, Nat.reduceLT, Nat.reduceEqDiff, ↓reduceIte, Nat.reduceAdd, Nat.zero_add, Nat.add_zero, Nat.reduceLeDiff, Int.reduceEq, Nat.reduceMul, t14]
      · simp only [go_sem, Nat.reduceLT, Nat.reduceEqDiff, ↓reduceIte, Nat.reduceAdd, Nat.zero_add, Nat.add_zero, Nat.reduceLeDiff, Int.reduceEq, Nat.reduceMul]
      · simp only [go_sem, Nat.reduceLT, Nat.reduceEqDiff, ↓reduceIte, Nat.reduceAdd, Nat.zero_add, Nat.add_zero, Nat.reduceLeDiff, Int.reduceEq, Nat.reduceMul]
      · simp only [go_sem, Nat.reduceLT, Nat.reduceEqDiff, ↓reduceIte, Nat.reduceAdd, Nat.zero_add, Nat.add_zero, Nat.reduceLeDiff, Int.reduceEq, Nat.reduceMul]; rfl
      · rw [hL, get_new_self]
      clear t0 t1 t13 t14 t3 t4 t5 t44 t45 t46
      rintro nn τ U ⟨j, rfl, hj, t1, t14, t133, t134, t135, hZU, hUL⟩
      have hUl := AHeap.get_lt hUL
      by_cases hj4 : j < 4
      · obtain ⟨v, hv, gv⟩ := hLg j hj4
        have hdj : (j : Int) < ((4 : Nat) : Int) := by omega
        have hzj : (0 : Int) ≤ (j : Int) := by omega
        have hwj : IntKind.wrap .i64 ((j : Int) + 1) = ((j + 1 : Nat) : Int) := by rw [wrap64] <;> omega
        simp only [go_sem, Nat.reduceLT, Nat.reduceEqDiff, ↓reduceIte, Nat.reduceAdd, Nat.zero_add, Nat.add_zero, Nat.reduceLeDiff, Int.reduceEq, Nat.reduceMul, List.take_zero, List.drop_succ_cons, List.drop_zero, List.nil_append, List.append_nil, List.drop_nil, List.take_succ_cons, List.take_nil, List.cons_append, Int.toNat_natCast, Int.toNat_zero, Int.toNat_one, t1, t14, t133, t134, t135, hUL, hdj, hzj, hv, Nat.mul_one]
        refine codeW_loop (fun nn τ W => ∃ e : Nat, nn = 3 - e ∧ e ≤ 3 ∧ tget τ 1 = .slice rm marks.length cm ∧ tget τ 14 = .slice r14 n14 c14 ∧ tget τ 19 = v ∧ tget τ 133 = .slice (some ⟨Z.next, 0, none⟩) 4 4 ∧ tget τ 134 = .int .i64 ((4 : Nat) : Int) ∧ tget τ 135 = .int .i64 (j : Nat) ∧ tget τ 141 = .slice (some ⟨U.next, 0, none⟩) 3 3 ∧ tget τ 142 = .int .i64 ((3 : Nat) : Int) ∧ tget τ 143 = .int .i64 (e : Nat) ∧ Keeps [] Z W ∧ W.get Z.next = some (.cells L false [] 1) ∧ W.get U.next = some (.cells M false [] 1)) (n := 3) ⟨0, rfl, Nat.zero_le _, ?_, ?_, ?_, ?_, ?_, ?_, ?_, ?_, ?_, hZU.new' _, ?_, ?_⟩ ?_
        · simp only [go_sem, Nat.reduceLT, Nat.reduceEqDiff, ↓reduceIte, Nat.reduceAdd, Nat.zero_add, Nat.add_zero, Nat.reduceLeDiff, Int.reduceEq, Nat.reduceMul, t1]
        · simp only [go_sem, Nat.reduceLT, Nat.reduceEqDiff, ↓reduceIte, Nat.reduceAdd, Nat.zero_add, Nat.add_zero, Nat.reduceLeDiff, Int.reduceEq, Nat.reduceMul, t14]
        · simp only [go_sem, Nat.reduceLT, Nat.reduceEqDiff, ↓reduceIte, Nat.reduceAdd, Nat.zero_add, Nat.add_zero, Nat.reduceLeDiff, Int.reduceEq, Nat.reduceMul]
        · simp only [go_sem, Nat.reduceLT, Nat.reduceEqDiff, ↓reduceIte, Nat.reduceAdd, Nat.zero_add, Nat.add_zero, Nat.reduceLeDiff, Int.reduceEq, Nat.reduceMul, t133]
        · simp only [go_sem, Nat.reduceLT, Nat.reduceEqDiff, ↓reduceIte, Nat.reduceAdd, Nat.zero_add, Nat.add_zero, Nat.reduceLeDiff, Int.reduceEq, Nat.reduceMul, t134]
        · simp only [go_sem, Nat.reduceLT, Nat.reduceEqDiff, ↓reduceIte, Nat.reduceAdd, Nat.zero_add, Nat.add_zero, Nat.reduceLeDiff, Int.reduceEq, Nat.reduceMul, t135]
        · simp only [go_sem, Nat.reduceLT, Nat.reduceEqDiff, ↓reduceIte, Nat.reduceAdd, Nat.zero_add, Nat.add_zero, Nat.reduceLeDiff, Int.reduceEq, Nat.reduceMul]
        · simp only [go_sem, Nat.reduceLT, Nat.reduceEqDiff, ↓reduceIte, Nat.reduceAdd, Nat.zero_add, Nat.add_zero, Nat.reduceLeDiff, Int.reduceEq, Nat.reduceMul]
        · simp only [go_sem, Nat.reduceLT, Nat.reduceEqDiff, ↓reduceIte, Nat.reduceAdd, Nat.zero_add, Nat.add_zero, Nat.reduceLeDiff, Int.reduceEq, Nat.reduceMul]; rfl
        · rw [get_new_old _ hUl]; exact hUL
        · rw [hM, get_new_self]
        clear t1 t14 t133 t134 t135
        rintro nn τ W ⟨e, rfl, he, t1, t14, t19, t133, t134, t135, t141, t142, t143, hZW, hWL, hWM⟩
        have hWl := AHeap.get_lt hWM
        by_cases he3 : e < 3
        · obtain ⟨w, hw, gw⟩ := hMg e he3
          obtain ⟨lr, q1, q2⟩ := gv.keeps hZW
          obtain ⟨lm, q3, q4⟩ := gw.keeps hZW
          have hde : (e : Int) < ((3 : Nat) : Int) := by omega
          have hze : (0 : Int) ≤ (e : Int) := by omega
          have hwe : IntKind.wrap .i64 ((e : Int) + 1) = ((e + 1 : Nat) : Int) := by rw [wrap64] <;> omega
          simp only [go_sem, Nat.reduceLT, Nat.reduceEqDiff, ↓reduceIte, Nat.reduceAdd, Nat.zero_add, Nat.add_zero, Nat.reduceLeDiff, Int.reduceEq, Nat.reduceMul, List.take_zero, List.drop_succ_cons, List.drop_zero, List.nil_append, List.append_nil, List.drop_nil, List.take_succ_cons, List.take_nil, List.cons_append, Int.toNat_natCast, Int.toNat_zero, Int.toNat_one, t1, t14, t19, t133, t134, t135, t141, t142, t143, hWM, hde, hze, hw, Nat.mul_one, s4_20]
          refine callsx_of (cxS_ok s4_ok) (fn := Tryd.f20) (by kernel_rfl) (by kernel_rfl) (new_cM q1 q3 q4.1 q4.2) ?_
          rintro v2 W2 ⟨hWW, hcase⟩
          have fin : ∀ W3, Keeps [] W2 W3 → ∃ m, m < 3 - e ∧ ∃ e_1, m = 3 - e_1 ∧ e_1 ≤ 3 ∧ Value.int .i64 ((e + 1 : Nat) : Int) = .int .i64 ((e_1 : Nat) : Int) ∧ Keeps [] Z W3 ∧ W3.get Z.next = some (.cells L false [] 1) ∧ W3.get U.next = some (.cells M false [] 1) := fun W3 h3 =>
            ⟨3 - (e + 1), by omega, e + 1, rfl, he3, rfl, (hZW.trans hWW).trans h3, (hWW.trans h3).get hWL (by simp), (hWW.trans h3).get hWM (by simp)⟩
          rcases hcase with ⟨hne, rfl⟩ | ⟨h0, ip, rfl, _, _, hMM⟩
          · simp only [go_sem, Nat.reduceLT, Nat.reduceEqDiff, ↓reduceIte, Nat.reduceAdd, Nat.zero_add, Nat.add_zero, Nat.reduceLeDiff, Int.reduceEq, Nat.reduceMul, List.take_zero, List.drop_succ_cons, List.drop_zero, List.nil_append, List.append_nil, List.drop_nil, List.take_succ_cons, List.take_nil, List.cons_append, Int.toNat_natCast, Int.toNat_zero, Int.toNat_one, t1, t14, t19, t133, t134, t135, t141, t142, t143, s4_21]
            refine callsx_of (cxS_ok s4_ok) (fn := Tryd.f21) (by kernel_rfl) (by kernel_rfl) (right_c (q1.keeps hWW) (q3.keeps hWW) q2 q4.1 q4.2) ?_
            rintro v3 W3 ⟨rfl, rfl⟩
            simp only [go_sem, Nat.reduceLT, Nat.reduceEqDiff, ↓reduceIte, Nat.reduceAdd, Nat.zero_add, Nat.add_zero, Nat.reduceLeDiff, Int.reduceEq, Nat.reduceMul, List.take_zero, List.drop_succ_cons, List.drop_zero, List.nil_append, List.append_nil, List.drop_nil, List.take_succ_cons, List.take_nil, List.cons_append, Int.toNat_natCast, Int.toNat_zero, Int.toNat_one, t1, t14, t19, t133, t134, t135, t141, t142, t143, hne, hwe]
            exact fin _ (Keeps.refl _ _)
          · simp only [go_sem, Nat.reduceLT, Nat.reduceEqDiff, ↓reduceIte, Nat.reduceAdd, Nat.zero_add, Nat.add_zero, Nat.reduceLeDiff, Int.reduceEq, Nat.reduceMul, List.take_zero, List.drop_succ_cons, List.drop_zero, List.nil_append, List.append_nil, List.drop_nil, List.take_succ_cons, List.take_nil, List.cons_append, Int.toNat_natCast, Int.toNat_zero, Int.toNat_one, t1, t14, t19, t133, t134, t135, t141, t142, t143, s4_21]
            refine callsx_of (cxS_ok s4_ok) (fn := Tryd.f21) (by kernel_rfl) (by kernel_rfl) (right_c (q1.keeps hWW) (q3.keeps hWW) q2 q4.1 q4.2) ?_
            rintro v3 W3 ⟨rfl, rfl⟩
            rw [h0]
            simp only [go_sem, Nat.reduceLT, Nat.reduceEqDiff, ↓reduceIte, Nat.reduceAdd, Nat.zero_add, Nat.add_zero, Nat.reduceLeDiff, Int.reduceEq, Nat.reduceMul, List.take_zero, List.drop_succ_cons, List.drop_zero, List.nil_append, List.append_nil, List.drop_nil, List.take_succ_cons, List.take_nil, List.cons_append, Int.toNat_natCast, Int.toNat_zero, Int.toNat_one, t1, t14, t19, t133, t134, t135, t141, t142, t143, s4_22]
            refine callsx_of (cxS_ok s4_ok) (fn := Tryd.f22) (by kernel_rfl) (by kernel_rfl) (same_c (q1.keeps hWW) (q3.keeps hWW) q2 q4.1 q4.2 h0 hMM) ?_
            rintro v4 W4 ⟨rfl, rfl⟩
            simp only [go_sem, Nat.reduceLT, Nat.reduceEqDiff, ↓reduceIte, Nat.reduceAdd, Nat.zero_add, Nat.add_zero, Nat.reduceLeDiff, Int.reduceEq, Nat.reduceMul, List.take_zero, List.drop_succ_cons, List.drop_zero, List.nil_append, List.append_nil, List.drop_nil, List.take_succ_cons, List.take_nil, List.cons_append, Int.toNat_natCast, Int.toNat_zero, Int.toNat_one, t1, t14, t19, t133, t134, t135, t141, t142, t143, hwe]
            exact fin _ (Keeps.refl _ _)
        · obtain rfl : e = 3 := by omega
          have hde : ¬ (((3 : Nat) : Int) < ((3 : Nat) : Int)) := by omega
          simp only [go_sem, Nat.reduceLT, Nat.reduceEqDiff, ↓reduceIte, Nat.reduceAdd, Nat.zero_add, Nat.add_zero, Nat.reduceLeDiff, Int.reduceEq, Nat.reduceMul, List.take_zero, List.drop_succ_cons, List.drop_zero, List.nil_append, List.append_nil, List.drop_nil, List.take_succ_cons, List.take_nil, List.cons_append, Int.toNat_natCast, Int.toNat_zero, Int.toNat_one, t1, t14, t19, t133, t134, t135, t141, t142, t143, hde, hwj]
          exact ⟨4 - (j + 1), by omega, j + 1, rfl, hj4, rfl, hZW, hWL⟩
      · obtain rfl : j = 4 := by omega
        have hdj : ¬ (((4 : Nat) : Int) < ((4 : Nat) : Int)) := by omega
        simp only [go_sem, Nat.reduceLT, Nat.reduceEqDiff, ↓reduceIte, Nat.reduceAdd, Nat.zero_add, Nat.add_zero, Nat.reduceLeDiff, Int.reduceEq, Nat.reduceMul, List.take_zero, List.drop_succ_cons, List.drop_zero, List.nil_append, List.append_nil, List.drop_nil, List.take_succ_cons, List.take_nil, List.cons_append, Int.toNat_natCast, Int.toNat_zero, Int.toNat_one, t1, t14, t133, t134, t135, hdj]
end Go.Proofs.YtkjclebafpomhaaDoor
