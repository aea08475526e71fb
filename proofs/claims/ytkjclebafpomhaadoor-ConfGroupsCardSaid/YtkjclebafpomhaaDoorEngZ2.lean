/- The engine, part 27: slices that came in, opened: their elements, the row that holds them. -/
import Derived.Test.YtkjclebafpomhaaDoorEngZ
import Derived.ChangeArms
set_option linter.unusedVariables false
set_option linter.unusedSimpArgs false
namespace Go.Eng
open Go Go.ChangeShapes Go.RowKit

theorem chunk_mem {n c : Nat} {cs : List Value} (hl : cs.length = n * c) {v : Value} (hv : v ∈ cs) : ∃ i, i < n ∧ v ∈ (cs.drop (i * c)).take c := by
  obtain ⟨k, hk⟩ := List.mem_iff_getElem?.1 hv
  have hlt : k < n * c := by rw [← hl]; exact (List.getElem?_eq_some_iff.1 hk).1
  have hc : 0 < c := by
    rcases Nat.eq_zero_or_pos c with h | h
    · subst h; simp at hlt
    · exact h
  refine ⟨k / c, (Nat.div_lt_iff_lt_mul hc).2 hlt, List.mem_iff_getElem?.2 ⟨k % c, ?_⟩⟩
  rw [List.getElem?_take, if_pos (Nat.mod_lt _ hc), List.getElem?_drop, Nat.mul_comm, Nat.div_add_mod]
  exact hk

section
variable {H : Type} {enc : TypeId × Value → H} {P : Program} {W : World} {base fuel : Nat} {sp : Nat → Bool} {held : Bool} {t e : TypeId}
theorem rg (n k : Nat) : (List.range n)[k]? = if k < n then some k else none := by
  split
  · rename_i h; exact List.getElem?_range h
  · rename_i h; rw [List.getElem?_eq_none]; simpa using h
def rowC (arr : Array Value) (o n : Nat) : List Value := (List.range n).map fun k => arr.getD (o + k) undef
theorem rowC_len (arr : Array Value) (o n : Nat) : (rowC arr o n).length = n := by simp [rowC]
theorem rowC_chunk (arr : Array Value) (o i c m : Nat) (h : i * c + c ≤ m) : ((rowC arr o m).drop (i * c)).take c = rowC arr (o + i * c) c := by
  apply List.ext_getElem?
  intro k
  unfold rowC
  rw [List.getElem?_take, List.getElem?_map, rg]
  by_cases hk : k < c
  · rw [if_pos hk, List.getElem?_drop, List.getElem?_map, rg, if_pos (by omega), if_pos hk]
    simp only [Option.map_some]
    rw [Nat.add_assoc]
  · rw [if_neg hk, if_neg hk]; rfl
theorem cell_add {a : Addr} {i : Nat} {v : Value} (h : W.cell? (a.add i) = some v) : ∃ arr e fr, W.heap[a.block]? = some (.cells arr e fr) ∧ (i = 0 → a.spot = none) ∧ arr[a.off + i]? = some v := by
  have hb : (a.add i).block = a.block := by unfold Addr.add; split <;> rfl
  have ho : (a.add i).off = a.off + i := by
    unfold Addr.add; split
    · rename_i h; subst h; rfl
    · rfl
  unfold World.cell? at h
  rw [hb, ho] at h
  split at h
  · rename_i c e fr hc
    split at h
    · cases h
    · rename_i hs
      refine ⟨c, e, fr, hc, fun h0 => ?_, h⟩
      subst h0
      have : (a.add 0).spot = a.spot := by unfold Addr.add; rw [if_pos rfl]
      rw [this] at hs
      simpa using hs
  · cases h
theorem cells_row {a : Addr} {n : Nat} {cs : List Value} (h : W.cells? base a n = some cs) (hn : 0 < n) :
    ∃ arr e fr, W.heap[a.block]? = some (.cells arr e fr) ∧ a.spot = none ∧ a.off + n ≤ arr.size ∧ cs = rowC arr a.off n := by
  unfold World.cells? at h
  split at h
  case isFalse => cases h
  have hl := mapM_some_length h
  simp only [List.length_range] at hl
  have hg : ∀ i, i < n → W.cell? (a.add i) = cs[i]? := fun i hi => mapM_some_get h i i (by simp [hi])
  have hv : ∀ i, (hi : i < n) → cs[i]? = some (cs[i]'(by omega)) := fun i hi => List.getElem?_eq_getElem (by omega)
  obtain ⟨arr, e, fr, h1, h2, h3⟩ := cell_add ((hg 0 hn).trans (hv 0 hn))
  have hall : ∀ i, (hi : i < n) → arr[a.off + i]? = some (cs[i]'(by omega)) := fun i hi => by
    obtain ⟨arr', e', fr', k1, _, k3⟩ := cell_add ((hg i hi).trans (hv i hi))
    rw [h1] at k1; injection k1 with k1; injection k1 with k1; subst k1
    exact k3
  refine ⟨arr, e, fr, h1, h2 rfl, ?_, ?_⟩
  · have := (Array.getElem?_eq_some_iff.1 (hall (n - 1) (by omega))).1
    omega
  · apply List.ext_getElem?
    intro i
    unfold rowC
    rw [List.getElem?_map, rg]
    by_cases hi : i < n
    · rw [if_pos hi, hv i hi, Option.map_some, Array.getD_eq_getD_getElem?, hall i hi]; rfl
    · rw [if_neg hi, List.getElem?_eq_none (by omega)]; rfl

/-- A slice that came in: nil; with nothing in it; or a part of a row. -/
theorem slice_open {α : Type} {f : α → List Value} {good : α → Prop} {c : Nat} {v : Value} {x : DataW H × List MemPlace} (ht : P.underlying t = some (.slice e)) (hc : P.cellsOf e = c) (h0 : 0 < c)
    (hdec : ∀ n cs y, DataW.trod enc P W base sp held n e cs = some y → ∃ z, good z ∧ cs = f z) (h : DataW.trod enc P W base sp held fuel t [v] = some x) :
    ∃ l : List α, (∀ z ∈ l, good z) ∧ (l = [] ∨ ∃ es rest, x.1 = .slice es rest ∧ es.length = l.length) ∧ ((l = [] ∧ v = .slice none 0 0) ∨ (l = [] ∧ ∃ a cap, v = .slice (some a) 0 cap ∧ cap ≤ maxLen) ∨
      ∃ a cap arr te fr, v = .slice (some a) l.length cap ∧ a.spot = none ∧ l.length ≤ cap ∧ cap ≤ maxLen ∧ W.heap[a.block]? = some (.cells arr te fr) ∧ a.off + l.length * c ≤ arr.size ∧ ∀ i z, l[i]? = some z → rowC arr (a.off + i * c) c = f z) := by
  rcases DataW.trod_slice ht h with ⟨h1, _⟩ | ⟨a, len, cap, elems, rest, n, _, h1, hx, _, h2, h3, h4, h5, _⟩
  · injection h1 with h1
    exact ⟨[], by simp, .inl rfl, .inl ⟨rfl, h1⟩⟩
  injection h1 with h1 _
  rcases Nat.eq_zero_or_pos len with hz | hpos
  · subst hz
    exact ⟨[], by simp, .inl rfl, .inr (.inl ⟨rfl, a, cap, h1, h3⟩)⟩
  rw [hc] at h5
  have hel : ∀ i, i < len → ∃ cs y, W.cells? base (a.add (i * c)) c = some cs ∧ DataW.trod enc P W base sp held n e cs = some y := fun i hi => by
    have := h5 i hi
    rw [List.getElem?_eq_getElem (by omega)] at this
    obtain ⟨cs, k1, k2⟩ := Option.bind_eq_some_iff.1 this
    exact ⟨cs, _, k1, k2⟩
  have hblk : ∀ i : Nat, (a.add i).block = a.block := fun i => by unfold Addr.add; split <;> rfl
  have hoff : ∀ i : Nat, (a.add i).off = a.off + i := fun i => by
    unfold Addr.add; split
    · rename_i h; subst h; rfl
    · rfl
  obtain ⟨cs0, y0, k1, _⟩ := hel 0 hpos
  obtain ⟨arr, te, fr, r1, r2, r3, _⟩ := cells_row k1 h0
  rw [Nat.zero_mul] at r2
  have r2 : a.spot = none := by
    have : a.add 0 = a := by unfold Addr.add; rw [if_pos rfl]
    rwa [this] at r2
  rw [hblk] at r1
  have hrow : ∀ i, i < len → ∃ z, good z ∧ rowC arr (a.off + i * c) c = f z ∧ a.off + i * c + c ≤ arr.size := fun i hi => by
    obtain ⟨cs, y, k1, k2⟩ := hel i hi
    obtain ⟨arr', te', fr', s1, _, s3, s4⟩ := cells_row k1 h0
    rw [hblk, r1] at s1
    injection s1 with s1; injection s1 with s1; subst s1
    rw [hoff] at s3 s4
    obtain ⟨z, g1, g2⟩ := hdec n cs y k2
    exact ⟨z, g1, s4.symm.trans g2, s3⟩
  let pick : Nat → α := fun i => if hi : i < len then (hrow i hi).choose else (hrow 0 hpos).choose
  have hpick : ∀ i, i < len → good (pick i) ∧ rowC arr (a.off + i * c) c = f (pick i) ∧ a.off + i * c + c ≤ arr.size := fun i hi => by
    show good (if hi : i < len then (hrow i hi).choose else _) ∧ _
    have e : pick i = (hrow i hi).choose := dif_pos hi
    rw [dif_pos hi, e]
    exact (hrow i hi).choose_spec
  refine ⟨(List.range len).map pick, ?_, .inr ⟨_, _, by rw [hx], by simpa using h4⟩, .inr (.inr ⟨a, cap, arr, te, fr, by simpa using h1, r2, by simpa using h2, h3, r1, ?_, ?_⟩)⟩
  · intro z hz
    obtain ⟨i, hi, rfl⟩ := List.mem_map.1 hz
    exact (hpick i (by simpa using hi)).1
  · have := (hpick (len - 1) (by omega)).2.2
    have e : (len - 1) * c + c = len * c := by rw [← Nat.succ_mul]; congr 1; omega
    simp; omega
  · intro i z hz
    rw [List.getElem?_map] at hz
    obtain ⟨j, hj, rfl⟩ := Option.map_eq_some_iff.1 hz
    obtain ⟨hlt, rfl⟩ := List.getElem?_eq_some_iff.1 hj
    simp only [List.getElem_range]
    simp only [List.length_range] at hlt
    exact (hpick i hlt).2.1

/-- Whole numbers, side by side: an array of them. -/
def intC (k : IntKind) (v : Value) : Prop := ∃ n, v = .int k n ∧ (Lit.int k n).wf = true
theorem arr_ints {n : Nat} {k : IntKind} {cs : List Value} {x : DataW H × List MemPlace} (ht : P.underlying t = some (.array n e)) (hc : P.cellsOf e = 1) (hn : P.cellsOf t = n) (he : P.underlying e = some (.int k))
    (h : DataW.trod enc P W base sp held fuel t cs = some x) : cs.length = n ∧ ∀ v ∈ cs, intC k v := by
  obtain ⟨xs, m, _, _, h1, h2, h3⟩ := DataW.trod_array ht h
  refine ⟨h1.trans hn, fun v hv => ?_⟩
  obtain ⟨i, hi, hm⟩ := chunk_mem (n := n) (c := 1) (by rw [h1, hn, Nat.mul_one]) hv
  have := h3 i hi
  rw [hc, List.getElem?_eq_getElem (by omega)] at this
  obtain ⟨z, e1, _, e3⟩ := DataW.trod_int he this
  rw [e1] at hm
  exact ⟨z, by simpa using hm, e3⟩
theorem arr_arr {p : Value → Prop} {n c : Nat} {cs : List Value} {x : DataW H × List MemPlace} (ht : P.underlying t = some (.array n e)) (hc : P.cellsOf e = c) (hn : P.cellsOf t = n * c)
    (he : ∀ m cs x, DataW.trod enc P W base sp held m e cs = some x → ∀ v ∈ cs, p v) (h : DataW.trod enc P W base sp held fuel t cs = some x) : cs.length = n * c ∧ ∀ v ∈ cs, p v := by
  obtain ⟨xs, m, _, _, h1, h2, h3⟩ := DataW.trod_array ht h
  refine ⟨h1.trans hn, fun v hv => ?_⟩
  obtain ⟨i, hi, hm⟩ := chunk_mem (n := n) (c := c) (by rw [h1, hn]) hv
  have := h3 i hi
  rw [hc, List.getElem?_eq_getElem (by omega)] at this
  exact he _ _ _ this v hm
theorem ints_of {k : IntKind} : ∀ {cs : List Value}, (∀ v ∈ cs, intC k v) → ∃ l : List Int, cs = l.map (.int k ·) ∧ ∀ x ∈ l, (Lit.int k x).wf = true := by
  intro cs
  induction cs with
  | nil => intro _; exact ⟨[], rfl, by simp⟩
  | cons v cs ih =>
    intro h
    obtain ⟨l, h1, h2⟩ := ih fun v hv => h v (by simp [hv])
    obtain ⟨n, rfl, h3⟩ := h v (by simp)
    refine ⟨n :: l, by rw [h1]; rfl, fun x hx => ?_⟩
    rcases List.mem_cons.1 hx with rfl | hx
    · exact h3
    · exact h2 x hx
end

theorem wf_u8 {n : Int} (h : (Lit.int .u8 n).wf = true) : 0 ≤ n ∧ n ≤ 255 := by
  simpa [Lit.wf, IntKind.min, IntKind.max, IntKind.signed, IntKind.bits] using h
theorem wf_u16 {n : Int} (h : (Lit.int .u16 n).wf = true) : 0 ≤ n ∧ n ≤ 65535 := by
  simpa [Lit.wf, IntKind.min, IntKind.max, IntKind.signed, IntKind.bits] using h
theorem wf_i64 {n : Int} (h : (Lit.int .i64 n).wf = true) : -9223372036854775808 ≤ n ∧ n ≤ 9223372036854775807 := by
  simpa [Lit.wf, IntKind.min, IntKind.max, IntKind.signed, IntKind.bits] using h
end Go.Eng
