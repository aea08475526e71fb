/- The plain law of Size.Conf: what Size.Regs brings forth is right. Its contract. -/
import Derived.Test.YtkjclebafpomhaaDoorC9
set_option linter.unusedVariables false
set_option linter.unusedSimpArgs false
set_option maxRecDepth 100000
namespace Go.Proofs.YtkjclebafpomhaaDoor
open Go Go.Eng

theorem pair_any1 (m : Int × Int) (d : List (Int × Int)) : (d.any fun x => (m.1 == x.1) && (m.2 == x.2)) = true ↔ m ∈ d := by
  rw [List.any_eq_true]
  constructor
  · rintro ⟨x, hx, h⟩
    simp only [Bool.and_eq_true, beq_iff_eq] at h
    have : m = x := Prod.ext h.1 h.2
    rw [this]; exact hx
  · intro h
    exact ⟨m, h, by simp⟩
theorem pair_any2 (m : Int × Int) (d : List (Int × Int)) : (d.any fun y => (y.1 == m.1) && (y.2 == m.2)) = true ↔ m ∈ d := by
  rw [← pair_any1]
  simp only [List.any_eq_true, Bool.and_eq_true, beq_iff_eq]
  constructor <;> rintro ⟨x, hx, h⟩ <;> exact ⟨x, hx, h.1.symm, h.2.symm⟩
theorem marksOf_nodup (many : Int) : ∀ (l : List Int) (k : Nat) (acc : List (Int × Int)), acc.Nodup → (marksOf many l k acc).Nodup := by
  intro l
  induction l with
  | nil => intro k acc h; exact h
  | cons x l ih =>
    intro k acc h
    unfold marksOf
    split
    · exact ih _ _ h
    · rename_i hc
      rw [pair_any2] at hc
      refine ih _ _ (List.nodup_append.2 ⟨h, by simp, ?_⟩)
      intro a ha b hb e
      simp only [List.mem_singleton] at hb
      subst e; subst hb
      exact hc (.inr ha)
theorem marksOf_mem (many : Int) : ∀ (l : List Int) (k : Nat) (acc : List (Int × Int)) (m : Int × Int), m ∈ marksOf many l k acc → m ∈ acc ∨ ∃ x ∈ l, m = markOf many x := by
  intro l
  induction l with
  | nil => intro k acc m h; exact .inl h
  | cons x l ih =>
    intro k acc m h
    unfold marksOf at h
    split at h
    · rcases ih _ _ _ h with h | ⟨y, hy, e⟩
      · exact .inl h
      · exact .inr ⟨y, List.mem_cons_of_mem _ hy, e⟩
    · rcases ih _ _ _ h with h | ⟨y, hy, e⟩
      · rcases List.mem_append.1 h with h | h
        · exact .inl h
        · exact .inr ⟨x, by simp, by simpa using h⟩
      · exact .inr ⟨y, List.mem_cons_of_mem _ hy, e⟩
theorem marksOf_len (many : Int) : ∀ (l : List Int) (k : Nat) (acc : List (Int × Int)), acc.length ≤ k → acc.length ≤ 9 → (marksOf many l k acc).length ≤ 9 := by
  intro l
  induction l with
  | nil => intro k acc _ h; exact h
  | cons x l ih =>
    intro k acc h1 h2
    unfold marksOf
    split
    · exact ih _ _ (by omega) h2
    · rename_i hc
      have : ¬ 8 < k := fun h => hc (.inl h)
      exact ih _ _ (by simp; omega) (by simp; omega)
theorem marksErr_ok (regs : List RegD) : ∀ (l d : List (Int × Int)), (d ++ l).Nodup → (∀ m ∈ l, m.1 < regs.length ∧ 1 ≤ m.2 ∧ m.2 ≤ (regs.getD m.1.toNat zeroReg).nodes) → marksErr regs d l = 0 := by
  intro l
  induction l with
  | nil => intro d _ _; rfl
  | cons m l ih =>
    intro d h1 h2
    obtain ⟨a1, a2, a3⟩ := h2 m (by simp)
    unfold marksErr
    rw [if_neg (by omega), if_neg]
    · refine ih _ (by simpa using h1) fun m' hm' => h2 m' (by simp [hm'])
    · rw [pair_any1]
      intro hm
      have := (List.nodup_append.1 h1).2.2 m hm m (by simp)
      exact this rfl

theorem nm_ne : ∀ k, k < 5 → ∀ j, j < k → (nmB k == nmB j) = false := by decide
theorem lb_ne : ∀ k, k < 5 → ∀ j, j < k → ((lbL k == lbL j) && (lbC k == lbC j)) = false := by decide
theorem nm_ok : ∀ k, k < 5 → nameB (nmB k) = true := by decide
theorem lb_lo : ∀ k, k < 5 → lbL k ≤ 15 := by decide
theorem arr_b {arr : List Int} (h : arr.length = 25) (hb : ∀ x ∈ arr, 0 ≤ x ∧ x ≤ 255) (j : Nat) (hj : j < 25) : 0 ≤ arr.getD j 0 ∧ arr.getD j 0 ≤ 255 := by
  rw [List.getD_eq_getElem?_getD, List.getElem?_eq_getElem (by omega)]
  exact hb _ (List.getElem_mem _)
theorem clr_ok {many k : Nat} (h : 2 ≤ many) (hk : k < many) : 0 ≤ clr many k ∧ clr many k ≤ (many : Int) - 1 := by
  unfold clr clr0
  split
  · omega
  · split
    · omega
    · split <;> omega
theorem fin_sound {arr : List Int} (h : arr.length = 25) (hb : ∀ x ∈ arr, 0 ≤ x ∧ x ≤ 255) {many k : Nat} (hk : k < 5) : (finReg many arr k).sound = true := by
  have t : ∀ (j : Nat) (n : Int), j < 25 → (arr.getD j 0).tmod n = (arr.getD j 0) % n := fun j n hj => Int.tmod_eq_emod_of_nonneg (arr_b h hb j hj).1
  have b0 := arr_b h hb (k * 5) (by omega)
  have b1 := arr_b h hb (k * 5 + 1) (by omega)
  have b2 := arr_b h hb (k * 5 + 2) (by omega)
  have b3 := arr_b h hb (k * 5 + 3) (by omega)
  have b4 := arr_b h hb (k * 5 + 4) (by omega)
  simp only [RegD.sound, Bool.and_eq_true, decide_eq_true_eq]
  simp only [finReg, preReg, mkReg]
  rw [t _ _ (by omega : k * 5 < 25), t _ _ (by omega : k * 5 + 1 < 25), t _ _ (by omega : k * 5 + 2 < 25), t _ _ (by omega : k * 5 + 3 < 25), t _ _ (by omega : k * 5 + 4 < 25)]
  rw [Int.tmod_eq_emod_of_nonneg (by omega)]
  omega
theorem fin_add {arr : List Int} (h : arr.length = 25) (hb : ∀ x ∈ arr, 0 ≤ x ∧ x ≤ 255) {many k : Nat} (h2 : 2 ≤ many) (h5 : many ≤ 5) (hk : k < many) : addErr many ((List.range k).map (finReg many arr)) (finReg many arr k) = 0 := by
  unfold addErr
  have hc := clr_ok h2 hk
  have hw : w64 ((many : Int) - 1) = (many : Int) - 1 := by unfold w64; rw [wrap64] <;> omega
  have e1 : nameB (finReg many arr k).name = true := nm_ok k (by omega)
  have e2 : decide ((finReg many arr k).lev ≤ 15) = true := decide_eq_true (lb_lo k (by omega))
  have e4 : (decide (0 ≤ (finReg many arr k).clear) && decide ((finReg many arr k).clear ≤ w64 ((many : Int) - 1))) = true := by
    rw [hw]
    have : (finReg many arr k).clear = clr many k := rfl
    rw [this]; simp; exact hc
  have e5 : ((((List.range k).map (finReg many arr)).map (·.name)).any fun x => (finReg many arr k).name == x) = false := by
    rw [List.any_eq_false]
    intro x hx
    simp only [List.mem_map, List.mem_range] at hx
    obtain ⟨_, ⟨j, hj, rfl⟩, rfl⟩ := hx
    have := nm_ne k (by omega) j hj
    rw [show ((finReg many arr k).name == (finReg many arr j).name) = (nmB k == nmB j) from rfl, this]; simp
  have e6 : ((((List.range k).map (finReg many arr)).map fun r => (r.lev, r.cats)).any fun x => ((finReg many arr k).lev == x.1) && ((finReg many arr k).cats == x.2)) = false := by
    rw [List.any_eq_false]
    intro x hx
    simp only [List.mem_map, List.mem_range] at hx
    obtain ⟨_, ⟨j, hj, rfl⟩, rfl⟩ := hx
    have := lb_ne k (by omega) j hj
    rw [show (((finReg many arr k).lev == ((finReg many arr j).lev, (finReg many arr j).cats).1) && ((finReg many arr k).cats == ((finReg many arr j).lev, (finReg many arr j).cats).2)) = ((lbL k == lbL j) && (lbC k == lbC j)) from rfl, this]; simp
  rw [e1, e2, fin_sound h hb (by omega), e4, e5, e6]
  rfl
theorem fin_adds {arr : List Int} (h : arr.length = 25) (hb : ∀ x ∈ arr, 0 ≤ x ∧ x ≤ 255) {many : Nat} (h2 : 2 ≤ many) (h5 : many ≤ 5) : ∀ n k, k + n = many → addsErr many ((List.range k).map (finReg many arr)) ((List.range' k n).map (finReg many arr)) = 0 := by
  intro n
  induction n with
  | zero => intro k hk; rfl
  | succ n ih =>
    intro k hk
    rw [List.range'_succ, List.map_cons]
    unfold addsErr
    rw [if_pos (fin_add h hb h2 h5 (by omega))]
    have := ih (k + 1) (by omega)
    rw [List.range_succ, List.map_append] at this
    exact this
theorem fin_at {arr : List Int} {many k : Nat} (hk : k < many) : (finRegs many arr).getD k zeroReg = finReg many arr k := by
  unfold finRegs
  rw [List.getD_eq_getElem?_getD, List.getElem?_map, List.getElem?_range hk]; rfl
theorem fin_len (many : Nat) (arr : List Int) : (finRegs many arr).length = many := by simp [finRegs]
theorem lb_leq : ∀ many, 2 ≤ many → many ≤ 5 → ∀ k, k < many → leqB (lbL k) (lbC k) (lbL (clr many k).toNat) (lbC (clr many k).toNat) = true := by
  intro many h2 h5 k hk
  have : many = 2 ∨ many = 3 ∨ many = 4 ∨ many = 5 := by omega
  rcases this with rfl | rfl | rfl | rfl
  · rcases k with _ | _ | k <;> first | omega | decide +kernel
  · rcases k with _ | _ | _ | k <;> first | omega | decide +kernel
  · rcases k with _ | _ | _ | _ | k <;> first | omega | decide +kernel
  · rcases k with _ | _ | _ | _ | _ | k <;> first | omega | decide +kernel
theorem fin_leq {arr : List Int} {many k : Nat} (h2 : 2 ≤ many) (h5 : many ≤ 5) (hk : k < many) : leqR (finRegs many arr) k (finReg many arr k).clear = true := by
  have hc := clr_ok h2 hk
  have e : (finReg many arr k).clear = clr many k := rfl
  unfold leqR
  rw [e, fin_len, if_pos (by omega), Int.toNat_natCast, fin_at hk, fin_at (by omega)]
  exact lb_leq many h2 h5 k hk
theorem fin_leqs {arr : List Int} {many : Nat} (h2 : 2 ≤ many) (h5 : many ≤ 5) : ∀ n k, k + n = many → leqsFrom (finRegs many arr) ((List.range' k n).map (finReg many arr)) k = true := by
  intro n
  induction n with
  | zero => intro k hk; rfl
  | succ n ih =>
    intro k hk
    rw [List.range'_succ, List.map_cons]
    unfold leqsFrom
    rw [fin_leq h2 h5 (by omega), ih (k + 1) (by omega)]; rfl
theorem mark_ok {many : Nat} (h2 : 2 ≤ many) {x : Int} (hx : 0 ≤ x ∧ x ≤ 255) : 0 ≤ (markOf many x).1 ∧ (markOf many x).1 < many ∧ 4 ≤ (markOf many x).2 ∧ (markOf many x).2 ≤ 7 := by
  unfold markOf
  simp only
  rw [Int.tmod_eq_emod_of_nonneg hx.1, Int.tdiv_eq_ediv_of_nonneg hx.1, Int.tmod_eq_emod_of_nonneg (by omega)]
  have := Int.emod_nonneg x (show (many : Int) ≠ 0 by omega)
  have := Int.emod_lt_of_pos x (show (0 : Int) < many by omega)
  omega
theorem fin_nodes {arr : List Int} (h : arr.length = 25) (hb : ∀ x ∈ arr, 0 ≤ x ∧ x ≤ 255) {many k : Nat} (hk : k < 5) : 8 ≤ (finReg many arr k).nodes := by
  have b1 := arr_b h hb (k * 5 + 1) (by omega)
  show 8 ≤ 8 + 2 * (arr.getD (k * 5 + 1) 0).tmod 12
  rw [Int.tmod_eq_emod_of_nonneg b1.1]; omega
theorem fin_new {arr bytes : List Int} (h : arr.length = 25) (hb : ∀ x ∈ arr, 0 ≤ x ∧ x ≤ 255) (hbb : ∀ x ∈ bytes, 0 ≤ x ∧ x ≤ 255) {many : Nat} (h2 : 2 ≤ many) (h5 : many ≤ 5) : newErr (finRegs many arr) (marksOf many bytes 0 []) = 0 := by
  unfold newErr
  rw [fin_len, if_neg (by omega)]
  have e1 : addsErr many [] (finRegs many arr) = 0 := by
    have := fin_adds h hb h2 h5 many 0 (by omega)
    rw [← List.range_eq_range'] at this
    exact this
  have e2 : leqsFrom (finRegs many arr) (finRegs many arr) 0 = true := by
    have := fin_leqs (arr := arr) h2 h5 many 0 (by omega)
    rw [← List.range_eq_range'] at this
    exact this
  have e3 : (((finRegs many arr).getD 0 zeroReg).lev == 0 && ((finRegs many arr).getD 0 zeroReg).cats == 0) = true := by
    rw [fin_at (by omega)]; rfl
  rw [if_neg (by rw [e1]; simp), if_neg (by rw [e3]; simp), if_neg (by rw [e2]; simp)]
  refine marksErr_ok _ _ _ (by simpa using marksOf_nodup many bytes 0 [] (by simp)) fun m hm => ?_
  rcases marksOf_mem _ _ _ _ _ hm with hm | ⟨x, hx, rfl⟩
  · cases hm
  obtain ⟨a1, a2, a3, a4⟩ := mark_ok h2 (hbb x hx)
  rw [fin_len]
  refine ⟨a2, by omega, ?_⟩
  obtain ⟨p, hp⟩ : ∃ p : Nat, (markOf many x).1 = p := ⟨(markOf many x).1.toNat, by omega⟩
  rw [hp, Int.toNat_natCast, fin_at (by omega)]
  have := fin_nodes h hb (many := many) (k := p) (by omega)
  omega
end Go.Proofs.YtkjclebafpomhaaDoor
