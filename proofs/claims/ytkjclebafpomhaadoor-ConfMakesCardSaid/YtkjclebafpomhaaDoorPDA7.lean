/- The plain law of Size.Conf: what Size.Regs brings forth is right. Its contract. -/
import Derived.Test.YtkjclebafpomhaaDoorPDA6
set_option linter.unusedVariables false
set_option linter.unusedSimpArgs false
set_option maxRecDepth 100000
namespace Go.Proofs.YtkjclebafpomhaaDoor
open Go Go.Eng

theorem pair_any1 (m : Int × Int) (d : List (Int × Int)) : (d.any fun x => (m.1 == x.1) && (m.2 == x.2)) = true ↔ m ∈ d := by
  rw [List.any_eq_true]
  constructor
  · rintro ⟨x, hx, h⟩
    simp only [Bool.and_eq_true, beq_iff_eq] at h
    have : m = x := Prod.ext h.1 h.2
    rw [this]; exact hx
  · intro h
    exact ⟨m, h, by simp⟩
theorem pair_any2 (m : Int × Int) (d : List (Int × Int)) : (d.any fun y => (y.1 == m.1) && (y.2 == m.2)) = true ↔ m ∈ d := by
  rw [← pair_any1]
  simp only [List.any_eq_true, Bool.and_eq_true, beq_iff_eq]
  constructor <;> rintro ⟨x, hx, h⟩ <;> exact ⟨x, hx, h.1.symm, h.2.symm⟩
theorem marksOf_nodup (many : Int) : ∀ (l : List Int) (k : Nat) (acc : List (Int × Int)), acc.Nodup → (marksOf many l k acc).Nodup := by
  intro l
  induction l with
  | nil => intro k acc h; exact h
  | cons x l ih =>
    intro k acc h
    unfold marksOf
    split
    · exact ih _ _ h
    · rename_i hc
      rw [pair_any2] at hc
      refine ih _ _ (List.nodup_append.2 ⟨h, by simp, ?_⟩)
      intro a ha b hb e
      simp only [List.mem_singleton] at hb
      subst e; subst hb
      exact hc (.inr ha)
theorem marksOf_mem (many : Int) : ∀ (l : List Int) (k : Nat) (acc : List (Int × Int)) (m : Int × Int), m ∈ marksOf many l k acc → m ∈ acc ∨ ∃ x ∈ l, m = markOf many x := by
  intro l
  induction l with
  | nil => intro k acc m h; exact .inl h
  | cons x l ih =>
    intro k acc m h
    unfold marksOf at h
    split at h
    · rcases ih _ _ _ h with h | ⟨y, hy, e⟩
      · exact .inl h
      · exact .inr ⟨y, List.mem_cons_of_mem _ hy, e⟩
    · rcases ih _ _ _ h with h | ⟨y, hy, e⟩
      · rcases List.mem_append.1 h with h | h
        · exact .inl h
        · exact .inr ⟨x, by simp, by simpa using h⟩
      · exact .inr ⟨y, List.mem_cons_of_mem _ hy, e⟩
theorem marksOf_len (many : Int) : ∀ (l : List Int) (k : Nat) (acc : List (Int × Int)), acc.length ≤ k → acc.length ≤ 9 → (marksOf many l k acc).length ≤ 9 := by
  intro l
  induction l with
  | nil => intro k acc _ h; exact h
  | cons x l ih =>
    intro k acc h1 h2
    unfold marksOf
    split
    · exact ih _ _ (by omega) h2
    · rename_i hc
      have : ¬ 8 < k := fun h => hc (.inl h)
      exact ih _ _ (by simp; omega) (by simp; omega)
theorem marksErr_ok (regs : List RegD) : ∀ (l d : List (Int × Int)), (d ++ l).Nodup → (∀ m ∈ l, m.1 < regs.length ∧ 1 ≤ m.2 ∧ m.2 ≤ (regs.getD m.1.toNat zeroReg).nodes) → marksErr regs d l = 0 := by
  intro l
  induction l with
  | nil => intro d _ _; rfl
  | cons m l ih =>
    intro d h1 h2
    obtain ⟨a1, a2, a3⟩ := h2 m (by simp)
    unfold marksErr
    rw [if_neg (by omega), if_neg]
    · refine ih _ (by simpa using h1) fun m' hm' => h2 m' (by simp [hm'])
    · rw [pair_any1]
      intro hm
      have := (List.nodup_append.1 h1).2.2 m hm m (by simp)
      exact this rfl

theorem nm_ne : ∀ k, k < 5 → ∀ j, j < k → (nmB k == nmB j) = false := by decide
theorem lb_ne : ∀ k, k < 5 → ∀ j, j < k → ((lbL k == lbL j) && (lbC k == lbC j)) = false := by decide
theorem nm_ok : ∀ k, k < 5 → nameB (nmB k) = true := by decide
theorem lb_lo : ∀ k, k < 5 → lbL k ≤ 15 := by decide
theorem arr_b {arr : List Int} (h : arr.length = 25) (hb : ∀ x ∈ arr, 0 ≤ x ∧ x ≤ 255) (j : Nat) (hj : j < 25) : 0 ≤ arr.getD j 0 ∧ arr.getD j 0 ≤ 255 := by
  rw [List.getD_eq_getElem?_getD, List.getElem?_eq_getElem (by omega)]
  exact hb _ (List.getElem_mem _)
theorem clr_ok {many k : Nat} (h : 2 ≤ many) (hk : k < many) : 0 ≤ clr many k ∧ clr many k ≤ (many : Int) - 1 := by
  unfold clr clr0
  split
  · omega
  · split
    · omega
    · split <;> omega
theorem fin_sound {arr : List Int} (h : arr.length = 25) (hb : ∀ x ∈ arr, 0 ≤ x ∧ x ≤ 255) {many k : Nat} (hk : k < 5) : (finReg many arr k).sound = true := by
  have t : ∀ (j : Nat) (n : Int), j < 25 → (arr.getD j 0).tmod n = (arr.getD j 0) % n := fun j n hj => Int.tmod_eq_emod_of_nonneg (arr_b h hb j hj).1
  have b0 := arr_b h hb (k * 5) (by omega)
  have b1 := arr_b h hb (k * 5 + 1) (by omega)
  have b2 := arr_b h hb (k * 5 + 2) (by omega)
  have b3 := arr_b h hb (k * 5 + 3) (by omega)
  have b4 := arr_b h hb (k * 5 + 4) (by omega)
  simp only [RegD.sound, Bool.and_eq_true, decide_eq_true_eq]
  simp only [finReg, preReg, mkReg]
  rw [t _ _ (by omega : k * 5 < 25), t _ _ (by omega : k * 5 + 1 < 25), t _ _ (by omega : k * 5 + 2 < 25), t _ _ (by omega : k * 5 + 3 < 25), t _ _ (by omega : k * 5 + 4 < 25)]
  rw [Int.tmod_eq_emod_of_nonneg (by omega)]
  omega
theorem fin_add {arr : List Int} (h : arr.length = 25) (hb : ∀ x ∈ arr, 0 ≤ x ∧ x ≤ 255) {many k : Nat} (h2 : 2 ≤ many) (h5 : many ≤ 5) (hk : k < many) : addErr many ((List.range k).map (finReg many arr)) (finReg many arr k) = 0 := by
  unfold addErr
  have hc := clr_ok h2 hk
  have hw : w64 ((many : Int) - 1) = (many : Int) - 1 := by unfold w64; rw [wrap64] <;> omega
  have e1 : nameB (finReg many arr k).name = true := nm_ok k (by omega)
  have e2 : decide ((finReg many arr k).lev ≤ 15) = true := decide_eq_true (lb_lo k (by omega))
  have e4 : (decide (0 ≤ (finReg many arr k).clear) && decide ((finReg many arr k).clear ≤ w64 ((many : Int) - 1))) = true := by
    rw [hw]
    have : (finReg many arr k).clear = clr many k := rfl
    rw [this]; simp; exact hc
  have e5 : ((((List.range k).map (finReg many arr)).map (·.name)).any fun x => (finReg many arr k).name == x) = false := by
    rw [List.any_eq_false]
    intro x hx
    simp only [List.mem_map, List.mem_range] at hx
    obtain ⟨_, ⟨j, hj, rfl⟩, rfl⟩ := hx
    have := nm_ne k (by omega) j hj
    rw [show ((finReg many arr k).name == (finReg many arr j).name) = (nmB k == nmB j) from rfl, this]; simp
  have e6 : ((((List.range k).map (finReg many arr)).map fun r => (r.lev, r.cats)).any fun x => ((finReg many arr k).lev == x.1) && ((finReg many arr k).cats == x.2)) = false := by
    rw [List.any_eq_false]
    intro x hx
    simp only [List.mem_map, List.mem_range] at hx
    obtain ⟨_, ⟨j, hj, rfl⟩, rfl⟩ := hx
    have := lb_ne k (by omega) j hj
    rw [show (((finReg many arr k).lev == ((finReg many arr j).lev, (finReg many arr j).cats).1) && ((finReg many arr k).cats == ((finReg many arr j).lev, (finReg many arr j).cats).2)) = ((lbL k == lbL j) && (lbC k == lbC j)) from rfl, this]; simp
  rw [e1, e2, fin_sound h hb (by omega), e4, e5, e6]
  rfl
theorem fin_adds {arr : List Int} (h : arr.length = 25) (hb : ∀ x ∈ arr, 0 ≤ x ∧ x ≤ 255) {many : Nat} (h2 : 2 ≤ many) (h5 : many ≤ 5) : ∀ n k, k + n = many → addsErr many ((List.range k).map (finReg many arr)) ((List.range' k n).map (finReg many arr)) = 0 := by
  intro n
  induction n with
  | zero => intro k hk; rfl
  | succ n ih =>
    intro k hk
    rw [List.range'_succ, List.map_cons]
    unfold addsErr
    rw [if_pos (fin_add h hb h2 h5 (by omega))]
    have := ih (k + 1) (by omega)
    rw [List.range_succ, List.map_append] at this
    exact this
theorem fin_at {arr : List Int} {many k : Nat} (hk : k < many) : (finRegs many arr).getD k zeroReg = finReg many arr k := by
  unfold finRegs
  rw [List.getD_eq_getElem?_getD, List.getElem?_map, List.getElem?_range hk]; rfl
theorem fin_len (many : Nat) (arr : List Int) : (finRegs many arr).length = many := by simp [finRegs]
theorem lb_leq : ∀ many, 2 ≤ many → many ≤ 5 → ∀ k, k < many → leqB (lbL k) (lbC k) (lbL (clr many k).toNat) (lbC (clr many k).toNat) = true := by
  intro many h2 h5 k hk
  have : many = 2 ∨ many = 3 ∨ many = 4 ∨ many = 5 := by omega
  rcases this with rfl | rfl | rfl | rfl
  · rcases k with _ | _ | k <;> first | omega | decide +kernel
  · rcases k with _ | _ | _ | k <;> first | omega | decide +kernel
  · rcases k with _ | _ | _ | _ | k <;> first | omega | decide +kernel
  · rcases k with _ | _ | _ | _ | _ | k <;> first | omega | decide +kernel
theorem fin_leq {arr : List Int} {many k : Nat} (h2 : 2 ≤ many) (h5 : many ≤ 5) (hk : k < many) : leqR (finRegs many arr) k (finReg many arr k).clear = true := by
  have hc := clr_ok h2 hk
  have e : (finReg many arr k).clear = clr many k := rfl
  unfold leqR
  rw [e, fin_len, if_pos (by omega), Int.toNat_natCast, fin_at hk, fin_at (by omega)]
  exact lb_leq many h2 h5 k hk
theorem fin_leqs {arr : List Int} {many : Nat} (h2 : 2 ≤ many) (h5 : many ≤ 5) : ∀ n k, k + n = many → leqsFrom (finRegs many arr) ((List.range' k n).map (finReg many arr)) k = true := by
  intro n
  induction n with
  | zero => intro k hk; rfl
  | succ n ih =>
    intro k hk
    rw [List.range'_succ, List.map_cons]
    unfold leqsFrom
    rw [fin_leq h2 h5 (by omega), ih (k + 1) (by omega)]; rfl
theorem mark_ok {many : Nat} (h2 : 2 ≤ many) {x : Int} (hx : 0 ≤ x ∧ x ≤ 255) : 0 ≤ (markOf many x).1 ∧ (markOf many x).1 < many ∧ 4 ≤ (markOf many x).2 ∧ (markOf many x).2 ≤ 7 := by
  unfold markOf
  simp only
  rw [Int.tmod_eq_emod_of_nonneg hx.1, Int.tdiv_eq_ediv_of_nonneg hx.1, Int.tmod_eq_emod_of_nonneg (by omega)]
  have := Int.emod_nonneg x (show (many : Int) ≠ 0 by omega)
  have := Int.emod_lt_of_pos x (show (0 : Int) < many by omega)
  omega
theorem fin_nodes {arr : List Int} (h : arr.length = 25) (hb : ∀ x ∈ arr, 0 ≤ x ∧ x ≤ 255) {many k : Nat} (hk : k < 5) : 8 ≤ (finReg many arr k).nodes := by
  have b1 := arr_b h hb (k * 5 + 1) (by omega)
  show 8 ≤ 8 + 2 * (arr.getD (k * 5 + 1) 0).tmod 12
  rw [Int.tmod_eq_emod_of_nonneg b1.1]; omega
theorem fin_new {arr bytes : List Int} (h : arr.length = 25) (hb : ∀ x ∈ arr, 0 ≤ x ∧ x ≤ 255) (hbb : ∀ x ∈ bytes, 0 ≤ x ∧ x ≤ 255) {many : Nat} (h2 : 2 ≤ many) (h5 : many ≤ 5) : newErr (finRegs many arr) (marksOf many bytes 0 []) = 0 := by
  unfold newErr
  rw [fin_len, if_neg (by omega)]
  have e1 : addsErr many [] (finRegs many arr) = 0 := by
    have := fin_adds h hb h2 h5 many 0 (by omega)
    rw [← List.range_eq_range'] at this
    exact this
  have e2 : leqsFrom (finRegs many arr) (finRegs many arr) 0 = true := by
    have := fin_leqs (arr := arr) h2 h5 many 0 (by omega)
    rw [← List.range_eq_range'] at this
    exact this
  have e3 : (((finRegs many arr).getD 0 zeroReg).lev == 0 && ((finRegs many arr).getD 0 zeroReg).cats == 0) = true := by
    rw [fin_at (by omega)]; rfl
  rw [if_neg (by rw [e1]; simp), if_neg (by rw [e3]; simp), if_neg (by rw [e2]; simp)]
  refine marksErr_ok _ _ _ (by simpa using marksOf_nodup many bytes 0 [] (by simp)) fun m hm => ?_
  rcases marksOf_mem _ _ _ _ _ hm with hm | ⟨x, hx, rfl⟩
  · cases hm
  obtain ⟨a1, a2, a3, a4⟩ := mark_ok h2 (hbb x hx)
  rw [fin_len]
  refine ⟨a2, by omega, ?_⟩
  obtain ⟨p, hp⟩ : ∃ p : Nat, (markOf many x).1 = p := ⟨(markOf many x).1.toNat, by omega⟩
  rw [hp, Int.toNat_natCast, fin_at (by omega)]
  have := fin_nodes h hb (many := many) (k := p) (by omega)
  omega
end Go.Proofs.YtkjclebafpomhaaDoor
set_option linter.unusedVariables false
set_option linter.unusedSimpArgs false
set_option maxRecDepth 100000
namespace Go.Proofs.YtkjclebafpomhaaDoor
open Go Go.Eng
theorem s8_19 : s8 19 = none := id rfl
theorem s8_20 : s8 20 = none := id rfl
theorem size_many {a : Int} (ha : 0 ≤ a ∧ a ≤ 255) : 2 ≤ (2 + a.tmod 4).toNat ∧ (2 + a.tmod 4).toNat ≤ 5 ∧ (((2 + a.tmod 4).toNat : Nat) : Int) = 2 + a.tmod 4 := by
  rw [Int.tmod_eq_emod_of_nonneg ha.1]; omega
theorem conf_c {H : AHeap} {a : Int} {arr bytes : List Int} {sl : Value} (ha : 0 ≤ a ∧ a ≤ 255) (h25 : arr.length = 25) (hb : ∀ x ∈ arr, 0 ≤ x ∧ x ≤ 255) (hs : SlcE H sl (fun x => [Value.int .u8 x]) 1 bytes) (hbb : ∀ x ∈ bytes, 0 ≤ x ∧ x ≤ 255) (hlen : bytes.length < 4611686018427387904) :
    ACalls Tryd.prog 4 13 [.agg (sizeCells a arr sl).toArray] H fun v H' => Keeps [] H H' ∧ ∃ i ir ig, v = .pointer (some ⟨i, 0, none⟩) ∧
      IsConf H' i ir ig (finRegs (2 + a.tmod 4).toNat arr) (geosFrom 32 (finRegs (2 + a.tmod 4).toNat arr)).1 (geosFrom 32 (finRegs (2 + a.tmod 4).toNat arr)).2 := by
  refine walk s8_ok (fn := Tryd.f13) (by kernel_rfl) (c := Tryd.f13.body.get (by kernel_rfl)) (by kernel_rfl) (by simp [Tryd.f13]) ?_
  simp only [Tryd.f13, Option.get]
  have qone : (sizeCells a arr sl).all one = true := by
    have h1 : one sl = true := by
      rcases hs with ⟨_, rfl⟩ | ⟨b, c, row, ro, par, gs, rfl, _⟩
      · exact one_slice ..
      · exact one_slice ..
    simp only [sizeCells, List.all_cons, List.all_append, h1, List.all_nil, Bool.and_true, Bool.and_eq_true, List.all_eq_true, List.mem_map]
    exact ⟨rfl, by rintro x ⟨y, _, rfl⟩; rfl⟩
  have ql : (sizeCells a arr sl).length = 27 := by simp [sizeCells, h25]
  have qt : (sizeCells a arr sl).take 27 = sizeCells a arr sl := List.take_of_length_le (by omega)
  have ql' : 27 ≤ (sizeCells a arr sl).length := by omega
  have hK1 : Keeps [] H (H.new (.cells (sizeCells a arr sl) false [] 0)) := (Keeps.refl [] H).new' _
  have hs1 : SlcE (H.new (.cells (sizeCells a arr sl) false [] 0)) sl (fun x => [Value.int .u8 x]) 1 bytes := by
    rcases hs with h | ⟨b, c, row, ro, par, gs, h1, h2, h3⟩
    · exact .inl h
    · exact .inr ⟨b, c, row, ro, par, gs, h1, hK1.get h2 (by simp), h3⟩
  obtain ⟨m2, m5, me⟩ := size_many ha
  simp only [go_sem, Nat.reduceLT, Nat.reduceEqDiff, ↓reduceIte, Nat.reduceAdd, Nat.zero_add, Nat.add_zero, Nat.reduceLeDiff, Int.reduceEq, Nat.reduceMul, List.take_zero, List.drop_succ_cons, List.drop_zero, List.nil_append, List.append_nil, List.drop_nil, List.take_succ_cons, List.take_nil, List.cons_append, Int.toNat_natCast, Int.toNat_zero, Int.toNat_one, qone, ql', qt, s8_19, s8_20]
  refine callsx_of (cxS_ok s8_ok) (fn := Tryd.f19) (by kernel_rfl) (by kernel_rfl) (regs_c ha h25 hb hs1 hbb hlen) ?_
  rintro v X ⟨hK, sr, sm, rfl, h1, h2⟩
  generalize hmany : (2 + a.tmod 4).toNat = many at *
  rw [← me] at h2
  simp only [go_sem, Nat.reduceLT, Nat.reduceEqDiff, ↓reduceIte, Nat.reduceAdd, Nat.zero_add, Nat.add_zero, Nat.reduceLeDiff, Int.reduceEq, Nat.reduceMul, List.take_zero, List.drop_succ_cons, List.drop_zero, List.nil_append, List.append_nil, List.drop_nil, List.take_succ_cons, List.take_nil, List.cons_append, Int.toNat_natCast, Int.toNat_zero, Int.toNat_one, qone, ql', qt, s8_19, s8_20]
  refine callsx_of (cxS_ok s8_ok) (fn := Tryd.f20) (by kernel_rfl) (by kernel_rfl) (new_c h1 h2 (fun m hm => ?_) ?_) ?_
  · rcases marksOf_mem _ _ _ _ _ hm with hm | ⟨x, hx, rfl⟩
    · cases hm
    · have := mark_ok m2 (hbb x hx); omega
  · have := marksOf_len many bytes 0 [] (by simp) (by simp); omega
  rintro v X2 ⟨hK2, hv⟩
  have h0 := fin_new h25 hb hbb m2 m5
  rcases hv with ⟨hn, _⟩ | ⟨_, i, ir, ig, rfl, hI⟩
  · exact absurd h0 hn
  simp only [go_sem, Nat.reduceLT, Nat.reduceEqDiff, ↓reduceIte, Nat.reduceAdd, Nat.zero_add, Nat.add_zero, Nat.reduceLeDiff, Int.reduceEq, Nat.reduceMul, List.take_zero, List.drop_succ_cons, List.drop_zero, List.nil_append, List.append_nil, List.drop_nil, List.take_succ_cons, List.take_nil, List.cons_append, Int.toNat_natCast, Int.toNat_zero, Int.toNat_one]
  exact ⟨(hK1.trans hK).trans hK2, i, ir, ig, rfl, hI⟩
end Go.Proofs.YtkjclebafpomhaaDoor
set_option linter.unusedVariables false
set_option linter.unusedSimpArgs false
set_option maxRecDepth 100000
namespace Go.Proofs.YtkjclebafpomhaaDoor
open Go Go.Eng

inductive Chain : Int → List GeoD → Int → Prop
  | nil (t : Int) : Chain t [] t
  | cons {g : GeoD} {l : List GeoD} {e : Int} : 0 ≤ g.base → g.base < g.data → 1 ≤ g.blocks → g.data + g.blocks ≤ 1000000 → Chain (g.data + g.blocks) l e → Chain g.base (g :: l) e
theorem Chain.eq_nil {t e : Int} (h : Chain t [] e) : t = e := by cases h; rfl
theorem Chain.le {t e : Int} {l : List GeoD} (h : Chain t l e) : t ≤ e ∧ (l ≠ [] → t < e) := by
  induction h with
  | nil t => exact ⟨Int.le_refl _, fun h => absurd rfl h⟩
  | cons h1 h2 h3 h4 h5 ih => exact ⟨by omega, fun _ => by omega⟩
theorem Chain.under {t e : Int} {l : List GeoD} (h : Chain t l e) : ∀ (b : Int) (k : Nat), b < t → groupFrom b l k = (0, 0, false) := by
  induction h with
  | nil t => intro b k _; rfl
  | cons h1 h2 h3 h4 h5 ih =>
    intro b k hb
    unfold groupFrom
    rw [if_pos hb]
    exact ih b _ (by omega)
theorem Chain.above {t e : Int} {l : List GeoD} (h : Chain t l e) : ∀ (b : Int) (k : Nat), e ≤ b → groupFrom b l k = (0, 0, false) := by
  induction h with
  | nil t => intro b k _; rfl
  | @cons g l e h1 h2 h3 h4 h5 ih =>
    intro b k hb
    have := h5.le.1
    unfold groupFrom
    rw [if_neg (by omega), if_pos (by rw [wrap64] <;> omega)]
    exact ih b _ hb
theorem Chain.first {t e : Int} {l : List GeoD} (h : Chain t l e) (hl : l ≠ []) (k : Nat) : groupFrom t l k = ((k : Int), 0, true) := by
  cases h with
  | nil => exact absurd rfl hl
  | cons h1 h2 h3 h4 h5 =>
    unfold groupFrom
    rw [if_neg (by omega), if_neg (by rw [wrap64] <;> omega), if_pos h2]
theorem Chain.at {t e : Int} {l : List GeoD} (h : Chain t l e) : ∀ (b : Int) (k : Nat), t ≤ b → b < e → ∃ (p : Nat) (q : Int) (g : GeoD), groupFrom b l k = ((p : Int), q, true) ∧ k ≤ p ∧ l[p - k]? = some g ∧ 0 ≤ q ∧ (q ≤ g.blocks ∧ g.blocks ≤ 1000000) ∧
    (b + 1 = e → p + 1 = k + l.length) ∧ (b + 1 < e → ∃ (p' : Nat) (q' : Int), groupFrom (b + 1) l k = ((p' : Int), q', true) ∧ ((p' = p ∧ (q' = q + 1 ∨ (q' = 0 ∧ q = 0))) ∨ (p' = p + 1 ∧ q' = 0))) := by
  induction h with
  | nil t => intro b k h1 h2; omega
  | @cons g l e h1 h2 h3 h4 h5 ih =>
    intro b k hb he
    have hle := h5.le
    have w0 : IntKind.wrap .i64 (g.data + g.blocks) = g.data + g.blocks := by rw [wrap64] <;> omega
    by_cases hin : g.data + g.blocks ≤ b
    · obtain ⟨p, q, g', e1, e2, e3, e4, e5, e6, e7⟩ := ih b (k + 1) hin he
      have hp : p - k = (p - (k + 1)) + 1 := by omega
      refine ⟨p, q, g', ?_, by omega, by rw [hp, List.getElem?_cons_succ]; exact e3, e4, e5, fun h => by have := e6 h; simp; omega, fun h => ?_⟩
      · unfold groupFrom; rw [if_neg (by omega), if_pos (by rw [w0]; exact hin)]; exact e1
      · obtain ⟨p', q', f1, f2⟩ := e7 h
        refine ⟨p', q', ?_, f2⟩
        unfold groupFrom; rw [if_neg (by omega), if_pos (by rw [w0]; omega)]; exact f1
    · have hg : ∀ c : Int, g.base ≤ c → c < g.data + g.blocks → groupFrom c (g :: l) k = if c < g.data then ((k : Int), 0, true) else ((k : Int), c - g.data + 1, true) := by
        intro c h1 h2
        unfold groupFrom
        rw [if_neg (by omega), if_neg (by rw [w0]; omega)]
        split
        · rfl
        · have e1 : IntKind.wrap .i64 (c - g.data) = c - g.data := by rw [wrap64] <;> omega
          have e2 : IntKind.wrap .i64 (c - g.data + 1) = c - g.data + 1 := by rw [wrap64] <;> omega
          rw [e1, e2]
      have hb2 : b < g.data + g.blocks := by omega
      refine ⟨k, if b < g.data then 0 else b - g.data + 1, g, ?_, Nat.le_refl _, by simp, by split <;> omega, ⟨by split <;> omega, by omega⟩, fun h => ?_, fun h => ?_⟩
      · rw [hg b hb hb2]; split <;> rfl
      · have : l = [] := by
          by_cases hl : l = []
          · exact hl
          · have := hle.2 hl; omega
        subst this; simp
      · by_cases hb3 : b + 1 < g.data + g.blocks
        · refine ⟨k, if b + 1 < g.data then 0 else b + 1 - g.data + 1, ?_, .inl ⟨rfl, ?_⟩⟩
          · rw [hg _ (by omega) hb3]; split <;> rfl
          · by_cases c1 : b + 1 < g.data
            · rw [if_pos c1, if_pos (by omega)]; exact .inr ⟨rfl, rfl⟩
            · rw [if_neg c1]
              by_cases c2 : b < g.data
              · rw [if_pos c2]; left; omega
              · rw [if_neg c2]; left; omega
        · have hbe : b + 1 = g.data + g.blocks := by omega
          refine ⟨k + 1, 0, ?_, .inr ⟨rfl, rfl⟩⟩
          unfold groupFrom
          rw [if_neg (by omega), if_pos (by rw [w0]; omega), hbe]
          exact h5.first (fun hl => by subst hl; have := h5.eq_nil; omega) (k + 1)
theorem geos_chain : ∀ (regs : List RegD) (t : Int), 0 ≤ t → t + 600 * regs.length ≤ 100000 → (∀ r ∈ regs, r.sound = true) →
    Chain t (geosFrom t regs).1 (geosFrom t regs).2 ∧ (geosFrom t regs).2 ≤ t + 600 * regs.length ∧ (geosFrom t regs).1.length = regs.length ∧ ∀ (i : Nat) g, (geosFrom t regs).1[i]? = some g → g.blocks = (regs.getD i zeroReg).blocks := by
  intro regs
  induction regs with
  | nil => intro t h0 h1 _; exact ⟨.nil t, by simp [geosFrom], rfl, by simp [geosFrom]⟩
  | cons r l ih =>
    intro t h0 h1 hs
    have hr := hs r (by simp)
    simp only [RegD.sound, Bool.and_eq_true, decide_eq_true_eq] at hr
    obtain ⟨⟨⟨⟨⟨⟨a1, a2⟩, a3, a4⟩, _⟩, _⟩, _⟩, _⟩ := hr
    simp only [List.length_cons] at h1
    have e1 : w64 (r.blocks + 512) = r.blocks + 512 := by unfold w64; rw [wrap64] <;> omega
    have e2 : w64 (r.blocks + 512 - 1) = r.blocks + 511 := by unfold w64; rw [wrap64] <;> omega
    have e3 : (r.blocks + 511).tdiv 512 = (r.blocks + 511) / 512 := Int.tdiv_eq_ediv_of_nonneg (by omega)
    have e4 : w64 ((r.blocks + 511) / 512) = (r.blocks + 511) / 512 := by unfold w64; rw [wrap64] <;> omega
    have f1 : w64 (r.nodes * 32) = r.nodes * 32 := by unfold w64; rw [wrap64] <;> omega
    have f2 : w64 (r.nodes * 32 + 64) = r.nodes * 32 + 64 := by unfold w64; rw [wrap64] <;> omega
    have f3 : w64 (r.nodes * 32 + 64 - 1) = r.nodes * 32 + 63 := by unfold w64; rw [wrap64] <;> omega
    have f4 : (r.nodes * 32 + 63).tdiv 64 = (r.nodes * 32 + 63) / 64 := Int.tdiv_eq_ediv_of_nonneg (by omega)
    have f5 : w64 ((r.nodes * 32 + 63) / 64) = (r.nodes * 32 + 63) / 64 := by unfold w64; rw [wrap64] <;> omega
    have g1 : w64 (t + (r.blocks + 511) / 512) = t + (r.blocks + 511) / 512 := by unfold w64; rw [wrap64] <;> omega
    have g2 : w64 (t + (r.blocks + 511) / 512 + (r.nodes * 32 + 63) / 64) = t + (r.blocks + 511) / 512 + (r.nodes * 32 + 63) / 64 := by unfold w64; rw [wrap64] <;> omega
    have hd : (geoOf t r).data = t + (r.blocks + 511) / 512 + (r.nodes * 32 + 63) / 64 := by
      simp only [geoOf, e1, e2, e3, e4, f1, f2, f3, f4, f5, g1, g2]
    have he : w64 ((geoOf t r).data + r.blocks) = (geoOf t r).data + r.blocks := by unfold w64; rw [wrap64] <;> omega
    have hb : (geoOf t r).blocks = r.blocks := rfl
    obtain ⟨h2, h3, h4, h5⟩ := ih ((geoOf t r).data + r.blocks) (by omega) (by omega) fun x hx => hs x (by simp [hx])
    simp only [geosFrom, he]
    refine ⟨?_, by simp only [List.length_cons]; omega, by simp [h4], fun i g hg => ?_⟩
    · have hc := @Chain.cons (geoOf t r) (geosFrom ((geoOf t r).data + r.blocks) l).1 (geosFrom ((geoOf t r).data + r.blocks) l).2 h0 (by rw [hd]; show t < _; omega) (by omega) (by omega) h2
      exact hc
    · cases i with
      | zero => simp at hg; subst hg; rfl
      | succ i => simp at hg; simpa using h5 i g hg
end Go.Proofs.YtkjclebafpomhaaDoor
set_option linter.unusedVariables false
set_option linter.unusedSimpArgs false
set_option maxRecDepth 100000
namespace Go.Proofs.YtkjclebafpomhaaDoor
open Go Go.Eng
def inf48_6 : Info := [([4], [], false), ([0], [0], false), ([6], [0, 1], false), ([15, 16], [0], false), ([17], [0], false), ([18], [0], false), ([0], [0, 1, 2, 3, 4, 5], false), ([6], [0, 1, 2, 3, 4, 5, 6], false), ([20, 21], [0, 1, 2, 3, 4, 5], false), ([22], [0, 1, 2, 3, 4, 5], false), ([23], [0, 1, 2, 3, 4, 5], false), ([14, 19, 24], [], false), ([], [0, 1, 2, 3, 4, 5, 6, 7, 8, 9, 10, 11], false), ([7, 25], [], false)]
def inf50_6 : Info := [([3], [], false), ([6], [0], false), ([20, 21], [], false), ([22], [], false), ([23], [], false), ([3], [0, 1, 2, 3, 4], false), ([6], [0, 1, 2, 3, 4, 5], false), ([25, 26], [0, 1, 2, 3, 4], false), ([27], [0, 1, 2, 3, 4], false), ([28], [0, 1, 2, 3, 4], false), ([3], [0, 1, 2, 3, 4, 5, 6, 7, 8, 9], false), ([6], [0, 1, 2, 3, 4, 5, 6, 7, 8, 9, 10], false), ([30, 31], [0, 1, 2, 3, 4, 5, 6, 7, 8, 9], false), ([32], [0, 1, 2, 3, 4, 5, 6, 7, 8, 9], false), ([33], [0, 1, 2, 3, 4, 5, 6, 7, 8, 9], false), ([24, 29, 34], [], false), ([35], [], false)]


/-! ### Sum -/
def sumS (n x : Int) : Int := IntKind.u32.wrap (xorI .u32 n (IntKind.u32.wrap x) * 16777619)
def sumG (n : Int) (g : GeoD) : Int := sumS (sumS (sumS n g.base) g.blocks) g.nodes
def s96 : Specs := spAdd sp0 96 F96
theorem s96_96 : s96 96 = some F96 := id rfl
theorem s96_ok : SpsOK s96 := spAdd_ok sp0_ok sp96
theorem sum_c {H : AHeap} {i ir ig : Nat} {regs : List RegD} {geos : List GeoD} {total : Int} (hC : IsConf H i ir ig regs geos total) :
    ACalls Tryd.prog 4 49 [.pointer (some ⟨i, 0, none⟩)] H fun v H' => v = .int .u32 (geos.foldl sumG 2166136261) ∧ H' = H := by
  refine ACalls.trim1 rfl ?_
  refine walk s96_ok (fn := Tryd.f49) (by kernel_rfl) (c := Tryd.f49.body.get (by kernel_rfl)) (by kernel_rfl) (by simp [Tryd.f49]) ?_
  simp only [Tryd.f49, Option.get]
  obtain ⟨cr, t, m, n, l, cg, ro, par, gs, hrow⟩ := hC.row
  obtain ⟨ro2, par2, gs2, hgeo⟩ := hC.rgeos
  have h96 := F96_ptr (H := H) (i := i) (by rw [hrow]; rfl)
  simp only [go_sem, Nat.reduceLT, Nat.reduceEqDiff, ↓reduceIte, Nat.reduceAdd, Nat.zero_add, Nat.add_zero, Nat.reduceLeDiff, Int.reduceEq, Nat.reduceMul, List.take_zero, List.drop_succ_cons, List.drop_zero, List.nil_append, List.append_nil, List.drop_nil, List.take_succ_cons, List.take_nil, List.cons_append, Int.toNat_natCast, Int.toNat_zero, Int.toNat_one, s96_96, fn_ex, h96]
  refine codeW_loop (fun nn τ X => ∃ k : Nat, nn = geos.length - k ∧ k ≤ geos.length ∧ tget τ 3 = .int .u32 ((geos.take k).foldl sumG 2166136261) ∧ tget τ 9 = .slice (some ⟨ig, 0, none⟩) geos.length cg ∧ tget τ 10 = .int .i64 geos.length ∧ tget τ 11 = .int .i64 (k : Nat) ∧ Keeps [] H X) (n := geos.length) ⟨0, rfl, by omega, ?_, ?_, ?_, ?_, ?_⟩ ?_
  · simp only [go_sem, Nat.reduceLT, Nat.reduceEqDiff, ↓reduceIte, Nat.reduceAdd, Nat.zero_add, Nat.add_zero, Nat.reduceLeDiff, Int.reduceEq, Nat.reduceMul]; rfl
  · simp only [go_sem, Nat.reduceLT, Nat.reduceEqDiff, ↓reduceIte, Nat.reduceAdd, Nat.zero_add, Nat.add_zero, Nat.reduceLeDiff, Int.reduceEq, Nat.reduceMul]
  · simp only [go_sem, Nat.reduceLT, Nat.reduceEqDiff, ↓reduceIte, Nat.reduceAdd, Nat.zero_add, Nat.add_zero, Nat.reduceLeDiff, Int.reduceEq, Nat.reduceMul]
  · simp only [go_sem, Nat.reduceLT, Nat.reduceEqDiff, ↓reduceIte, Nat.reduceAdd, Nat.zero_add, Nat.add_zero, Nat.reduceLeDiff, Int.reduceEq, Nat.reduceMul]; rfl
  · exact Keeps.refl _ _
  rintro nn τ X ⟨k, rfl, hk, t3, t9, t10, t11, hK⟩
  have hg := hK.get hgeo (by simp)
  have hgl := AHeap.get_lt hg
  have hle := hK.le
  by_cases hlt : k < geos.length
  · obtain ⟨g, hgk⟩ : ∃ g, geos[k]? = some g := ⟨_, List.getElem?_eq_getElem hlt⟩
    obtain ⟨e1, e2⟩ := flat_at GeoD.cells_length geos k g hgk
    have hd : (k : Int) < (geos.length : Int) := by omega
    have hz : (0 : Int) ≤ (k : Int) := by omega
    have hw : IntKind.wrap .i64 ((k : Int) + 1) = ((k + 1 : Nat) : Int) := by rw [wrap64] <;> have := hC.few <;> omega
    have hnext : (geos.take (k + 1)).foldl sumG 2166136261 = sumG ((geos.take k).foldl sumG 2166136261) g := by rw [List.take_add_one, hgk]; simp [List.foldl_append]
    simp only [go_sem, Nat.reduceLT, Nat.reduceEqDiff, ↓reduceIte, Nat.reduceAdd, Nat.zero_add, Nat.add_zero, Nat.reduceLeDiff, Int.reduceEq, Nat.reduceMul, List.take_zero, List.drop_succ_cons, List.drop_zero, List.nil_append, List.append_nil, List.drop_nil, List.take_succ_cons, List.take_nil, List.cons_append, Int.toNat_natCast, Int.toNat_zero, Int.toNat_one, t3, t9, t10, t11, hg, hd, hz, e1, e2, GeoD.cells]
    refine codeW_unroll 4 ?_
    simp only [go_sem, Nat.reduceLT, Nat.reduceEqDiff, ↓reduceIte, Nat.reduceAdd, Nat.zero_add, Nat.add_zero, Nat.reduceLeDiff, Int.reduceEq, Nat.reduceMul, List.take_zero, List.drop_succ_cons, List.drop_zero, List.nil_append, List.append_nil, List.drop_nil, List.take_succ_cons, List.take_nil, List.cons_append, Int.toNat_natCast, Int.toNat_zero, Int.toNat_one, Int.reduceLT, Int.reduceLE, Int.cast_ofNat_Int, Int.reduceToNat, Int.reduceAdd, Int.reduceSub, Int.reduceMul, Int.reduceNeg, t3, t9, t10, t11, hg, hd, hz, GeoD.cells, wrap64, hw]
    exact ⟨geos.length - (k + 1), by omega, k + 1, rfl, hlt, by rw [hnext]; rfl, rfl, by simpa using ((hK.new' _).set' (by omega) (by simp)).new' _⟩
  · obtain rfl : k = geos.length := by omega
    have hd : ¬ ((geos.length : Int) < (geos.length : Int)) := by omega
    rw [List.take_length] at t3
    simp only [go_sem, Nat.reduceLT, Nat.reduceEqDiff, ↓reduceIte, Nat.reduceAdd, Nat.zero_add, Nat.add_zero, Nat.reduceLeDiff, Int.reduceEq, Nat.reduceMul, List.take_zero, List.drop_succ_cons, List.drop_zero, List.nil_append, List.append_nil, List.drop_nil, List.take_succ_cons, List.take_nil, List.cons_append, Int.toNat_natCast, Int.toNat_zero, Int.toNat_one, t3, t9, t10, t11, hd, hK]

/-! ### The document's Geos -/
theorem geo_fact {t : Int} {r : RegD} (hs : r.sound = true) (h0 : 0 ≤ t) (h1 : t ≤ 100000) : geoOf t r = ⟨t, 1, (r.nodes * 32 + 63) / 64, t + 1 + (r.nodes * 32 + 63) / 64, r.blocks, r.nodes⟩ ∧
    w64 ((geoOf t r).data + r.blocks) = t + 1 + (r.nodes * 32 + 63) / 64 + r.blocks ∧ (4 ≤ r.blocks ∧ r.blocks ≤ 512) ∧ 4 ≤ r.nodes ∧ r.nodes ≤ 128 := by
  simp only [RegD.sound, Bool.and_eq_true, decide_eq_true_eq] at hs
  obtain ⟨⟨⟨⟨⟨⟨a1, a2⟩, a3, a4⟩, _⟩, _⟩, _⟩, _⟩ := hs
  have e1 : w64 (r.blocks + 512) = r.blocks + 512 := by unfold w64; rw [wrap64] <;> omega
  have e2 : w64 (r.blocks + 512 - 1) = r.blocks + 511 := by unfold w64; rw [wrap64] <;> omega
  have e3 : (r.blocks + 511).tdiv 512 = 1 := by rw [Int.tdiv_eq_ediv_of_nonneg (by omega)]; omega
  have e4 : w64 1 = 1 := by unfold w64; rw [wrap64] <;> omega
  have f1 : w64 (r.nodes * 32) = r.nodes * 32 := by unfold w64; rw [wrap64] <;> omega
  have f2 : w64 (r.nodes * 32 + 64) = r.nodes * 32 + 64 := by unfold w64; rw [wrap64] <;> omega
  have f3 : w64 (r.nodes * 32 + 64 - 1) = r.nodes * 32 + 63 := by unfold w64; rw [wrap64] <;> omega
  have f4 : (r.nodes * 32 + 63).tdiv 64 = (r.nodes * 32 + 63) / 64 := Int.tdiv_eq_ediv_of_nonneg (by omega)
  have f5 : w64 ((r.nodes * 32 + 63) / 64) = (r.nodes * 32 + 63) / 64 := by unfold w64; rw [wrap64] <;> omega
  have g1 : w64 (t + 1) = t + 1 := by unfold w64; rw [wrap64] <;> omega
  have g2 : w64 (t + 1 + (r.nodes * 32 + 63) / 64) = t + 1 + (r.nodes * 32 + 63) / 64 := by unfold w64; rw [wrap64] <;> omega
  have hg : geoOf t r = ⟨t, 1, (r.nodes * 32 + 63) / 64, t + 1 + (r.nodes * 32 + 63) / 64, r.blocks, r.nodes⟩ := by simp only [geoOf, e1, e2, e3, e4, f1, f2, f3, f4, f5, g1, g2]
  refine ⟨hg, ?_, ⟨a1, a2⟩, a3, a4⟩
  rw [hg]
  show w64 (t + 1 + (r.nodes * 32 + 63) / 64 + r.blocks) = _
  unfold w64
  rw [wrap64] <;> omega
set_option maxHeartbeats 1000000 in
theorem refgeos_c {H : AHeap} {ia ca : Nat} {row : List Value} {ro : Bool} {par : List Nat} {gs : Nat} {regs : List RegD} (hrow : H.get ia = some (.cells row ro par gs)) (hel : Elems RegD.cells 9 row regs) (hs : ∀ r ∈ regs, r.sound = true) (h64 : regs.length ≤ 64) :
    ACalls Tryd.prog 4 48 [.slice (some ⟨ia, 0, none⟩) regs.length ca] H fun v H' => Keeps [] H H' ∧ ∃ sg, v = .tuple #[sg, .int .i64 (geosFrom 32 regs).2] ∧ RowL H' H.next 0 sg regs.length 6 ((geosFrom 32 regs).1.flatMap GeoD.cells) := by
  refine walk sp0_ok (fn := Tryd.f48) (by kernel_rfl) (c := Tryd.f48.body.get (by kernel_rfl)) (by kernel_rfl) (by simp [Tryd.f48]) ?_
  simp only [Tryd.f48, Option.get]
  simp only [go_sem, Nat.reduceLT, Nat.reduceEqDiff, ↓reduceIte, Nat.reduceAdd, Nat.zero_add, Nat.add_zero, Nat.reduceLeDiff, Int.reduceEq, Nat.reduceMul, List.take_zero, List.drop_succ_cons, List.drop_zero, List.nil_append, List.append_nil, List.drop_nil, List.take_succ_cons, List.take_nil, List.cons_append, Int.toNat_natCast, Int.toNat_zero, Int.toNat_one]
  have hil := AHeap.get_lt hrow
  refine codeW_loop (fun nn τ X => ∃ k : Nat, nn = regs.length - k ∧ k ≤ regs.length ∧ tget τ 0 = .slice (some ⟨ia, 0, none⟩) regs.length ca ∧ tget τ 4 = .int .i64 (geosFrom 32 (regs.take k)).2 ∧ tget τ 6 = .int .i64 (k : Nat) ∧ Keeps [] H X ∧ RowL X H.next 0 (tget τ 5) k 6 ((geosFrom 32 (regs.take k)).1.flatMap GeoD.cells)) (n := regs.length) ⟨0, rfl, by omega, ?_, ?_, ?_, ?_, ?_⟩ ?_
  · simp only [go_sem, Nat.reduceLT, Nat.reduceEqDiff, ↓reduceIte, Nat.reduceAdd, Nat.zero_add, Nat.add_zero, Nat.reduceLeDiff, Int.reduceEq, Nat.reduceMul]
  · simp only [go_sem, Nat.reduceLT, Nat.reduceEqDiff, ↓reduceIte, Nat.reduceAdd, Nat.zero_add, Nat.add_zero, Nat.reduceLeDiff, Int.reduceEq, Nat.reduceMul]; rfl
  · simp only [go_sem, Nat.reduceLT, Nat.reduceEqDiff, ↓reduceIte, Nat.reduceAdd, Nat.zero_add, Nat.add_zero, Nat.reduceLeDiff, Int.reduceEq, Nat.reduceMul]; rfl
  · exact Keeps.refl _ _
  · simp only [go_sem, Nat.reduceLT, Nat.reduceEqDiff, ↓reduceIte, Nat.reduceAdd, Nat.zero_add, Nat.add_zero, Nat.reduceLeDiff, Int.reduceEq, Nat.reduceMul]; exact .inl ⟨rfl, rfl, rfl⟩
  rintro nn τ X ⟨k, rfl, hk, t0, t4, t6, hK, hr⟩
  have hle := hK.le
  have xia := hK.get hrow (by simp)
  have xil := AHeap.get_lt xia
  obtain ⟨s, t5⟩ : ∃ s, tget τ 5 = s := ⟨_, rfl⟩
  rw [t5] at hr
  by_cases hlt : k < regs.length
  · obtain ⟨r, hrk⟩ : ∃ r, regs[k]? = some r := ⟨_, List.getElem?_eq_getElem hlt⟩
    have hd : (k : Int) < (regs.length : Int) := by omega
    have hz : (0 : Int) ≤ (k : Int) := by omega
    have hw : IntKind.wrap .i64 ((k : Int) + 1) = ((k + 1 : Nat) : Int) := by rw [wrap64] <;> omega
    obtain ⟨_, hb1, _, _⟩ := geos_chain (regs.take k) 32 (by omega) (by simp; omega) (fun x hx => hs x (List.mem_of_mem_take hx))
    have hb0 : 32 ≤ (geosFrom 32 (regs.take k)).2 := (geos_chain (regs.take k) 32 (by omega) (by simp; omega) (fun x hx => hs x (List.mem_of_mem_take hx))).1.le.1
    have hlk : (regs.take k).length = k := by simp; omega
    rw [hlk] at hb1
    have hgl := (geos_chain (regs.take k) 32 (by omega) (by simp; omega) (fun x hx => hs x (List.mem_of_mem_take hx))).2.2.1
    rw [hlk] at hgl
    obtain ⟨f1, f2, ⟨q1, q2⟩, q3, q4⟩ := geo_fact (t := (geosFrom 32 (regs.take k)).2) (hs r (List.mem_of_getElem? hrk)) (by omega) (by omega)
    have hnext : geosFrom 32 (regs.take (k + 1)) = ((geosFrom 32 (regs.take k)).1 ++ [geoOf (geosFrom 32 (regs.take k)).2 r], w64 ((geoOf (geosFrom 32 (regs.take k)).2 r).data + r.blocks)) := by rw [List.take_add_one, hrk]; exact geosFrom_snoc _ _ _
    generalize (geosFrom 32 (regs.take k)).2 = t at *
    generalize (geosFrom 32 (regs.take k)).1 = geos at *
    have b3 : row[k * 9 + 3]? = some (.int .i64 r.blocks) := hel.cell k 3 r hrk (by omega)
    have b4 : row[k * 9 + 4]? = some (.int .i64 r.nodes) := hel.cell k 4 r hrk (by omega)
    simp only [go_sem, Nat.reduceLT, Nat.reduceEqDiff, ↓reduceIte, Nat.reduceAdd, Nat.zero_add, Nat.add_zero, Nat.reduceLeDiff, Int.reduceEq, Nat.reduceMul, List.take_zero, List.drop_succ_cons, List.drop_zero, List.nil_append, List.append_nil, List.drop_nil, List.take_succ_cons, List.take_nil, List.cons_append, Int.toNat_natCast, Int.toNat_zero, Int.toNat_one, t0, t4, t5, t6, xia, hd, hz]
    refine codeW_any (cxS_ok sp0_ok) inf48_6 (by kernel_rfl) fun _ => ?_
    have iA : ∀ k, ia < X.next + k := fun k => by omega
    have iB : ∀ k, ia ≠ X.next + k := fun k => by omega
    have iC : ia ≠ X.next := by omega
    simp only [inf48_6, go_sem, Nat.reduceLT, Nat.reduceEqDiff, ↓reduceIte, Nat.reduceAdd, Nat.zero_add, Nat.add_zero, Nat.reduceLeDiff, Int.reduceEq, Nat.reduceMul, List.take_zero, List.drop_succ_cons, List.drop_zero, List.nil_append, List.append_nil, List.drop_nil, List.take_succ_cons, List.take_nil, List.cons_append, Int.toNat_natCast, Int.toNat_zero, Int.toNat_one, t0, t4, t5, t6, xia, hd, hz, b3, b4, xil, iA, iB, iC]
    refine codeW_unroll 2 ?_
    have p1 : (0 : Int) < r.blocks := by omega
    have p2 : ¬ (512 < r.blocks) := by omega
    simp only [go_sem, Nat.reduceLT, Nat.reduceEqDiff, ↓reduceIte, Nat.reduceAdd, Nat.zero_add, Nat.add_zero, Nat.reduceLeDiff, Int.reduceEq, Nat.reduceMul, List.take_zero, List.drop_succ_cons, List.drop_zero, List.nil_append, List.append_nil, List.drop_nil, List.take_succ_cons, List.take_nil, List.cons_append, Int.toNat_natCast, Int.toNat_zero, Int.toNat_one, Int.reduceLT, Int.reduceLE, Int.cast_ofNat_Int, Int.reduceToNat, Int.reduceAdd, Int.reduceSub, Int.reduceMul, Int.reduceNeg, wrap64, p1, p2]
    generalize hT : (r.nodes * 32 + 63) / 64 = T at *
    refine codeW_loop (fun nn τ Y => ∃ j : Nat, nn = T.toNat - j ∧ (j : Int) ≤ T ∧ tget τ 0 = .slice (some ⟨ia, 0, none⟩) regs.length ca ∧ tget τ 4 = .int .i64 t ∧ tget τ 5 = s ∧ tget τ 6 = .int .i64 (k : Nat) ∧ tget τ 7 = .pointer (some ⟨X.next, 0, none⟩) ∧ Keeps [] X Y ∧
      Y.get X.next = some (.cells [.int .i64 t, .int .i64 1, .int .i64 (j : Nat), .int .i64 0, .int .i64 r.blocks, .int .i64 r.nodes] false [] 0)) (n := T.toNat) ⟨0, rfl, by omega, ?_, ?_, ?_, ?_, ?_, ?_, ?_⟩ ?_
    · simp only [go_sem, Nat.reduceLT, Nat.reduceEqDiff, ↓reduceIte, Nat.reduceAdd, Nat.zero_add, Nat.add_zero, Nat.reduceLeDiff, Int.reduceEq, Nat.reduceMul, t0]
    · simp only [go_sem, Nat.reduceLT, Nat.reduceEqDiff, ↓reduceIte, Nat.reduceAdd, Nat.zero_add, Nat.add_zero, Nat.reduceLeDiff, Int.reduceEq, Nat.reduceMul, t4]
    · simp only [go_sem, Nat.reduceLT, Nat.reduceEqDiff, ↓reduceIte, Nat.reduceAdd, Nat.zero_add, Nat.add_zero, Nat.reduceLeDiff, Int.reduceEq, Nat.reduceMul, t5]
    · simp only [go_sem, Nat.reduceLT, Nat.reduceEqDiff, ↓reduceIte, Nat.reduceAdd, Nat.zero_add, Nat.add_zero, Nat.reduceLeDiff, Int.reduceEq, Nat.reduceMul, t6]
    · simp only [go_sem, Nat.reduceLT, Nat.reduceEqDiff, ↓reduceIte, Nat.reduceAdd, Nat.zero_add, Nat.add_zero, Nat.reduceLeDiff, Int.reduceEq, Nat.reduceMul]
    · exact ((((Keeps.refl [] X).new' _).set' (by omega) (by simp)).set' (by omega) (by simp))
    · simp only [go_sem, Nat.reduceLT, Nat.reduceEqDiff, ↓reduceIte, Nat.reduceAdd, Nat.zero_add, Nat.add_zero, Nat.reduceLeDiff, Int.reduceEq, Nat.reduceMul]; rfl
    rintro nn τ Y ⟨j, rfl, hj, t0, t4, t5, t6, t7, hXY, yr⟩
    have yl := AHeap.get_lt yr
    have hnw : IntKind.wrap .i64 (r.nodes * 32) = r.nodes * 32 := by rw [wrap64] <;> omega
    have hjw : IntKind.wrap .i64 ((j : Int) * 64) = (j : Int) * 64 := by rw [wrap64] <;> omega
    by_cases hjt : (j : Int) < T
    · have p3 : (j : Int) * 64 < r.nodes * 32 := by omega
      have hj1 : IntKind.wrap .i64 ((j : Int) + 1) = ((j + 1 : Nat) : Int) := by rw [wrap64] <;> omega
      simp only [go_sem, Nat.reduceLT, Nat.reduceEqDiff, ↓reduceIte, Nat.reduceAdd, Nat.zero_add, Nat.add_zero, Nat.reduceLeDiff, Int.reduceEq, Nat.reduceMul, List.take_zero, List.drop_succ_cons, List.drop_zero, List.nil_append, List.append_nil, List.drop_nil, List.take_succ_cons, List.take_nil, List.cons_append, Int.toNat_natCast, Int.toNat_zero, Int.toNat_one, t0, t4, t5, t6, t7, yr, yl, hnw, hjw, p3, hj1]
      exact ⟨T.toNat - (j + 1), by omega, j + 1, rfl, by omega, hXY.set' (Nat.le_refl _) yl, rfl⟩
    · have hjT : (j : Int) = T := by omega
      have p3 : ¬ ((j : Int) * 64 < r.nodes * 32) := by omega
      have w1 : IntKind.wrap .i64 (t + 1) = t + 1 := by rw [wrap64] <;> omega
      have w2 : IntKind.wrap .i64 (t + 1 + T) = t + 1 + T := by rw [wrap64] <;> omega
      have w3 : IntKind.wrap .i64 (t + 1 + T + r.blocks) = t + 1 + T + r.blocks := by rw [wrap64] <;> omega
      have hlen : k * 6 = (geos.flatMap GeoD.cells).length := by rw [flat_len GeoD.cells_length, hgl]
      rw [hjT] at yr p3 hjw
      obtain ⟨s', U, u1, u2, u3, u4⟩ := app_row (by_ := 48) (vs := [.int .i64 t, .int .i64 1, .int .i64 T, .int .i64 (t + 1 + T), .int .i64 r.blocks, .int .i64 r.nodes]) (H := (Y.set X.next (.cells [.int .i64 t, .int .i64 1, .int .i64 T, .int .i64 (t + 1 + T), .int .i64 r.blocks, .int .i64 r.nodes] false [] 0)).new (.cells [.int .i64 t, .int .i64 1, .int .i64 T, .int .i64 (t + 1 + T), .int .i64 r.blocks, .int .i64 r.nodes] false [] 6))
        (hr.keeps ((hXY.set' (Nat.le_refl _) yl).new' _)) hlen rfl (by omega) (by unfold grow; omega) (by simp) (by have := hXY.le; simp; omega)
      simp only [go_sem, Nat.reduceLT, Nat.reduceEqDiff, ↓reduceIte, Nat.reduceAdd, Nat.zero_add, Nat.add_zero, Nat.reduceLeDiff, Int.reduceEq, Nat.reduceMul, List.take_zero, List.drop_succ_cons, List.drop_zero, List.nil_append, List.append_nil, List.drop_nil, List.take_succ_cons, List.take_nil, List.cons_append, Int.toNat_natCast, Int.toNat_zero, Int.toNat_one, t0, t4, t5, t6, t7, yr, yl, hnw, hjw, p3, w1, w2, w3, u1, hw]
      have hyl := hXY.le
      simp only [AHeap.next_new, AHeap.next_set] at u3
      refine ⟨regs.length - (k + 1), by omega, k + 1, rfl, hlt, by rw [hnext, f2], rfl, ⟨by omega, fun i hi _ => ?_⟩, ?_⟩
      · rw [u4 i (by simp; omega) (.inl hi), get_new_old _ (by simp; omega), get_set_ne _ (by omega) yl, hXY.old i (by omega) (by simp), hK.old i hi (by simp)]
      · rw [hnext, List.flatMap_append, List.flatMap_cons, List.flatMap_nil, List.append_nil, f1]
        exact u2
  · obtain rfl : k = regs.length := by omega
    have hd : ¬ ((regs.length : Int) < (regs.length : Int)) := by omega
    rw [List.take_length] at t4 hr
    simp only [go_sem, Nat.reduceLT, Nat.reduceEqDiff, ↓reduceIte, Nat.reduceAdd, Nat.zero_add, Nat.add_zero, Nat.reduceLeDiff, Int.reduceEq, Nat.reduceMul, List.take_zero, List.drop_succ_cons, List.drop_zero, List.nil_append, List.append_nil, List.drop_nil, List.take_succ_cons, List.take_nil, List.cons_append, Int.toNat_natCast, Int.toNat_zero, Int.toNat_one, t0, t4, t5, t6, hd, hK]
    exact ⟨s, rfl, hr⟩

/-! ### The document's Sum -/
theorem geos_range : ∀ (regs : List RegD) (t : Int), 0 ≤ t → t + 600 * regs.length ≤ 100000 → (∀ r ∈ regs, r.sound = true) → ∀ g ∈ (geosFrom t regs).1, (0 ≤ g.base ∧ g.base ≤ 100000) ∧ (0 ≤ g.blocks ∧ g.blocks ≤ 512) ∧ 0 ≤ g.nodes ∧ g.nodes ≤ 128 := by
  intro regs
  induction regs with
  | nil => intro t _ _ _ g hg; cases hg
  | cons r l ih =>
    intro t h0 h1 hs g hg
    simp only [List.length_cons] at h1
    obtain ⟨f1, f2, q⟩ := geo_fact (t := t) (hs r (by simp)) h0 (by omega)
    simp only [geosFrom, f2] at hg
    rcases List.mem_cons.1 hg with rfl | hg
    · rw [f1]; exact ⟨⟨h0, by show t ≤ _; omega⟩, ⟨by show 0 ≤ r.blocks; omega, by show r.blocks ≤ _; omega⟩, by show 0 ≤ r.nodes; omega, by show r.nodes ≤ _; omega⟩
    · exact ih _ (by omega) (by omega) (fun x hx => hs x (by simp [hx])) g hg
theorem xor32 {a b : Nat} (ha : a < 4294967296) (hb : b < 4294967296) : xorI .u32 a b = ((a ^^^ b : Nat) : Int) := by
  have h : a ^^^ b < 2 ^ 32 := Nat.xor_lt_two_pow ha hb
  unfold xorI
  show IntKind.u32.wrap ((BitVec.ofInt 32 (a : Int) ^^^ BitVec.ofInt 32 (b : Int)).toNat) = _
  rw [BitVec.ofInt_natCast, BitVec.ofInt_natCast, BitVec.toNat_xor, BitVec.toNat_ofNat, BitVec.toNat_ofNat, Nat.mod_eq_of_lt ha, Nat.mod_eq_of_lt hb, wu32]
  omega
theorem xor64 {a b : Nat} (ha : a < 4294967296) (hb : b < 4294967296) : xorI .u64 a b = ((a ^^^ b : Nat) : Int) := by
  have h : a ^^^ b < 2 ^ 32 := Nat.xor_lt_two_pow ha hb
  unfold xorI
  show IntKind.u64.wrap ((BitVec.ofInt 64 (a : Int) ^^^ BitVec.ofInt 64 (b : Int)).toNat) = _
  rw [BitVec.ofInt_natCast, BitVec.ofInt_natCast, BitVec.toNat_xor, BitVec.toNat_ofNat, BitVec.toNat_ofNat, Nat.mod_eq_of_lt (show a < 2 ^ 64 by omega), Nat.mod_eq_of_lt (show b < 2 ^ 64 by omega), wu64]
  omega
def refS (n x : Int) : Int := (IntKind.u64.wrap (xorI .u64 n (IntKind.u64.wrap x) * 16777619)).tmod 4294967296
theorem refS_eq {n x : Int} (hn : 0 ≤ n ∧ n < 4294967296) (hx : 0 ≤ x ∧ x < 4294967296) : refS n x = sumS n x ∧ 0 ≤ sumS n x ∧ sumS n x < 4294967296 := by
  obtain ⟨a, rfl⟩ : ∃ a : Nat, n = a := ⟨n.toNat, by omega⟩
  obtain ⟨b, rfl⟩ : ∃ b : Nat, x = b := ⟨x.toNat, by omega⟩
  have h : a ^^^ b < 2 ^ 32 := Nat.xor_lt_two_pow (show a < 2 ^ 32 by omega) (show b < 2 ^ 32 by omega)
  unfold refS sumS
  have e1 : IntKind.u32.wrap (b : Int) = b := by rw [wu32]; omega
  have e2 : IntKind.u64.wrap (b : Int) = b := by rw [wu64]; omega
  rw [e1, e2, xor32 (by omega) (by omega), xor64 (by omega) (by omega)]
  generalize a ^^^ b = c at *
  have e3 : IntKind.u64.wrap ((c : Int) * 16777619) = (c : Int) * 16777619 := by rw [wu64]; omega
  rw [e3, wu32, Int.tmod_eq_emod_of_nonneg (by omega)]
  omega
theorem sumG_range {n : Int} {g : GeoD} (hn : 0 ≤ n ∧ n < 4294967296) (hg : (0 ≤ g.base ∧ g.base ≤ 100000) ∧ (0 ≤ g.blocks ∧ g.blocks ≤ 512) ∧ 0 ≤ g.nodes ∧ g.nodes ≤ 128) : refS (refS (refS n g.base) g.blocks) g.nodes = sumG n g ∧ 0 ≤ sumG n g ∧ sumG n g < 4294967296 := by
  obtain ⟨h1, h2, h3⟩ := refS_eq hn (x := g.base) (by omega)
  obtain ⟨h4, h5, h6⟩ := refS_eq ⟨h2, h3⟩ (x := g.blocks) (by omega)
  obtain ⟨h7, h8, h9⟩ := refS_eq ⟨h5, h6⟩ (x := g.nodes) (by omega)
  rw [h1, h4, h7]
  exact ⟨rfl, h8, h9⟩
theorem s0_48 : sp0 48 = none := id rfl
set_option maxHeartbeats 1000000 in
theorem refsum_c {H : AHeap} {ia ca : Nat} {row : List Value} {ro : Bool} {par : List Nat} {gs : Nat} {regs : List RegD} (hrow : H.get ia = some (.cells row ro par gs)) (hel : Elems RegD.cells 9 row regs) (hs : ∀ r ∈ regs, r.sound = true) (h64 : regs.length ≤ 64) (h0 : regs.length ≠ 0) :
    ACalls Tryd.prog 4 50 [.slice (some ⟨ia, 0, none⟩) regs.length ca] H fun v H' => v = .int .u32 ((geosFrom 32 regs).1.foldl sumG 2166136261) ∧ H' = H := by
  refine ACalls.trim1 rfl ?_
  refine walk sp0_ok (fn := Tryd.f50) (by kernel_rfl) (c := Tryd.f50.body.get (by kernel_rfl)) (by kernel_rfl) (by simp [Tryd.f50]) ?_
  simp only [Tryd.f50, Option.get]
  simp only [go_sem, Nat.reduceLT, Nat.reduceEqDiff, ↓reduceIte, Nat.reduceAdd, Nat.zero_add, Nat.add_zero, Nat.reduceLeDiff, Int.reduceEq, Nat.reduceMul, List.take_zero, List.drop_succ_cons, List.drop_zero, List.nil_append, List.append_nil, List.drop_nil, List.take_succ_cons, List.take_nil, List.cons_append, Int.toNat_natCast, Int.toNat_zero, Int.toNat_one, s0_48]
  refine callsx_of (cxS_ok sp0_ok) (fn := Tryd.f48) (by kernel_rfl) (by kernel_rfl) (refgeos_c hrow hel hs h64) ?_
  rintro v U ⟨hK, sg, rfl, hr⟩
  obtain ⟨_, _, hgl, _⟩ := geos_chain regs 32 (by omega) (by omega) hs
  have hrg := geos_range regs 32 (by omega) (by omega) hs
  generalize (geosFrom 32 regs).1 = geos at *
  rcases hr with ⟨h, _⟩ | ⟨b, par, _, rfl, hb, _, _, _⟩
  · exact absurd h h0
  rw [← hgl] at h0 h64 ⊢
  clear hrow hel hs hgl
  simp only [go_sem, Nat.reduceLT, Nat.reduceEqDiff, ↓reduceIte, Nat.reduceAdd, Nat.zero_add, Nat.add_zero, Nat.reduceLeDiff, Int.reduceEq, Nat.reduceMul, List.take_zero, List.drop_succ_cons, List.drop_zero, List.nil_append, List.append_nil, List.drop_nil, List.take_succ_cons, List.take_nil, List.cons_append, Int.toNat_natCast, Int.toNat_zero, Int.toNat_one]
  refine codeW_loop (fun nn τ X => ∃ k : Nat, nn = geos.length - k ∧ k ≤ geos.length ∧ tget τ 3 = .slice (some ⟨b, 0, none⟩) geos.length (grow + geos.length) ∧ tget τ 5 = .int .u64 ((geos.take k).foldl sumG 2166136261) ∧ tget τ 6 = .int .i64 (k : Nat) ∧ (0 ≤ (geos.take k).foldl sumG 2166136261 ∧ (geos.take k).foldl sumG 2166136261 < 4294967296) ∧ Keeps [] U X) (n := geos.length) ⟨0, rfl, by omega, ?_, ?_, ?_, ?_, ?_⟩ ?_
  · simp only [go_sem, Nat.reduceLT, Nat.reduceEqDiff, ↓reduceIte, Nat.reduceAdd, Nat.zero_add, Nat.add_zero, Nat.reduceLeDiff, Int.reduceEq, Nat.reduceMul]
  · simp only [go_sem, Nat.reduceLT, Nat.reduceEqDiff, ↓reduceIte, Nat.reduceAdd, Nat.zero_add, Nat.add_zero, Nat.reduceLeDiff, Int.reduceEq, Nat.reduceMul]; rfl
  · simp only [go_sem, Nat.reduceLT, Nat.reduceEqDiff, ↓reduceIte, Nat.reduceAdd, Nat.zero_add, Nat.add_zero, Nat.reduceLeDiff, Int.reduceEq, Nat.reduceMul]; rfl
  · simp
  · exact Keeps.refl _ _
  rintro nn τ X ⟨k, rfl, hk, t3, t5, t6, hn, hX⟩
  have xb := hX.get hb (by simp)
  have xl := AHeap.get_lt xb
  have hle := hX.le
  have hle2 := hK.le
  by_cases hlt : k < geos.length
  · obtain ⟨g, hgk⟩ : ∃ g, geos[k]? = some g := ⟨_, List.getElem?_eq_getElem hlt⟩
    have hel : Elems GeoD.cells 6 (geos.flatMap GeoD.cells) geos := fun k g h => flat_at GeoD.cells_length geos k g h
    have b0 : (geos.flatMap GeoD.cells)[k * 6]? = some (.int .i64 g.base) := hel.cell k 0 g hgk (by omega)
    have b4 : (geos.flatMap GeoD.cells)[k * 6 + 4]? = some (.int .i64 g.blocks) := hel.cell k 4 g hgk (by omega)
    have b5 : (geos.flatMap GeoD.cells)[k * 6 + 5]? = some (.int .i64 g.nodes) := hel.cell k 5 g hgk (by omega)
    have hd : (k : Int) < (geos.length : Int) := by omega
    have hz : (0 : Int) ≤ (k : Int) := by omega
    have hw : IntKind.wrap .i64 ((k : Int) + 1) = ((k + 1 : Nat) : Int) := by rw [wrap64] <;> omega
    have hnext : (geos.take (k + 1)).foldl sumG 2166136261 = sumG ((geos.take k).foldl sumG 2166136261) g := by rw [List.take_add_one, hgk]; simp [List.foldl_append]
    obtain ⟨z1, z2, z3⟩ := sumG_range hn (hrg g (List.mem_of_getElem? hgk))
    simp only [go_sem, Nat.reduceLT, Nat.reduceEqDiff, ↓reduceIte, Nat.reduceAdd, Nat.zero_add, Nat.add_zero, Nat.reduceLeDiff, Int.reduceEq, Nat.reduceMul, List.take_zero, List.drop_succ_cons, List.drop_zero, List.nil_append, List.append_nil, List.drop_nil, List.take_succ_cons, List.take_nil, List.cons_append, Int.toNat_natCast, Int.toNat_zero, Int.toNat_one, t3, t5, t6, xb, hd, hz]
    refine codeW_any (cxS_ok sp0_ok) inf50_6 (by kernel_rfl) fun _ => ?_
    simp only [inf50_6, go_sem, Nat.reduceLT, Nat.reduceEqDiff, ↓reduceIte, Nat.reduceAdd, Nat.zero_add, Nat.add_zero, Nat.reduceLeDiff, Int.reduceEq, Nat.reduceMul, List.take_zero, List.drop_succ_cons, List.drop_zero, List.nil_append, List.append_nil, List.drop_nil, List.take_succ_cons, List.take_nil, List.cons_append, Int.toNat_natCast, Int.toNat_zero, Int.toNat_one, t3, t5, t6, xb, xl, hd, hz, b0, b4, b5]
    refine codeW_unroll 4 ?_
    have nz : ¬ ((4294967296 : Int) = 0) := by omega
    simp only [go_sem, Nat.reduceLT, Nat.reduceEqDiff, ↓reduceIte, Nat.reduceAdd, Nat.zero_add, Nat.add_zero, Nat.reduceLeDiff, Int.reduceEq, Nat.reduceMul, List.take_zero, List.drop_succ_cons, List.drop_zero, List.nil_append, List.append_nil, List.drop_nil, List.take_succ_cons, List.take_nil, List.cons_append, Int.toNat_natCast, Int.toNat_zero, Int.toNat_one, Int.reduceLT, Int.reduceLE, Int.cast_ofNat_Int, Int.reduceToNat, Int.reduceAdd, Int.reduceSub, Int.reduceMul, Int.reduceNeg, t3, t5, t6, xb, xl, hd, hz, wrap64, nz, hw]
    refine ⟨geos.length - (k + 1), by omega, k + 1, rfl, hlt, ?_, rfl, ?_, hX.new' _⟩
    · rw [hnext, ← z1]; rfl
    · rw [hnext]; exact ⟨z2, z3⟩
  · obtain rfl : k = geos.length := by omega
    have hd : ¬ ((geos.length : Int) < (geos.length : Int)) := by omega
    rw [List.take_length] at t5 hn
    have hw : IntKind.wrap .u32 (geos.foldl sumG 2166136261) = geos.foldl sumG 2166136261 := by rw [wu32]; omega
    simp only [go_sem, Nat.reduceLT, Nat.reduceEqDiff, ↓reduceIte, Nat.reduceAdd, Nat.zero_add, Nat.add_zero, Nat.reduceLeDiff, Int.reduceEq, Nat.reduceMul, List.take_zero, List.drop_succ_cons, List.drop_zero, List.nil_append, List.append_nil, List.drop_nil, List.take_succ_cons, List.take_nil, List.cons_append, Int.toNat_natCast, Int.toNat_zero, Int.toNat_one, t3, t5, t6, hd, hw]
    exact hK.trans hX
end Go.Proofs.YtkjclebafpomhaaDoor
set_option linter.unusedVariables false
set_option linter.unusedSimpArgs false
set_option maxRecDepth 100000
namespace Go.Proofs.YtkjclebafpomhaaDoor
open Go Go.Eng

theorem hasB_bit (x k : Nat) (hx : x ≤ 65535) (hk : k < 16) : hasB x k = x.testBit k := by
  unfold hasB
  rw [wrap64 (by omega) (by omega), decide_eq_true (show (0 : Int) ≤ k by omega), decide_eq_true (show (k : Int) < 16 by omega), Nat.testBit_eq_decide_div_mod_eq]
  simp only [Bool.true_and, Int.toNat_natCast]
  have e : ((x : Int) / 2 ^ k) % 2 = ((x / 2 ^ k % 2 : Nat) : Int) := by
    rw [Int.natCast_emod, Int.natCast_ediv, Int.natCast_pow]; rfl
  rw [decide_eq_decide, e]
  omega
theorem andNot_bits (m n : Nat) (hm : m ≤ 65535) (hn : n ≤ 65535) : andNotI .u16 m n = 0 ↔ ∀ k, k < 16 → (m.testBit k && !n.testBit k) = false := by
  unfold andNotI
  show IntKind.u16.wrap ((BitVec.ofInt 16 (m : Int) &&& ~~~ BitVec.ofInt 16 (n : Int)).toNat) = 0 ↔ _
  rw [BitVec.ofInt_natCast, BitVec.ofInt_natCast, w16]
  have hlt := (BitVec.ofNat 16 m &&& ~~~ BitVec.ofNat 16 n).isLt
  have e : (((BitVec.ofNat 16 m &&& ~~~ BitVec.ofNat 16 n).toNat : Int) % 65536 = 0) ↔ (BitVec.ofNat 16 m &&& ~~~ BitVec.ofNat 16 n) = 0#16 := by
    constructor
    · intro h
      apply BitVec.eq_of_toNat_eq
      show _ = 0
      omega
    · intro h
      rw [h]; rfl
  rw [e]
  have hb : ∀ k, k < 16 → (BitVec.ofNat 16 m &&& ~~~ BitVec.ofNat 16 n).getLsbD k = (m.testBit k && !n.testBit k) := by
    intro k hk
    rw [BitVec.getLsbD_and, BitVec.getLsbD_not, BitVec.getLsbD_ofNat, BitVec.getLsbD_ofNat]
    simp [hk]
  constructor
  · intro h k hk
    rw [← hb k hk, h]; simp
  · intro h
    apply BitVec.eq_of_getLsbD_eq
    intro k hk
    rw [hb k hk, h k hk]; simp
theorem refLeq_eq {a b c d : Int} (hb : 0 ≤ b ∧ b ≤ 65535) (hd : 0 ≤ d ∧ d ≤ 65535) : refLeq a b c d = leqB a b c d := by
  obtain ⟨m, rfl⟩ : ∃ m : Nat, b = m := ⟨b.toNat, by omega⟩
  obtain ⟨n, rfl⟩ : ∃ n : Nat, d = n := ⟨d.toNat, by omega⟩
  unfold refLeq leqB
  congr 1
  rw [Bool.eq_iff_iff, List.all_eq_true, decide_eq_true_eq, andNot_bits m n (by omega) (by omega)]
  constructor
  · intro h k hk
    have := h k (List.mem_range.2 hk)
    rw [hasB_bit m k (by omega) hk, hasB_bit n k (by omega) hk] at this
    cases h1 : m.testBit k <;> cases h2 : n.testBit k <;> simp_all
  · intro h k hk
    have hk' := List.mem_range.1 hk
    have := h k hk'
    rw [hasB_bit m k (by omega) hk', hasB_bit n k (by omega) hk']
    cases h1 : m.testBit k <;> cases h2 : n.testBit k <;> simp_all
theorem F47_eq {a b c d : Int} (H : AHeap) (hb : 0 ≤ b ∧ b ≤ 65535) (hd : 0 ≤ d ∧ d ≤ 65535) : F47 [.agg ⟨[.int .u8 a, .int .u16 b]⟩, .agg ⟨[.int .u8 c, .int .u16 d]⟩] H = some (.bool (leqB a b c d), H) := by
  unfold F47; simp only [hb, hd, and_self, if_true, refLeq_eq hb hd]

theorem aBin_eq {t : TypeId} {ox oy : Operand} {x y : Value} {c : Bool} (H : AHeap) (op : BinOp) (hx : flat 2 x = true) (hy : flat 2 y = true) (h0 : prun Tryd.prog (eqGuard op t ox oy x y) = some ()) (h : prun Tryd.prog (binOp op t x y) = some (.bool c)) : aBinF Tryd.prog tb op t ox oy x y H = some (.bool c) := by
  have e : prun Tryd.prog (do eqGuard op t ox oy x y; binOp op t x y) = some (.bool c) := by
    rw [prun_bind, h0]; exact h
  unfold aBinF aBin
  rw [if_pos (by rw [hx, hy]; rfl), e]
  rfl
theorem eql36 (ox oy : Operand) (H : AHeap) (a b c d : Int) : aBinF Tryd.prog tb .eql 36 ox oy (.agg #[.int .u8 a, .int .u16 b]) (.agg #[.int .u8 c, .int .u16 d]) H = some (.bool ((a == c) && (b == d))) := by
  refine aBin_eq H .eql rfl rfl ?_ ?_
  · have : (Tryd.prog).eqGuardType (Tryd.prog).depth 36 = false := by kernel_rfl
    unfold eqGuard
    simp [this]
  · have h2 : binOp .eql 36 (.agg #[.int .u8 a, .int .u16 b]) (.agg #[.int .u8 c, .int .u16 d]) = (do pure (.bool (← Op.equal 36 (.agg #[.int .u8 a, .int .u16 b]) (.agg #[.int .u8 c, .int .u16 d])))) := rfl
    rw [h2]
    simp only [prun_bind, eq36, Option.bind_some, prun_pure]

/-! ### A label's errors -/
theorem addErr_word {n : Int} {d : List RegD} {r : RegD} (h : nameB r.name = false) : addErr n d r = 30 := by unfold addErr; rw [if_pos h]
def badR (n : Int) (r : RegD) : Prop := 15 < r.lev ∨ r.blocks < 4 ∨ 512 < r.blocks ∨ r.nodes < 4 ∨ 128 < r.nodes ∨ ¬ r.nodes.tmod 2 = 0 ∨ r.frames < 1 ∨ 256 < r.frames ∨ r.procs < 1 ∨ 16 < r.procs ∨ r.opens < 1 ∨ 32 < r.opens ∨ r.clear < 0 ∨ n ≤ r.clear
theorem sound_iff (r : RegD) : r.sound = true ↔ (4 ≤ r.blocks ∧ r.blocks ≤ 512) ∧ (4 ≤ r.nodes ∧ r.nodes ≤ 128) ∧ r.nodes.tmod 2 = 0 ∧ (1 ≤ r.frames ∧ r.frames ≤ 256) ∧ (1 ≤ r.procs ∧ r.procs ≤ 16) ∧ (1 ≤ r.opens ∧ r.opens ≤ 32) := by
  simp only [RegD.sound, Bool.and_eq_true, decide_eq_true_eq, and_assoc]
theorem addErr_range {n : Int} {d : List RegD} {r : RegD} (h1 : 1 ≤ n ∧ n ≤ 64) (h : nameB r.name = true) (hb : badR n r) : addErr n d r = 27 := by
  have hw : w64 (n - 1) = n - 1 := by unfold w64; rw [wrap64] <;> omega
  unfold addErr
  rw [if_neg (by rw [h]; simp)]
  by_cases c1 : decide (r.lev ≤ 15) = false
  · rw [if_pos c1]
  rw [if_neg c1]
  by_cases c2 : r.sound = false
  · rw [if_pos c2]
  rw [if_neg c2]
  have c2 := (sound_iff r).1 (by simpa using c2)
  have c1 : r.lev ≤ 15 := by simpa using c1
  rw [if_pos]
  rw [hw, Bool.eq_false_iff]
  intro h
  simp at h
  unfold badR at hb
  omega
theorem addErr_twice {n : Int} {d : List RegD} {r : RegD} (h1 : 1 ≤ n ∧ n ≤ 64) (h : nameB r.name = true) (hb : ¬ badR n r) : addErr n d r =
    if (d.any fun x => (x.name == r.name) || ((x.lev == r.lev) && (x.cats == r.cats))) = true then 29 else 0 := by
  have hw : w64 (n - 1) = n - 1 := by unfold w64; rw [wrap64] <;> omega
  unfold badR at hb
  have hs : r.sound = true := (sound_iff r).2 (by omega)
  unfold addErr
  rw [if_neg (by rw [h]; simp), if_neg (by simp; omega), if_neg (by rw [hs]; simp), if_neg (by rw [hw]; simp; omega)]
  have e : (d.any fun x => (x.name == r.name) || ((x.lev == r.lev) && (x.cats == r.cats))) = (((d.map (·.name)).any fun x => r.name == x) || ((d.map fun r => (r.lev, r.cats)).any fun x => (r.lev == x.1) && (r.cats == x.2))) := by
    induction d with
    | nil => rfl
    | cons x l ih =>
      simp only [List.any_cons, List.map_cons, ih]
      have e1 : (x.name == r.name) = (r.name == x.name) := by rw [bytes_beq, bytes_beq, decide_eq_decide]; exact eq_comm
      have e2 : (x.lev == r.lev) = (r.lev == x.lev) := by rw [Bool.eq_iff_iff, beq_iff_eq, beq_iff_eq]; exact eq_comm
      have e3 : (x.cats == r.cats) = (r.cats == x.cats) := by rw [Bool.eq_iff_iff, beq_iff_eq, beq_iff_eq]; exact eq_comm
      rw [e1, e2, e3]
      cases (r.name == x.name) <;> cases ((r.lev == x.lev) && (r.cats == x.cats)) <;> simp
  rw [e]
  cases h1 : ((d.map (·.name)).any fun x => r.name == x) <;> cases h2 : ((d.map fun r => (r.lev, r.cats)).any fun x => (r.lev == x.1) && (r.cats == x.2)) <;> simp
end Go.Proofs.YtkjclebafpomhaaDoor
set_option linter.unusedVariables false
set_option linter.unusedSimpArgs false
set_option maxRecDepth 100000
namespace Go.Proofs.YtkjclebafpomhaaDoor
open Go Go.Eng
def inf21_14 : Info := [([0], [], false), ([7], [0], false), ([111, 112], [], false), ([113], [], false), ([114], [], false), ([6], [0, 1, 2, 3, 4], false), ([116], [0, 1, 2, 3, 4], false), ([115, 117], [], false), ([118], [], false), ([0, 119], [], false), ([7, 119], [9], false), ([120, 121, 119], [], false), ([122, 119], [], false), ([123, 119], [], false), ([6, 119], [9, 10, 11, 12, 13], false), ([125, 119], [9, 10, 11, 12, 13], false), ([124, 126, 119], [], false), ([119, 127], [], false)]
def inf21_21 : Info := [([0], [], false), ([8], [0], false), ([149, 150], [], false), ([151], [], false), ([152], [], false), ([0], [0, 1, 2, 3, 4], false), ([0], [0, 1, 2, 3, 4, 5], false), ([8], [0, 1, 2, 3, 4, 5, 6], false), ([155, 156], [0, 1, 2, 3, 4, 5], false), ([157], [0, 1, 2, 3, 4, 5], false), ([158], [0, 1, 2, 3, 4, 5], false), ([154, 159], [0, 1, 2, 3, 4], false), ([160], [0, 1, 2, 3, 4], false), ([161], [0, 1, 2, 3, 4], false), ([153, 162], [], false), ([163], [], false)]
def inf21_27 : Info := [([10], [], false), ([175], [], false), ([176], [], false), ([0], [0, 1, 2], false), ([178], [0, 1, 2], false), ([177, 179], [], false), ([180], [], false), ([10, 181], [], false), ([182, 181], [], false), ([183, 181], [], false), ([181, 184], [], false), ([185], [], false), ([10, 186], [], false), ([187, 186], [], false), ([188, 186], [], false), ([0, 186], [12, 13, 14], false), ([10, 186], [12, 13, 14, 15], false), ([191, 186], [12, 13, 14, 15], false), ([190, 192, 186], [12, 13, 14], false), ([193, 186], [12, 13, 14], false), ([194, 186], [12, 13, 14], false), ([189, 195, 186], [], false), ([186, 196], [], false)]
def inf21_32 : Info := [([1], [], false), ([11], [0], false), ([203, 204], [], false), ([205], [], false), ([10], [0, 1, 2, 3], false), ([206, 207], [], false)]

theorem addErr_zero {n : Int} {d : List RegD} {r : RegD} (h1 : 1 ≤ n ∧ n ≤ 64) (h : addErr n d r = 0) : nameB r.name = true ∧ ¬ badR n r ∧ (d.any fun x => (x.name == r.name) || ((x.lev == r.lev) && (x.cats == r.cats))) = false := by
  have hn : nameB r.name = true := by
    cases hq : nameB r.name
    · rw [addErr_word hq] at h; omega
    · rfl
  have hb : ¬ badR n r := fun hb => by rw [addErr_range h1 hn hb] at h; omega
  refine ⟨hn, hb, ?_⟩
  rw [addErr_twice h1 hn hb] at h
  cases hq : (d.any fun x => (x.name == r.name) || ((x.lev == r.lev) && (x.cats == r.cats)))
  · rfl
  · rw [if_pos hq] at h; omega
theorem adds_ok {n : Int} (h1 : 1 ≤ n ∧ n ≤ 64) : ∀ (l d : List RegD), addsErr n d l = 0 → ∀ (k : Nat) (r : RegD), l[k]? = some r → nameB r.name = true ∧ ¬ badR n r ∧ ((d ++ l.take k).any fun x => (x.name == r.name) || ((x.lev == r.lev) && (x.cats == r.cats))) = false := by
  intro l
  induction l with
  | nil => intro d _ k r h; simp at h
  | cons a l ih =>
    intro d h k r hr
    simp only [addsErr] at h
    split at h
    · rename_i ha
      cases k with
      | zero =>
        simp at hr; subst hr
        simpa using addErr_zero h1 ha
      | succ k =>
        have := ih (d ++ [a]) h k r (by simpa using hr)
        simpa using this
    · rename_i ha; exact absurd h ha
def s21 : Specs := spAdd (spAdd sp0 46 F46) 47 F47
theorem s21_46 : s21 46 = some F46 := id rfl
theorem s21_47 : s21 47 = some F47 := id rfl
theorem s21_ok : SpsOK s21 := spAdd_ok (spAdd_ok sp0_ok sp46) sp47
set_option maxHeartbeats 8000000 in
theorem right_c {H : AHeap} {sr sm : Value} {regs : List RegD} {marks : List (Int × Int)} (hr : SlcE H sr RegD.cells 9 regs) (hm : SlcE H sm mkC 2 marks) (hrw : ∀ r ∈ regs, (0 ≤ r.lev ∧ r.lev ≤ 255) ∧ 0 ≤ r.cats ∧ r.cats ≤ 65535) (hmw : ∀ m ∈ marks, 0 ≤ m.1 ∧ m.1 ≤ 255 ∧ 0 ≤ m.2 ∧ m.2 ≤ 65535) (hml : marks.length ≤ 1000) :
    ACalls Tryd.prog 4 21 [sr, sm] H fun v H' => v = .int .i64 (newErr regs marks) ∧ H' = H := by
  refine ACalls.trim1 rfl ?_
  have hsl : ∃ ra ca, sr = .slice ra regs.length ca := by
    rcases hr with ⟨rfl, rfl⟩ | ⟨b, c, row, ro, par, gs, rfl, _⟩
    · exact ⟨none, 0, rfl⟩
    · exact ⟨_, _, rfl⟩
  obtain ⟨ra, ca, hsr⟩ := hsl
  refine walk s21_ok (fn := Tryd.f21) (by kernel_rfl) (c := Tryd.f21.body.get (by kernel_rfl)) (by kernel_rfl) (by simp [Tryd.f21]) ?_
  simp only [Tryd.f21, Option.get]
  by_cases c1 : (regs.length : Int) < 1
  · have hv : newErr regs marks = 23 := by unfold newErr; rw [if_pos (.inl (by omega))]
    subst hsr
    simp only [go_sem, Nat.reduceLT, Nat.reduceEqDiff, ↓reduceIte, Nat.reduceAdd, Nat.zero_add, Nat.add_zero, Nat.reduceLeDiff, Int.reduceEq, Nat.reduceMul, List.take_zero, List.drop_succ_cons, List.drop_zero, List.nil_append, List.append_nil, List.drop_nil, List.take_succ_cons, List.take_nil, List.cons_append, Int.toNat_natCast, Int.toNat_zero, Int.toNat_one, c1, hv, Keeps.refl]
  by_cases c2 : 64 < (regs.length : Int)
  · have hv : newErr regs marks = 23 := by unfold newErr; rw [if_pos (.inr (by omega))]
    subst hsr
    simp only [go_sem, Nat.reduceLT, Nat.reduceEqDiff, ↓reduceIte, Nat.reduceAdd, Nat.zero_add, Nat.add_zero, Nat.reduceLeDiff, Int.reduceEq, Nat.reduceMul, List.take_zero, List.drop_succ_cons, List.drop_zero, List.nil_append, List.append_nil, List.drop_nil, List.take_succ_cons, List.take_nil, List.cons_append, Int.toNat_natCast, Int.toNat_zero, Int.toNat_one, c1, c2, hv, Keeps.refl]
  rcases hr with ⟨rfl, _⟩ | ⟨ia, ca', row, ro, par, gs, e0, hrow, hel⟩
  · simp at c1
  rw [hsr] at e0
  injection e0 with e1 e2 e3
  subst e1; subst e3
  subst hsr
  have hia : ia < H.next := AHeap.get_lt hrow
  have hnl : regs.length ≤ 64 := by omega
  have hlen0 : ¬ (regs.length = 0 ∨ 64 < regs.length) := by omega
  simp only [go_sem, Nat.reduceLT, Nat.reduceEqDiff, ↓reduceIte, Nat.reduceAdd, Nat.zero_add, Nat.add_zero, Nat.reduceLeDiff, Int.reduceEq, Nat.reduceMul, List.take_zero, List.drop_succ_cons, List.drop_zero, List.nil_append, List.append_nil, List.drop_nil, List.take_succ_cons, List.take_nil, List.cons_append, Int.toNat_natCast, Int.toNat_zero, Int.toNat_one, c1, c2]
  refine codeW_loop (fun nn τ X => ∃ k : Nat, nn = regs.length - k ∧ k ≤ regs.length ∧ tget τ 0 = .slice (some ⟨ia, 0, none⟩) regs.length ca ∧ tget τ 1 = sm ∧ tget τ 5 = .int .i64 (k : Nat) ∧ Keeps [] H X ∧ addsErr regs.length [] regs = addsErr regs.length (regs.take k) (regs.drop k)) (n := regs.length) ⟨0, rfl, Nat.zero_le _, ?_, ?_, ?_, ?_, rfl⟩ ?_
  · simp only [go_sem, Nat.reduceLT, Nat.reduceEqDiff, ↓reduceIte, Nat.reduceAdd, Nat.zero_add, Nat.add_zero, Nat.reduceLeDiff, Int.reduceEq, Nat.reduceMul]
  · simp only [go_sem, Nat.reduceLT, Nat.reduceEqDiff, ↓reduceIte, Nat.reduceAdd, Nat.zero_add, Nat.add_zero, Nat.reduceLeDiff, Int.reduceEq, Nat.reduceMul]
  · simp only [go_sem, Nat.reduceLT, Nat.reduceEqDiff, ↓reduceIte, Nat.reduceAdd, Nat.zero_add, Nat.add_zero, Nat.reduceLeDiff, Int.reduceEq, Nat.reduceMul]; rfl
  · exact Keeps.refl _ _
  rintro nn τ X ⟨k, rfl, hk, t0, t1, t5, hK, hE⟩
  have xia := hK.get hrow (by simp)
  have xil := AHeap.get_lt xia
  have hle := hK.le
  by_cases hlt : k < regs.length
  · obtain ⟨r, hrk⟩ : ∃ r, regs[k]? = some r := ⟨_, List.getElem?_eq_getElem hlt⟩
    obtain ⟨⟨l1, l2⟩, l3⟩ := hrw r (List.mem_of_getElem? hrk)
    obtain ⟨e1, e2⟩ := hel k r hrk
    have hz : (0 : Int) ≤ (k : Int) := by omega
    have hd : (k : Int) < (regs.length : Int) := by omega
    have hw : IntKind.wrap .i64 ((k : Int) + 1) = ((k + 1 : Nat) : Int) := by rw [wrap64] <;> omega
    have hlk : (regs.take k).length = k := by simp; omega
    have hnext : regs.take (k + 1) = regs.take k ++ [r] := by rw [List.take_add_one, hrk]; rfl
    have hX : ∀ o o2 : AObj, Keeps [] H ((X.new o).set X.next o2) := fun o o2 => (hK.new' o).set' (by omega) (by simp)
    have bad : addErr regs.length (regs.take k) r ≠ 0 → newErr regs marks = addErr regs.length (regs.take k) r := fun he => by
      have hE2 : addsErr regs.length [] regs = addErr regs.length (regs.take k) r := by rw [hE, drop_at hrk]; simp only [addsErr, he, if_false]
      unfold newErr; rw [if_neg hlen0, if_pos (by rw [hE2]; exact he), hE2]
    cases q0 : nameB r.name
    · have hv : newErr regs marks = 30 := by rw [bad (by rw [addErr_word q0]; omega), addErr_word q0]
      simp only [go_sem, Nat.reduceLT, Nat.reduceEqDiff, ↓reduceIte, Nat.reduceAdd, Nat.zero_add, Nat.add_zero, Nat.reduceLeDiff, Int.reduceEq, Nat.reduceMul, List.take_zero, List.drop_succ_cons, List.drop_zero, List.nil_append, List.append_nil, List.drop_nil, List.take_succ_cons, List.take_nil, List.cons_append, Int.toNat_natCast, Int.toNat_zero, Int.toNat_one, t0, t1, t5, xia, hz, hd, e1, e2, RegD.cells, s21_46, fn_ex, F46_eq, q0, hv, hX]
    have n2 : ¬ ((2 : Int) = 0) := by omega
    have big : badR regs.length r → newErr regs marks = 27 := fun hb => by
      rw [bad (by rw [addErr_range (by omega) q0 hb]; omega), addErr_range (by omega) q0 hb]
    by_cases b0 : 15 < r.lev
    · have hv := big (by unfold badR; simp only [b0, true_or, or_true, not_false_eq_true])
      simp only [go_sem, Nat.reduceLT, Nat.reduceEqDiff, ↓reduceIte, Nat.reduceAdd, Nat.zero_add, Nat.add_zero, Nat.reduceLeDiff, Int.reduceEq, Nat.reduceMul, List.take_zero, List.drop_succ_cons, List.drop_zero, List.nil_append, List.append_nil, List.drop_nil, List.take_succ_cons, List.take_nil, List.cons_append, Int.toNat_natCast, Int.toNat_zero, Int.toNat_one, t0, t1, t5, xia, hz, hd, e1, e2, RegD.cells, s21_46, fn_ex, F46_eq, q0, n2, b0, hv, hX]
    by_cases b1 : r.blocks < 4
    · have hv := big (by unfold badR; simp only [b1, true_or, or_true, not_false_eq_true])
      simp only [go_sem, Nat.reduceLT, Nat.reduceEqDiff, ↓reduceIte, Nat.reduceAdd, Nat.zero_add, Nat.add_zero, Nat.reduceLeDiff, Int.reduceEq, Nat.reduceMul, List.take_zero, List.drop_succ_cons, List.drop_zero, List.nil_append, List.append_nil, List.drop_nil, List.take_succ_cons, List.take_nil, List.cons_append, Int.toNat_natCast, Int.toNat_zero, Int.toNat_one, t0, t1, t5, xia, hz, hd, e1, e2, RegD.cells, s21_46, fn_ex, F46_eq, q0, n2, b0, b1, hv, hX]
    by_cases b2 : 512 < r.blocks
    · have hv := big (by unfold badR; simp only [b2, true_or, or_true, not_false_eq_true])
      simp only [go_sem, Nat.reduceLT, Nat.reduceEqDiff, ↓reduceIte, Nat.reduceAdd, Nat.zero_add, Nat.add_zero, Nat.reduceLeDiff, Int.reduceEq, Nat.reduceMul, List.take_zero, List.drop_succ_cons, List.drop_zero, List.nil_append, List.append_nil, List.drop_nil, List.take_succ_cons, List.take_nil, List.cons_append, Int.toNat_natCast, Int.toNat_zero, Int.toNat_one, t0, t1, t5, xia, hz, hd, e1, e2, RegD.cells, s21_46, fn_ex, F46_eq, q0, n2, b0, b1, b2, hv, hX]
    by_cases b3 : r.nodes < 4
    · have hv := big (by unfold badR; simp only [b3, true_or, or_true, not_false_eq_true])
      simp only [go_sem, Nat.reduceLT, Nat.reduceEqDiff, ↓reduceIte, Nat.reduceAdd, Nat.zero_add, Nat.add_zero, Nat.reduceLeDiff, Int.reduceEq, Nat.reduceMul, List.take_zero, List.drop_succ_cons, List.drop_zero, List.nil_append, List.append_nil, List.drop_nil, List.take_succ_cons, List.take_nil, List.cons_append, Int.toNat_natCast, Int.toNat_zero, Int.toNat_one, t0, t1, t5, xia, hz, hd, e1, e2, RegD.cells, s21_46, fn_ex, F46_eq, q0, n2, b0, b1, b2, b3, hv, hX]
    by_cases b4 : 128 < r.nodes
    · have hv := big (by unfold badR; simp only [b4, true_or, or_true, not_false_eq_true])
      simp only [go_sem, Nat.reduceLT, Nat.reduceEqDiff, ↓reduceIte, Nat.reduceAdd, Nat.zero_add, Nat.add_zero, Nat.reduceLeDiff, Int.reduceEq, Nat.reduceMul, List.take_zero, List.drop_succ_cons, List.drop_zero, List.nil_append, List.append_nil, List.drop_nil, List.take_succ_cons, List.take_nil, List.cons_append, Int.toNat_natCast, Int.toNat_zero, Int.toNat_one, t0, t1, t5, xia, hz, hd, e1, e2, RegD.cells, s21_46, fn_ex, F46_eq, q0, n2, b0, b1, b2, b3, b4, hv, hX]
    by_cases b5 : r.nodes.tmod 2 = 0
    rotate_left
    · have hv := big (by unfold badR; simp only [b5, true_or, or_true, not_false_eq_true])
      simp only [go_sem, Nat.reduceLT, Nat.reduceEqDiff, ↓reduceIte, Nat.reduceAdd, Nat.zero_add, Nat.add_zero, Nat.reduceLeDiff, Int.reduceEq, Nat.reduceMul, List.take_zero, List.drop_succ_cons, List.drop_zero, List.nil_append, List.append_nil, List.drop_nil, List.take_succ_cons, List.take_nil, List.cons_append, Int.toNat_natCast, Int.toNat_zero, Int.toNat_one, t0, t1, t5, xia, hz, hd, e1, e2, RegD.cells, s21_46, fn_ex, F46_eq, q0, n2, b0, b1, b2, b3, b4, b5, hv, hX]
    by_cases b6 : r.frames < 1
    · have hv := big (by unfold badR; simp only [b6, true_or, or_true, not_false_eq_true])
      simp only [go_sem, Nat.reduceLT, Nat.reduceEqDiff, ↓reduceIte, Nat.reduceAdd, Nat.zero_add, Nat.add_zero, Nat.reduceLeDiff, Int.reduceEq, Nat.reduceMul, List.take_zero, List.drop_succ_cons, List.drop_zero, List.nil_append, List.append_nil, List.drop_nil, List.take_succ_cons, List.take_nil, List.cons_append, Int.toNat_natCast, Int.toNat_zero, Int.toNat_one, t0, t1, t5, xia, hz, hd, e1, e2, RegD.cells, s21_46, fn_ex, F46_eq, q0, n2, b0, b1, b2, b3, b4, b5, b6, hv, hX]
    by_cases b7 : 256 < r.frames
    · have hv := big (by unfold badR; simp only [b7, true_or, or_true, not_false_eq_true])
      simp only [go_sem, Nat.reduceLT, Nat.reduceEqDiff, ↓reduceIte, Nat.reduceAdd, Nat.zero_add, Nat.add_zero, Nat.reduceLeDiff, Int.reduceEq, Nat.reduceMul, List.take_zero, List.drop_succ_cons, List.drop_zero, List.nil_append, List.append_nil, List.drop_nil, List.take_succ_cons, List.take_nil, List.cons_append, Int.toNat_natCast, Int.toNat_zero, Int.toNat_one, t0, t1, t5, xia, hz, hd, e1, e2, RegD.cells, s21_46, fn_ex, F46_eq, q0, n2, b0, b1, b2, b3, b4, b5, b6, b7, hv, hX]
    by_cases b8 : r.procs < 1
    · have hv := big (by unfold badR; simp only [b8, true_or, or_true, not_false_eq_true])
      simp only [go_sem, Nat.reduceLT, Nat.reduceEqDiff, ↓reduceIte, Nat.reduceAdd, Nat.zero_add, Nat.add_zero, Nat.reduceLeDiff, Int.reduceEq, Nat.reduceMul, List.take_zero, List.drop_succ_cons, List.drop_zero, List.nil_append, List.append_nil, List.drop_nil, List.take_succ_cons, List.take_nil, List.cons_append, Int.toNat_natCast, Int.toNat_zero, Int.toNat_one, t0, t1, t5, xia, hz, hd, e1, e2, RegD.cells, s21_46, fn_ex, F46_eq, q0, n2, b0, b1, b2, b3, b4, b5, b6, b7, b8, hv, hX]
    by_cases b9 : 16 < r.procs
    · have hv := big (by unfold badR; simp only [b9, true_or, or_true, not_false_eq_true])
      simp only [go_sem, Nat.reduceLT, Nat.reduceEqDiff, ↓reduceIte, Nat.reduceAdd, Nat.zero_add, Nat.add_zero, Nat.reduceLeDiff, Int.reduceEq, Nat.reduceMul, List.take_zero, List.drop_succ_cons, List.drop_zero, List.nil_append, List.append_nil, List.drop_nil, List.take_succ_cons, List.take_nil, List.cons_append, Int.toNat_natCast, Int.toNat_zero, Int.toNat_one, t0, t1, t5, xia, hz, hd, e1, e2, RegD.cells, s21_46, fn_ex, F46_eq, q0, n2, b0, b1, b2, b3, b4, b5, b6, b7, b8, b9, hv, hX]
    by_cases b10 : r.opens < 1
    · have hv := big (by unfold badR; simp only [b10, true_or, or_true, not_false_eq_true])
      simp only [go_sem, Nat.reduceLT, Nat.reduceEqDiff, ↓reduceIte, Nat.reduceAdd, Nat.zero_add, Nat.add_zero, Nat.reduceLeDiff, Int.reduceEq, Nat.reduceMul, List.take_zero, List.drop_succ_cons, List.drop_zero, List.nil_append, List.append_nil, List.drop_nil, List.take_succ_cons, List.take_nil, List.cons_append, Int.toNat_natCast, Int.toNat_zero, Int.toNat_one, t0, t1, t5, xia, hz, hd, e1, e2, RegD.cells, s21_46, fn_ex, F46_eq, q0, n2, b0, b1, b2, b3, b4, b5, b6, b7, b8, b9, b10, hv, hX]
    by_cases b11 : 32 < r.opens
    · have hv := big (by unfold badR; simp only [b11, true_or, or_true, not_false_eq_true])
      simp only [go_sem, Nat.reduceLT, Nat.reduceEqDiff, ↓reduceIte, Nat.reduceAdd, Nat.zero_add, Nat.add_zero, Nat.reduceLeDiff, Int.reduceEq, Nat.reduceMul, List.take_zero, List.drop_succ_cons, List.drop_zero, List.nil_append, List.append_nil, List.drop_nil, List.take_succ_cons, List.take_nil, List.cons_append, Int.toNat_natCast, Int.toNat_zero, Int.toNat_one, t0, t1, t5, xia, hz, hd, e1, e2, RegD.cells, s21_46, fn_ex, F46_eq, q0, n2, b0, b1, b2, b3, b4, b5, b6, b7, b8, b9, b10, b11, hv, hX]
    by_cases b12 : r.clear < 0
    · have hv := big (by unfold badR; simp only [b12, true_or, or_true, not_false_eq_true])
      simp only [go_sem, Nat.reduceLT, Nat.reduceEqDiff, ↓reduceIte, Nat.reduceAdd, Nat.zero_add, Nat.add_zero, Nat.reduceLeDiff, Int.reduceEq, Nat.reduceMul, List.take_zero, List.drop_succ_cons, List.drop_zero, List.nil_append, List.append_nil, List.drop_nil, List.take_succ_cons, List.take_nil, List.cons_append, Int.toNat_natCast, Int.toNat_zero, Int.toNat_one, t0, t1, t5, xia, hz, hd, e1, e2, RegD.cells, s21_46, fn_ex, F46_eq, q0, n2, b0, b1, b2, b3, b4, b5, b6, b7, b8, b9, b10, b11, b12, hv, hX]
    by_cases b13 : (regs.length : Int) ≤ r.clear
    · have hv := big (by unfold badR; simp only [b13, true_or, or_true, not_false_eq_true])
      simp only [go_sem, Nat.reduceLT, Nat.reduceEqDiff, ↓reduceIte, Nat.reduceAdd, Nat.zero_add, Nat.add_zero, Nat.reduceLeDiff, Int.reduceEq, Nat.reduceMul, List.take_zero, List.drop_succ_cons, List.drop_zero, List.nil_append, List.append_nil, List.drop_nil, List.take_succ_cons, List.take_nil, List.cons_append, Int.toNat_natCast, Int.toNat_zero, Int.toNat_one, t0, t1, t5, xia, hz, hd, e1, e2, RegD.cells, s21_46, fn_ex, F46_eq, q0, n2, b0, b1, b2, b3, b4, b5, b6, b7, b8, b9, b10, b11, b12, b13, hv, hX]
    have hnb : ¬ badR regs.length r := by unfold badR; simp only [b0, b1, b2, b3, b4, b5, b6, b7, b8, b9, b10, b11, b12, b13, or_self, not_true_eq_false, not_false_eq_true]
    have htw := addErr_twice (n := regs.length) (d := regs.take k) (r := r) (by omega) q0 hnb
    simp only [go_sem, Nat.reduceLT, Nat.reduceEqDiff, ↓reduceIte, Nat.reduceAdd, Nat.zero_add, Nat.add_zero, Nat.reduceLeDiff, Int.reduceEq, Nat.reduceMul, List.take_zero, List.drop_succ_cons, List.drop_zero, List.nil_append, List.append_nil, List.drop_nil, List.take_succ_cons, List.take_nil, List.cons_append, Int.toNat_natCast, Int.toNat_zero, Int.toNat_one, t0, t1, t5, xia, hz, hd, e1, e2, RegD.cells, s21_46, fn_ex, F46_eq, q0, n2, b0, b1, b2, b3, b4, b5, b6, b7, b8, b9, b10, b11, b12, b13]
    have hY : Keeps [] X ((X.new (.cells [.string ⟨#[]⟩, .int .u8 0, .int .u16 0, .int .i64 0, .int .i64 0, .int .i64 0, .int .i64 0, .int .i64 0, .int .i64 0] false [] 0)).set X.next (.cells r.cells false [] 0)) := ((Keeps.refl [] X).new' _).set' (by omega) (by simp)
    clear b0 b1 b2 b3 b4 b5 b6 b7 b8 b9 b10 b11 b12 b13
    refine codeW_loop (fun nn τ Y => ∃ j : Nat, nn = k - j ∧ j ≤ k ∧ tget τ 0 = .slice (some ⟨ia, 0, none⟩) regs.length ca ∧ tget τ 1 = sm ∧ tget τ 5 = .int .i64 (k : Nat) ∧ tget τ 6 = .pointer (some ⟨X.next, 0, none⟩) ∧ tget τ 7 = .int .i64 (j : Nat) ∧ Keeps [] X Y ∧ Y.get X.next = some (.cells r.cells false [] 0) ∧
      ((regs.take j).any fun x => (x.name == r.name) || ((x.lev == r.lev) && (x.cats == r.cats))) = false) (n := k) ⟨0, rfl, Nat.zero_le _, ?_, ?_, ?_, ?_, ?_, hY, ?_, rfl⟩ ?_
    · simp only [go_sem, Nat.reduceLT, Nat.reduceEqDiff, ↓reduceIte, Nat.reduceAdd, Nat.zero_add, Nat.add_zero, Nat.reduceLeDiff, Int.reduceEq, Nat.reduceMul, t0]
    · simp only [go_sem, Nat.reduceLT, Nat.reduceEqDiff, ↓reduceIte, Nat.reduceAdd, Nat.zero_add, Nat.add_zero, Nat.reduceLeDiff, Int.reduceEq, Nat.reduceMul, t1]
    · simp only [go_sem, Nat.reduceLT, Nat.reduceEqDiff, ↓reduceIte, Nat.reduceAdd, Nat.zero_add, Nat.add_zero, Nat.reduceLeDiff, Int.reduceEq, Nat.reduceMul, t5]
    · simp only [go_sem, Nat.reduceLT, Nat.reduceEqDiff, ↓reduceIte, Nat.reduceAdd, Nat.zero_add, Nat.add_zero, Nat.reduceLeDiff, Int.reduceEq, Nat.reduceMul]
    · simp only [go_sem, Nat.reduceLT, Nat.reduceEqDiff, ↓reduceIte, Nat.reduceAdd, Nat.zero_add, Nat.add_zero, Nat.reduceLeDiff, Int.reduceEq, Nat.reduceMul]; rfl
    · simp only [go_sem, Nat.reduceLT, Nat.reduceEqDiff, ↓reduceIte, Nat.reduceAdd, Nat.zero_add, Nat.add_zero, Nat.reduceLeDiff, Int.reduceEq, Nat.reduceMul, RegD.cells]
    clear hY t0 t1 t5
    rintro nn τ Y ⟨j, rfl, hj, t0, t1, t5, t6, t7, hXY, yr, hno⟩
    have yia := hXY.get xia (by simp)
    have yil := AHeap.get_lt yia
    have yrl := AHeap.get_lt yr
    have hKY := hK.trans hXY
    have ne1 : ia ≠ X.next := by omega
    by_cases hjk : j < k
    · obtain ⟨x, hxj⟩ : ∃ x, regs[j]? = some x := ⟨_, List.getElem?_eq_getElem (by omega)⟩
      have hdj : (j : Int) < (k : Int) := by omega
      have hdn : (j : Int) < (regs.length : Int) := by omega
      have hzj : (0 : Int) ≤ (j : Int) := by omega
      have hwj : IntKind.wrap .i64 ((j : Int) + 1) = ((j + 1 : Nat) : Int) := by rw [wrap64] <;> omega
      have x0 : row[j * 9]? = some (.string x.name) := hel.cell j 0 x hxj (by omega)
      obtain ⟨x1, x2⟩ := hel.part j 1 2 x hxj (by omega)
      have hnj : regs.take (j + 1) = regs.take j ++ [x] := by rw [List.take_add_one, hxj]; rfl
      have hmem : ∀ b, ((x.name == r.name) || ((x.lev == r.lev) && (x.cats == r.cats))) = b → ((regs.take (j + 1)).any fun x => (x.name == r.name) || ((x.lev == r.lev) && (x.cats == r.cats))) = b := fun b hb => by
        rw [hnj, List.any_append, hno, Bool.false_or, List.any_cons, List.any_nil, Bool.or_false, hb]
      have tw : ((x.name == r.name) || ((x.lev == r.lev) && (x.cats == r.cats))) = true → newErr regs marks = 29 := fun hb => by
        have h1 := hmem true hb
        have h2 : ((regs.take k).any fun x => (x.name == r.name) || ((x.lev == r.lev) && (x.cats == r.cats))) = true := by
          rw [List.any_eq_true] at h1 ⊢
          obtain ⟨y, hy, h3⟩ := h1
          exact ⟨y, (List.take_sublist_take_left (show j + 1 ≤ k by omega)).subset hy, h3⟩
        rw [if_pos h2] at htw
        rw [bad (by rw [htw]; omega), htw]
      simp only [go_sem, Nat.reduceLT, Nat.reduceEqDiff, ↓reduceIte, Nat.reduceAdd, Nat.zero_add, Nat.add_zero, Nat.reduceLeDiff, Int.reduceEq, Nat.reduceMul, List.take_zero, List.drop_succ_cons, List.drop_zero, List.nil_append, List.append_nil, List.drop_nil, List.take_succ_cons, List.take_nil, List.cons_append, Int.toNat_natCast, Int.toNat_zero, Int.toNat_one, t0, t1, t5, t6, t7, hdj]
      refine codeW_any (cxS_ok s21_ok) inf21_14 (by kernel_rfl) fun _ => ?_
      cases m1 : (x.name == r.name)
      · cases m2 : ((x.lev == r.lev) && (x.cats == r.cats))
        · simp only [inf21_14, go_sem, Nat.reduceLT, Nat.reduceEqDiff, ↓reduceIte, Nat.reduceAdd, Nat.zero_add, Nat.add_zero, Nat.reduceLeDiff, Int.reduceEq, Nat.reduceMul, List.take_zero, List.drop_succ_cons, List.drop_zero, List.nil_append, List.append_nil, List.drop_nil, List.take_succ_cons, List.take_nil, List.cons_append, Int.toNat_natCast, Int.toNat_zero, Int.toNat_one, t0, t1, t5, t6, t7, yia, yr, yil, yrl, hdn, hzj, x0, x1, x2, RegD.cells, m1, m2, eql36, hwj, ne1]
          exact ⟨k - (j + 1), by omega, j + 1, rfl, by omega, rfl, hXY, hmem false (by rw [m1, m2]; rfl)⟩
        · have hv := tw (by rw [m1, m2]; rfl)
          simp only [inf21_14, go_sem, Nat.reduceLT, Nat.reduceEqDiff, ↓reduceIte, Nat.reduceAdd, Nat.zero_add, Nat.add_zero, Nat.reduceLeDiff, Int.reduceEq, Nat.reduceMul, List.take_zero, List.drop_succ_cons, List.drop_zero, List.nil_append, List.append_nil, List.drop_nil, List.take_succ_cons, List.take_nil, List.cons_append, Int.toNat_natCast, Int.toNat_zero, Int.toNat_one, t0, t1, t5, t6, t7, yia, yr, yil, yrl, hdn, hzj, x0, x1, x2, RegD.cells, m1, m2, eql36, hwj, ne1, hv, hKY]
      · have hv := tw (by rw [m1]; rfl)
        simp only [inf21_14, go_sem, Nat.reduceLT, Nat.reduceEqDiff, ↓reduceIte, Nat.reduceAdd, Nat.zero_add, Nat.add_zero, Nat.reduceLeDiff, Int.reduceEq, Nat.reduceMul, List.take_zero, List.drop_succ_cons, List.drop_zero, List.nil_append, List.append_nil, List.drop_nil, List.take_succ_cons, List.take_nil, List.cons_append, Int.toNat_natCast, Int.toNat_zero, Int.toNat_one, t0, t1, t5, t6, t7, yia, yr, yil, yrl, hdn, hzj, x0, x1, x2, RegD.cells, m1, eql36, hwj, ne1, hv, hKY]
    · obtain rfl : j = k := by omega
      have hdj : ¬ ((j : Int) < (j : Int)) := by omega
      rw [if_neg (by rw [hno]; simp)] at htw
      have hE2 : addsErr regs.length [] regs = addsErr regs.length (regs.take (j + 1)) (regs.drop (j + 1)) := by rw [hE, drop_at hrk]; simp only [addsErr, htw, if_true, hnext]
      simp only [go_sem, Nat.reduceLT, Nat.reduceEqDiff, ↓reduceIte, Nat.reduceAdd, Nat.zero_add, Nat.add_zero, Nat.reduceLeDiff, Int.reduceEq, Nat.reduceMul, List.take_zero, List.drop_succ_cons, List.drop_zero, List.nil_append, List.append_nil, List.drop_nil, List.take_succ_cons, List.take_nil, List.cons_append, Int.toNat_natCast, Int.toNat_zero, Int.toNat_one, t0, t1, t5, t6, t7, hdj, hw]
      exact ⟨regs.length - (j + 1), by omega, j + 1, rfl, hlt, rfl, hKY, hE2⟩
  · obtain rfl : k = regs.length := by omega
    have hd : ¬ ((regs.length : Int) < (regs.length : Int)) := by omega
    rw [List.drop_length] at hE
    have hE0 : addsErr regs.length [] regs = 0 := by rw [hE]; rfl
    have hok := adds_ok (n := regs.length) (by omega) regs [] hE0
    obtain ⟨r0, hr0⟩ : ∃ r, regs[0]? = some r := ⟨_, List.getElem?_eq_getElem (by omega)⟩
    have hgd0 : regs.getD 0 zeroReg = r0 := by simp [List.getD_eq_getElem?_getD, hr0]
    have z1 : row[1]? = some (.int .u8 r0.lev) := (show row[1]? = row[0 * 9 + 1]? by rw [Nat.zero_mul, Nat.zero_add]).trans (hel.cell 0 1 r0 hr0 (by omega))
    have z2 : row[2]? = some (.int .u16 r0.cats) := (show row[2]? = row[0 * 9 + 2]? by rw [Nat.zero_mul, Nat.zero_add]).trans (hel.cell 0 2 r0 hr0 (by omega))
    have hpos : (0 : Int) < (regs.length : Int) := by omega
    have hz0 : ((0 : Int) ≤ 0) = True := by simp
    by_cases c3 : r0.lev = 0
    rotate_left
    · have hv : newErr regs marks = 25 := by unfold newErr; rw [if_neg hlen0, if_neg (by rw [hE0]; simp), hgd0, if_pos (by simp [c3])]
      simp only [go_sem, Nat.reduceLT, Nat.reduceEqDiff, ↓reduceIte, Nat.reduceAdd, Nat.zero_add, Nat.add_zero, Nat.reduceLeDiff, Int.reduceEq, Nat.reduceMul, List.take_zero, List.drop_succ_cons, List.drop_zero, List.nil_append, List.append_nil, List.drop_nil, List.take_succ_cons, List.take_nil, List.cons_append, Int.toNat_natCast, Int.toNat_zero, Int.toNat_one, t0, t1, t5, xia, hd, hpos, hz0, z1, z2, c3, hv, hK]
    by_cases c4 : r0.cats = 0
    rotate_left
    · have hv : newErr regs marks = 25 := by unfold newErr; rw [if_neg hlen0, if_neg (by rw [hE0]; simp), hgd0, if_pos (by simp [c4])]
      simp only [go_sem, Nat.reduceLT, Nat.reduceEqDiff, ↓reduceIte, Nat.reduceAdd, Nat.zero_add, Nat.add_zero, Nat.reduceLeDiff, Int.reduceEq, Nat.reduceMul, List.take_zero, List.drop_succ_cons, List.drop_zero, List.nil_append, List.append_nil, List.drop_nil, List.take_succ_cons, List.take_nil, List.cons_append, Int.toNat_natCast, Int.toNat_zero, Int.toNat_one, t0, t1, t5, xia, hd, hpos, hz0, z1, z2, c3, c4, hv, hK]
    simp only [go_sem, Nat.reduceLT, Nat.reduceEqDiff, ↓reduceIte, Nat.reduceAdd, Nat.zero_add, Nat.add_zero, Nat.reduceLeDiff, Int.reduceEq, Nat.reduceMul, List.take_zero, List.drop_succ_cons, List.drop_zero, List.nil_append, List.append_nil, List.drop_nil, List.take_succ_cons, List.take_nil, List.cons_append, Int.toNat_natCast, Int.toNat_zero, Int.toNat_one, t0, t1, t5, xia, hd, hpos, hz0, z1, z2, c3, c4]
    refine codeW_loop (fun nn τ X => ∃ k : Nat, nn = regs.length - k ∧ k ≤ regs.length ∧ tget τ 0 = .slice (some ⟨ia, 0, none⟩) regs.length ca ∧ tget τ 1 = sm ∧ tget τ 8 = .int .i64 (k : Nat) ∧ Keeps [] H X ∧ leqsFrom regs regs 0 = leqsFrom regs (regs.drop k) k) (n := regs.length) ⟨0, rfl, Nat.zero_le _, ?_, ?_, ?_, hK, rfl⟩ ?_
    · simp only [go_sem, Nat.reduceLT, Nat.reduceEqDiff, ↓reduceIte, Nat.reduceAdd, Nat.zero_add, Nat.add_zero, Nat.reduceLeDiff, Int.reduceEq, Nat.reduceMul, t0]
    · simp only [go_sem, Nat.reduceLT, Nat.reduceEqDiff, ↓reduceIte, Nat.reduceAdd, Nat.zero_add, Nat.add_zero, Nat.reduceLeDiff, Int.reduceEq, Nat.reduceMul, t1]
    · simp only [go_sem, Nat.reduceLT, Nat.reduceEqDiff, ↓reduceIte, Nat.reduceAdd, Nat.zero_add, Nat.add_zero, Nat.reduceLeDiff, Int.reduceEq, Nat.reduceMul]; rfl
    clear hK hE t0 t1 t5 xia xil hle hk hlt hd z1 z2
    rintro nn τ X ⟨k, rfl, hk, t0, t1, t8, hK, hE⟩
    have xia := hK.get hrow (by simp)
    have xil := AHeap.get_lt xia
    have hle := hK.le
    by_cases hlt : k < regs.length
    · obtain ⟨r, hrk⟩ : ∃ r, regs[k]? = some r := ⟨_, List.getElem?_eq_getElem hlt⟩
      obtain ⟨_, hnb, _⟩ := hok k r hrk
      have hz : (0 : Int) ≤ (k : Int) := by omega
      have hd : (k : Int) < (regs.length : Int) := by omega
      have hw : IntKind.wrap .i64 ((k : Int) + 1) = ((k + 1 : Nat) : Int) := by rw [wrap64] <;> omega
      obtain ⟨q, hq⟩ : ∃ q : Nat, r.clear = q := ⟨r.clear.toNat, by unfold badR at hnb; omega⟩
      have hql : q < regs.length := by unfold badR at hnb; omega
      obtain ⟨u, hu⟩ : ∃ u, regs[q]? = some u := ⟨_, List.getElem?_eq_getElem hql⟩
      have hcl : row[k * 9 + 8]? = some (.int .i64 (q : Nat)) := by rw [hel.cell k 8 r hrk (by omega), ← hq]; rfl
      obtain ⟨e1, e2⟩ := hel.part k 1 2 r hrk (by omega)
      obtain ⟨e3, e4⟩ := hel.part q 1 2 u hu (by omega)
      have hzq : (0 : Int) ≤ (q : Int) := by omega
      have hdq : (q : Int) < (regs.length : Int) := by omega
      have hlr : leqR regs k r.clear = leqB r.lev r.cats u.lev u.cats := by
        unfold leqR; rw [if_pos (by omega), hq]; simp [List.getD_eq_getElem?_getD, hrk, hu]
      have hs : leqsFrom regs (regs.drop k) k = (leqR regs k r.clear && leqsFrom regs (regs.drop (k + 1)) (k + 1)) := by rw [drop_at hrk]; rfl
      have h47 := fun G : AHeap => F47_eq (a := r.lev) (c := u.lev) G (hrw r (List.mem_of_getElem? hrk)).2 (hrw u (List.mem_of_getElem? hu)).2
      simp only [go_sem, Nat.reduceLT, Nat.reduceEqDiff, ↓reduceIte, Nat.reduceAdd, Nat.zero_add, Nat.add_zero, Nat.reduceLeDiff, Int.reduceEq, Nat.reduceMul, List.take_zero, List.drop_succ_cons, List.drop_zero, List.nil_append, List.append_nil, List.drop_nil, List.take_succ_cons, List.take_nil, List.cons_append, Int.toNat_natCast, Int.toNat_zero, Int.toNat_one, t0, t1, t8, hd]
      refine codeW_any (cxS_ok s21_ok) inf21_21 (by kernel_rfl) fun _ => ?_
      cases c5 : leqB r.lev r.cats u.lev u.cats
      · rw [c5] at hlr h47
        have hv : newErr regs marks = 2 := by
          unfold newErr; rw [if_neg hlen0, if_neg (by rw [hE0]; simp), hgd0, if_neg (by simp [c3, c4]), if_pos (by rw [hE, hs, hlr]; rfl)]
        simp only [inf21_21, go_sem, Nat.reduceLT, Nat.reduceEqDiff, ↓reduceIte, Nat.reduceAdd, Nat.zero_add, Nat.add_zero, Nat.reduceLeDiff, Int.reduceEq, Nat.reduceMul, List.take_zero, List.drop_succ_cons, List.drop_zero, List.nil_append, List.append_nil, List.drop_nil, List.take_succ_cons, List.take_nil, List.cons_append, Int.toNat_natCast, Int.toNat_zero, Int.toNat_one, t0, t1, t8, xia, xil, hz, hd, hzq, hdq, hcl, e1, e2, e3, e4, RegD.cells, s21_47, callS_cxS, h47, hw, hv, hK]
      · rw [c5] at hlr h47
        simp only [inf21_21, go_sem, Nat.reduceLT, Nat.reduceEqDiff, ↓reduceIte, Nat.reduceAdd, Nat.zero_add, Nat.add_zero, Nat.reduceLeDiff, Int.reduceEq, Nat.reduceMul, List.take_zero, List.drop_succ_cons, List.drop_zero, List.nil_append, List.append_nil, List.drop_nil, List.take_succ_cons, List.take_nil, List.cons_append, Int.toNat_natCast, Int.toNat_zero, Int.toNat_one, t0, t1, t8, xia, xil, hz, hd, hzq, hdq, hcl, e1, e2, e3, e4, RegD.cells, s21_47, callS_cxS, h47, hw]
        exact ⟨regs.length - (k + 1), by omega, k + 1, rfl, hlt, rfl, hK, by rw [hE, hs, hlr, Bool.true_and]⟩
    · obtain rfl : k = regs.length := by omega
      have hd : ¬ ((regs.length : Int) < (regs.length : Int)) := by omega
      rw [List.drop_length] at hE
      have hL : leqsFrom regs regs 0 = true := by rw [hE]; rfl
      have hv0 : newErr regs marks = marksErr regs [] marks := by unfold newErr; rw [if_neg hlen0, if_neg (by rw [hE0]; simp), hgd0, if_neg (by simp [c3, c4]), if_neg (by rw [hL]; simp)]
      have hsm : ∃ rm cm, sm = .slice rm marks.length cm := by
        rcases hm with ⟨rfl, rfl⟩ | ⟨b, c, row, ro, par, gs, rfl, _⟩
        · exact ⟨none, 0, rfl⟩
        · exact ⟨_, _, rfl⟩
      obtain ⟨rm, cm, hsm⟩ := hsm
      subst hsm
      simp only [go_sem, Nat.reduceLT, Nat.reduceEqDiff, ↓reduceIte, Nat.reduceAdd, Nat.zero_add, Nat.add_zero, Nat.reduceLeDiff, Int.reduceEq, Nat.reduceMul, List.take_zero, List.drop_succ_cons, List.drop_zero, List.nil_append, List.append_nil, List.drop_nil, List.take_succ_cons, List.take_nil, List.cons_append, Int.toNat_natCast, Int.toNat_zero, Int.toNat_one, t0, t1, t8, hd]
      refine codeW_loop (fun nn τ X => ∃ k : Nat, nn = marks.length - k ∧ k ≤ marks.length ∧ tget τ 0 = .slice (some ⟨ia, 0, none⟩) regs.length ca ∧ tget τ 1 = .slice rm marks.length cm ∧ tget τ 9 = .int .i64 (k : Nat) ∧ Keeps [] H X ∧ marksErr regs [] marks = marksErr regs (marks.take k) (marks.drop k)) (n := marks.length) ⟨0, rfl, Nat.zero_le _, ?_, ?_, ?_, hK, rfl⟩ ?_
      · simp only [go_sem, Nat.reduceLT, Nat.reduceEqDiff, ↓reduceIte, Nat.reduceAdd, Nat.zero_add, Nat.add_zero, Nat.reduceLeDiff, Int.reduceEq, Nat.reduceMul, t0]
      · simp only [go_sem, Nat.reduceLT, Nat.reduceEqDiff, ↓reduceIte, Nat.reduceAdd, Nat.zero_add, Nat.add_zero, Nat.reduceLeDiff, Int.reduceEq, Nat.reduceMul, t1]
      · simp only [go_sem, Nat.reduceLT, Nat.reduceEqDiff, ↓reduceIte, Nat.reduceAdd, Nat.zero_add, Nat.add_zero, Nat.reduceLeDiff, Int.reduceEq, Nat.reduceMul]; rfl
      clear hK hE t0 t1 t8 xia xil hle hk hlt hd
      rintro nn τ X ⟨k, rfl, hk, t0, t1, t9, hK, hE⟩
      have xia := hK.get hrow (by simp)
      have xil := AHeap.get_lt xia
      have hle := hK.le
      by_cases hlt : k < marks.length
      · obtain ⟨⟨ma, mb⟩, hmk⟩ : ∃ m, marks[k]? = some m := ⟨_, List.getElem?_eq_getElem hlt⟩
        have hmem := List.mem_of_getElem? hmk
        obtain ⟨m1, m2, m3, m4⟩ := hmw _ hmem
        simp only at m1 m2 m3 m4
        rcases hm with ⟨h, _⟩ | ⟨ib, cb, rowb, rob, parb, gsb, e0, hrb, helb⟩
        · rw [h] at hlt; simp at hlt
        injection e0 with e1 e2 e3
        subst e1; subst e3
        have xib := hK.get hrb (by simp)
        have xibl := AHeap.get_lt xib
        obtain ⟨e1, e2⟩ := helb k _ hmk
        have hz : (0 : Int) ≤ (k : Int) := by omega
        have hd : (k : Int) < (marks.length : Int) := by omega
        have hw : IntKind.wrap .i64 ((k : Int) + 1) = ((k + 1 : Nat) : Int) := by rw [wrap64] <;> omega
        have wa : IntKind.wrap .i64 ma = ma := by rw [wrap64] <;> omega
        have wb : IntKind.wrap .i64 mb = mb := by rw [wrap64] <;> omega
        have hX : ∀ o o2 : AObj, Keeps [] H ((X.new o).set X.next o2) := fun o o2 => (hK.new' o).set' (by omega) (by simp)
        have hs : marksErr regs (marks.take k) (marks.drop k) = if (regs.length : Int) ≤ ma ∨ mb < 1 ∨ (regs.getD ma.toNat zeroReg).nodes < mb then 27 else if ((marks.take k).any fun x => (ma == x.1) && (mb == x.2)) = true then 29 else marksErr regs (marks.take (k + 1)) (marks.drop (k + 1)) := by
          rw [drop_at hmk, List.take_add_one, hmk]; rfl
        have ne1 : ia ≠ X.next := by omega
        have ne2 : ib ≠ X.next := by omega
        simp only [go_sem, Nat.reduceLT, Nat.reduceEqDiff, ↓reduceIte, Nat.reduceAdd, Nat.zero_add, Nat.add_zero, Nat.reduceLeDiff, Int.reduceEq, Nat.reduceMul, List.take_zero, List.drop_succ_cons, List.drop_zero, List.nil_append, List.append_nil, List.drop_nil, List.take_succ_cons, List.take_nil, List.cons_append, Int.toNat_natCast, Int.toNat_zero, Int.toNat_one, t0, t1, t9, xib, hz, hd, e1, e2, mkC]
        refine codeW_any (cxS_ok s21_ok) inf21_27 (by kernel_rfl) fun _ => ?_
        by_cases d1 : (regs.length : Int) ≤ ma
        · have hv : newErr regs marks = 27 := by rw [hv0, hE, hs, if_pos (.inl d1)]
          simp only [inf21_27, go_sem, Nat.reduceLT, Nat.reduceEqDiff, ↓reduceIte, Nat.reduceAdd, Nat.zero_add, Nat.add_zero, Nat.reduceLeDiff, Int.reduceEq, Nat.reduceMul, List.take_zero, List.drop_succ_cons, List.drop_zero, List.nil_append, List.append_nil, List.drop_nil, List.take_succ_cons, List.take_nil, List.cons_append, Int.toNat_natCast, Int.toNat_zero, Int.toNat_one, t0, t1, t9, xib, xia, xil, hz, hd, e1, e2, mkC, wa, wb, d1, hv, hX]
        by_cases d2 : mb = 0
        · have hv : newErr regs marks = 27 := by rw [hv0, hE, hs, if_pos (.inr (.inl (by omega)))]
          simp only [inf21_27, go_sem, Nat.reduceLT, Nat.reduceEqDiff, ↓reduceIte, Nat.reduceAdd, Nat.zero_add, Nat.add_zero, Nat.reduceLeDiff, Int.reduceEq, Nat.reduceMul, List.take_zero, List.drop_succ_cons, List.drop_zero, List.nil_append, List.append_nil, List.drop_nil, List.take_succ_cons, List.take_nil, List.cons_append, Int.toNat_natCast, Int.toNat_zero, Int.toNat_one, t0, t1, t9, xib, xia, xil, hz, hd, e1, e2, mkC, wa, wb, d1, d2, hv, hX]
        obtain ⟨q, rfl⟩ : ∃ q : Nat, ma = q := ⟨ma.toNat, by omega⟩
        obtain ⟨u, hu⟩ : ∃ u, regs[q]? = some u := ⟨_, List.getElem?_eq_getElem (by omega)⟩
        have hgu : regs.getD (q : Int).toNat zeroReg = u := by simp [List.getD_eq_getElem?_getD, hu]
        have hnd : row[q * 9 + 4]? = some (.int .i64 u.nodes) := hel.cell q 4 u hu (by omega)
        have hzq : (0 : Int) ≤ (q : Int) := by omega
        have hdq : (q : Int) < (regs.length : Int) := by omega
        rw [hgu] at hs
        by_cases d3 : u.nodes < mb
        · have hv : newErr regs marks = 27 := by rw [hv0, hE, hs, if_pos (.inr (.inr d3))]
          simp only [inf21_27, go_sem, Nat.reduceLT, Nat.reduceEqDiff, ↓reduceIte, Nat.reduceAdd, Nat.zero_add, Nat.add_zero, Nat.reduceLeDiff, Int.reduceEq, Nat.reduceMul, List.take_zero, List.drop_succ_cons, List.drop_zero, List.nil_append, List.append_nil, List.drop_nil, List.take_succ_cons, List.take_nil, List.cons_append, Int.toNat_natCast, Int.toNat_zero, Int.toNat_one, t0, t1, t9, xib, xia, xil, hz, hd, e1, e2, mkC, wa, wb, d1, d2, d3, hzq, hdq, hnd, ne1, hv, hX]
        rw [if_neg (by omega)] at hs
        simp only [inf21_27, go_sem, Nat.reduceLT, Nat.reduceEqDiff, ↓reduceIte, Nat.reduceAdd, Nat.zero_add, Nat.add_zero, Nat.reduceLeDiff, Int.reduceEq, Nat.reduceMul, List.take_zero, List.drop_succ_cons, List.drop_zero, List.nil_append, List.append_nil, List.drop_nil, List.take_succ_cons, List.take_nil, List.cons_append, Int.toNat_natCast, Int.toNat_zero, Int.toNat_one, t0, t1, t9, xib, xia, xil, hz, hd, e1, e2, mkC, wa, wb, d1, d2, d3, hzq, hdq, hnd, ne1]
        have hY : Keeps [] X ((X.new (.cells [.int .u8 0, .int .u16 0] false [] 0)).set X.next (.cells [.int .u8 (q : Int), .int .u16 mb] false [] 0)) := ((Keeps.refl [] X).new' _).set' (by omega) (by simp)
        refine codeW_loop (fun nn τ Y => ∃ j : Nat, nn = k - j ∧ j ≤ k ∧ tget τ 0 = .slice (some ⟨ia, 0, none⟩) regs.length ca ∧ tget τ 1 = .slice (some ⟨ib, 0, none⟩) marks.length cm ∧ tget τ 9 = .int .i64 (k : Nat) ∧ tget τ 10 = .pointer (some ⟨X.next, 0, none⟩) ∧ tget τ 11 = .int .i64 (j : Nat) ∧ Keeps [] X Y ∧ Y.get X.next = some (.cells [.int .u8 (q : Int), .int .u16 mb] false [] 0) ∧
          ((marks.take j).any fun x => ((q : Int) == x.1) && (mb == x.2)) = false) (n := k) ⟨0, rfl, Nat.zero_le _, ?_, ?_, ?_, ?_, ?_, hY, ?_, rfl⟩ ?_
        · simp only [go_sem, Nat.reduceLT, Nat.reduceEqDiff, ↓reduceIte, Nat.reduceAdd, Nat.zero_add, Nat.add_zero, Nat.reduceLeDiff, Int.reduceEq, Nat.reduceMul, t0]
        · simp only [go_sem, Nat.reduceLT, Nat.reduceEqDiff, ↓reduceIte, Nat.reduceAdd, Nat.zero_add, Nat.add_zero, Nat.reduceLeDiff, Int.reduceEq, Nat.reduceMul, t1]
        · simp only [go_sem, Nat.reduceLT, Nat.reduceEqDiff, ↓reduceIte, Nat.reduceAdd, Nat.zero_add, Nat.add_zero, Nat.reduceLeDiff, Int.reduceEq, Nat.reduceMul, t9]
        · simp only [go_sem, Nat.reduceLT, Nat.reduceEqDiff, ↓reduceIte, Nat.reduceAdd, Nat.zero_add, Nat.add_zero, Nat.reduceLeDiff, Int.reduceEq, Nat.reduceMul]
        · simp only [go_sem, Nat.reduceLT, Nat.reduceEqDiff, ↓reduceIte, Nat.reduceAdd, Nat.zero_add, Nat.add_zero, Nat.reduceLeDiff, Int.reduceEq, Nat.reduceMul]; rfl
        · simp only [go_sem, Nat.reduceLT, Nat.reduceEqDiff, ↓reduceIte, Nat.reduceAdd, Nat.zero_add, Nat.add_zero, Nat.reduceLeDiff, Int.reduceEq, Nat.reduceMul]
        clear hY t0 t1 t9
        rintro nn τ Y ⟨j, rfl, hj, t0, t1, t9, t10, t11, hXY, yr, hno⟩
        have yib := hXY.get xib (by simp)
        have yibl := AHeap.get_lt yib
        have yrl := AHeap.get_lt yr
        have hKY := hK.trans hXY
        by_cases hjk : j < k
        · obtain ⟨⟨xa, xb⟩, hxj⟩ : ∃ x, marks[j]? = some x := ⟨_, List.getElem?_eq_getElem (by omega)⟩
          have hdj : (j : Int) < (k : Int) := by omega
          have hdn : (j : Int) < (marks.length : Int) := by omega
          have hzj : (0 : Int) ≤ (j : Int) := by omega
          have hwj : IntKind.wrap .i64 ((j : Int) + 1) = ((j + 1 : Nat) : Int) := by rw [wrap64] <;> omega
          obtain ⟨x1, x2⟩ := helb j _ hxj
          have hnj : marks.take (j + 1) = marks.take j ++ [(xa, xb)] := by rw [List.take_add_one, hxj]; rfl
          have hsym : ((xa == (q : Int)) && (xb == mb)) = (((q : Int) == xa) && (mb == xb)) := by
            have e2 : (xa == (q : Int)) = ((q : Int) == xa) := by rw [Bool.eq_iff_iff, beq_iff_eq, beq_iff_eq]; exact eq_comm
            have e3 : (xb == mb) = (mb == xb) := by rw [Bool.eq_iff_iff, beq_iff_eq, beq_iff_eq]; exact eq_comm
            rw [e2, e3]
          have hmm : ∀ b, ((xa == (q : Int)) && (xb == mb)) = b → ((marks.take (j + 1)).any fun x => ((q : Int) == x.1) && (mb == x.2)) = b := fun b hb => by
            rw [hnj, List.any_append, hno, Bool.false_or, List.any_cons, List.any_nil, Bool.or_false, ← hsym, hb]
          simp only [go_sem, Nat.reduceLT, Nat.reduceEqDiff, ↓reduceIte, Nat.reduceAdd, Nat.zero_add, Nat.add_zero, Nat.reduceLeDiff, Int.reduceEq, Nat.reduceMul, List.take_zero, List.drop_succ_cons, List.drop_zero, List.nil_append, List.append_nil, List.drop_nil, List.take_succ_cons, List.take_nil, List.cons_append, Int.toNat_natCast, Int.toNat_zero, Int.toNat_one, t0, t1, t9, t10, t11, hdj]
          refine codeW_any (cxS_ok s21_ok) inf21_32 (by kernel_rfl) fun _ => ?_
          cases m5 : ((xa == (q : Int)) && (xb == mb))
          · simp only [inf21_32, go_sem, Nat.reduceLT, Nat.reduceEqDiff, ↓reduceIte, Nat.reduceAdd, Nat.zero_add, Nat.add_zero, Nat.reduceLeDiff, Int.reduceEq, Nat.reduceMul, List.take_zero, List.drop_succ_cons, List.drop_zero, List.nil_append, List.append_nil, List.drop_nil, List.take_succ_cons, List.take_nil, List.cons_append, Int.toNat_natCast, Int.toNat_zero, Int.toNat_one, t0, t1, t9, t10, t11, yib, yr, yibl, yrl, hdn, hzj, x1, x2, mkC, eql48, m5, hwj, ne2]
            exact ⟨k - (j + 1), by omega, j + 1, rfl, by omega, rfl, hXY, hmm false m5⟩
          · have hv : newErr regs marks = 29 := by
              rw [hv0, hE, hs, if_pos]
              have h1 := hmm true m5
              rw [List.any_eq_true] at h1 ⊢
              obtain ⟨y, hy, h3⟩ := h1
              exact ⟨y, (List.take_sublist_take_left (show j + 1 ≤ k by omega)).subset hy, h3⟩
            simp only [inf21_32, go_sem, Nat.reduceLT, Nat.reduceEqDiff, ↓reduceIte, Nat.reduceAdd, Nat.zero_add, Nat.add_zero, Nat.reduceLeDiff, Int.reduceEq, Nat.reduceMul, List.take_zero, List.drop_succ_cons, List.drop_zero, List.nil_append, List.append_nil, List.drop_nil, List.take_succ_cons, List.take_nil, List.cons_append, Int.toNat_natCast, Int.toNat_zero, Int.toNat_one, t0, t1, t9, t10, t11, yib, yr, yibl, yrl, hdn, hzj, x1, x2, mkC, eql48, m5, hwj, ne2, hv, hKY]
        · obtain rfl : j = k := by omega
          have hdj : ¬ ((j : Int) < (j : Int)) := by omega
          rw [if_neg (by rw [hno]; simp)] at hs
          simp only [go_sem, Nat.reduceLT, Nat.reduceEqDiff, ↓reduceIte, Nat.reduceAdd, Nat.zero_add, Nat.add_zero, Nat.reduceLeDiff, Int.reduceEq, Nat.reduceMul, List.take_zero, List.drop_succ_cons, List.drop_zero, List.nil_append, List.append_nil, List.drop_nil, List.take_succ_cons, List.take_nil, List.cons_append, Int.toNat_natCast, Int.toNat_zero, Int.toNat_one, t0, t1, t9, t10, t11, hdj, hw]
          exact ⟨marks.length - (j + 1), by omega, j + 1, rfl, hlt, rfl, hKY, by rw [hE, hs]⟩
      · obtain rfl : k = marks.length := by omega
        have hd : ¬ ((marks.length : Int) < (marks.length : Int)) := by omega
        rw [List.drop_length] at hE
        have hv : newErr regs marks = 0 := by rw [hv0, hE]; rfl
        simp only [go_sem, Nat.reduceLT, Nat.reduceEqDiff, ↓reduceIte, Nat.reduceAdd, Nat.zero_add, Nat.add_zero, Nat.reduceLeDiff, Int.reduceEq, Nat.reduceMul, List.take_zero, List.drop_succ_cons, List.drop_zero, List.nil_append, List.append_nil, List.drop_nil, List.take_succ_cons, List.take_nil, List.cons_append, Int.toNat_natCast, Int.toNat_zero, Int.toNat_one, t0, t1, t9, hd, hv, hK]
end Go.Proofs.YtkjclebafpomhaaDoor
set_option linter.unusedVariables false
set_option linter.unusedSimpArgs false
set_option maxRecDepth 100000
namespace Go.Proofs.YtkjclebafpomhaaDoor
open Go Go.Eng

def fdI (nm : String) (ty off bo : Nat) : Field := { name := nm, type := ty, offset := off, embedded := false, tag := "", pkgPath := "", byteOffset := bo }
theorem und38 : Tryd.prog.underlying 38 = some (.struct #[fdI "Name" 9 0 0, fdI "Label" 36 1 16, fdI "Blocks" 3 3 24, fdI "Nodes" 3 4 32, fdI "Frames" 3 5 40, fdI "Procs" 3 6 48, fdI "Opens" 3 7 56, fdI "Clear" 3 8 64]) := by kernel_rfl
theorem und117 : Tryd.prog.underlying 117 = some (.struct #[fdI "Base" 3 0 0, fdI "Bitmap" 3 1 8, fdI "Table" 3 2 16, fdI "Data" 3 3 24, fdI "Blocks" 3 4 32, fdI "Nodes" 3 5 40]) := by kernel_rfl
theorem stood38 : Tryd.prog.stoodInHeld 38 = false := by kernel_rfl
theorem stood117 : Tryd.prog.stoodInHeld 117 = false := by kernel_rfl
theorem und3 : Tryd.prog.underlying 3 = some (.int .i64) := by kernel_rfl
theorem und9 : Tryd.prog.underlying 9 = some .string := by kernel_rfl
theorem eqI (d : Nat) (a : Int) : prun Tryd.prog (Op.equalIn (d + 1) 3 (.int .i64 a) (.int .i64 a)) = some true := by
  rw [eqInt d 3 .i64 .i64 a a und3]; simp
theorem eqS (d : Nat) (a : ByteArray) : prun Tryd.prog (Op.equalIn (d + 1) 9 (.string a) (.string a)) = some true := by
  unfold Op.equalIn
  simp only [prun_bind, prun_underlying und9, Option.bind_some]
  have : (a == a) = true := by rw [bytes_beq]; simp
  rw [this]; rfl
theorem eqL (d : Nat) (a b : Int) : prun Tryd.prog (Op.equalIn (d + 2) 36 (.agg #[.int .u8 a, .int .u16 b]) (.agg #[.int .u8 a, .int .u16 b])) = some true := by
  unfold Op.equalIn
  simp only [prun_bind, prun_underlying und36, Option.bind_some, prun_program, stood36]
  simp only [Bool.false_eq_true, if_false, List.forIn_toArray, List.forIn_cons, List.forIn_nil, prun_bind]
  have n1 : ("Level" ≠ "_") = True := by simp
  have n2 : ("Cats" ≠ "_") = True := by simp
  have e1 : prun Tryd.prog (Op.equalIn (d + 1) 5 (.int .u8 a) (.int .u8 a)) = some true := by rw [eqInt d 5 .u8 .u8 a a und5]; simp
  have e2 : prun Tryd.prog (Op.equalIn (d + 1) 34 (.int .u16 b) (.int .u16 b)) = some true := by rw [eqInt d 34 .u16 .u16 b b und34]; simp
  simp only [n1, n2, if_true, prun_bind, part_at 5 _ und5 #[Value.int IntKind.u8 a, Value.int IntKind.u16 b] 0 (.int .u8 a) rfl, part_at 34 _ und34 #[Value.int IntKind.u8 a, Value.int IntKind.u16 b] 1 (.int .u16 b) rfl, Option.bind_some, e1, e2, Bool.not_true, Bool.false_eq_true, if_false, prun_pure]
theorem part9 (l : Array Value) (o : Nat) (v : Value) (h : l[o]? = some v) : prun Tryd.prog (part 9 l o) = some v := by
  unfold part isAgg
  simp only [prun_bind, prun_underlying und9, Option.bind_some]
  rw [h]
  rfl
theorem part36 (nm : ByteArray) (a b c d e f g h : Int) : prun Tryd.prog (part 36 #[.string nm, .int .u8 a, .int .u16 b, .int .i64 c, .int .i64 d, .int .i64 e, .int .i64 f, .int .i64 g, .int .i64 h] 1) = some (.agg #[.int .u8 a, .int .u16 b]) := by kernel_rfl
theorem eqR (nm : ByteArray) (a b c d e f g h : Int) : prun Tryd.prog (Op.equal 38 (.agg #[.string nm, .int .u8 a, .int .u16 b, .int .i64 c, .int .i64 d, .int .i64 e, .int .i64 f, .int .i64 g, .int .i64 h]) (.agg #[.string nm, .int .u8 a, .int .u16 b, .int .i64 c, .int .i64 d, .int .i64 e, .int .i64 f, .int .i64 g, .int .i64 h])) = some true := by
  show prun Tryd.prog (Op.equalIn 10000 38 _ _) = _
  unfold Op.equalIn
  simp only [prun_bind, prun_underlying und38, Option.bind_some, prun_program, stood38]
  simp only [Bool.false_eq_true, if_false, List.forIn_toArray, List.forIn_cons, List.forIn_nil, prun_bind, fdI]
  have n1 : ("Name" ≠ "_") = True := by simp
  have n2 : ("Label" ≠ "_") = True := by simp
  have n3 : ("Blocks" ≠ "_") = True := by simp
  have n4 : ("Nodes" ≠ "_") = True := by simp
  have n5 : ("Frames" ≠ "_") = True := by simp
  have n6 : ("Procs" ≠ "_") = True := by simp
  have n7 : ("Opens" ≠ "_") = True := by simp
  have n8 : ("Clear" ≠ "_") = True := by simp
  have p : ∀ (o : Nat) (v : Int), (#[Value.string nm, .int .u8 a, .int .u16 b, .int .i64 c, .int .i64 d, .int .i64 e, .int .i64 f, .int .i64 g, .int .i64 h] : Array Value)[o]? = some (.int .i64 v) → prun Tryd.prog (part 3 #[Value.string nm, .int .u8 a, .int .u16 b, .int .i64 c, .int .i64 d, .int .i64 e, .int .i64 f, .int .i64 g, .int .i64 h] o) = some (.int .i64 v) := fun o v hv => part_at 3 _ und3 _ _ _ hv
  have p9 := part9 #[Value.string nm, .int .u8 a, .int .u16 b, .int .i64 c, .int .i64 d, .int .i64 e, .int .i64 f, .int .i64 g, .int .i64 h] 0 (.string nm) rfl
  simp only [n1, n2, n3, n4, n5, n6, n7, n8, if_true, prun_bind, p9, part36, p 3 c rfl, p 4 d rfl, p 5 e rfl, p 6 f rfl, p 7 g rfl, p 8 h rfl, Option.bind_some, eqS 9998, eqL 9997, eqI 9998, Bool.not_true, Bool.false_eq_true, if_false, prun_pure]
theorem eqG (a b c d e f : Int) : prun Tryd.prog (Op.equal 117 (.agg #[.int .i64 a, .int .i64 b, .int .i64 c, .int .i64 d, .int .i64 e, .int .i64 f]) (.agg #[.int .i64 a, .int .i64 b, .int .i64 c, .int .i64 d, .int .i64 e, .int .i64 f])) = some true := by
  show prun Tryd.prog (Op.equalIn 10000 117 _ _) = _
  unfold Op.equalIn
  simp only [prun_bind, prun_underlying und117, Option.bind_some, prun_program, stood117]
  simp only [Bool.false_eq_true, if_false, List.forIn_toArray, List.forIn_cons, List.forIn_nil, prun_bind, fdI]
  have n1 : ("Base" ≠ "_") = True := by simp
  have n2 : ("Bitmap" ≠ "_") = True := by simp
  have n3 : ("Blocks" ≠ "_") = True := by simp
  have n4 : ("Nodes" ≠ "_") = True := by simp
  have n5 : ("Table" ≠ "_") = True := by simp
  have n6 : ("Data" ≠ "_") = True := by simp
  have p : ∀ (o : Nat) (v : Int), (#[Value.int .i64 a, .int .i64 b, .int .i64 c, .int .i64 d, .int .i64 e, .int .i64 f] : Array Value)[o]? = some (.int .i64 v) → prun Tryd.prog (part 3 #[Value.int .i64 a, .int .i64 b, .int .i64 c, .int .i64 d, .int .i64 e, .int .i64 f] o) = some (.int .i64 v) := fun o v hv => part_at 3 _ und3 _ _ _ hv
  simp only [n1, n2, n3, n4, n5, n6, if_true, prun_bind, p 0 a rfl, p 1 b rfl, p 2 c rfl, p 3 d rfl, p 4 e rfl, p 5 f rfl, Option.bind_some, eqI 9998, Bool.not_true, Bool.false_eq_true, if_false, prun_pure]
theorem guard_none {t : TypeId} {op : BinOp} {ox oy : Operand} {x y : Array Value} (h : Tryd.prog.eqGuardType Tryd.prog.depth t = false) : prun Tryd.prog (eqGuard op t ox oy (.agg x) (.agg y)) = some () := by
  unfold eqGuard
  cases op <;> simp [h]
theorem neq38 (ox oy : Operand) (H : AHeap) (nm : ByteArray) (a b c d e f g h : Int) : aBinF Tryd.prog tb .neq 38 ox oy (.agg #[.string nm, .int .u8 a, .int .u16 b, .int .i64 c, .int .i64 d, .int .i64 e, .int .i64 f, .int .i64 g, .int .i64 h]) (.agg #[.string nm, .int .u8 a, .int .u16 b, .int .i64 c, .int .i64 d, .int .i64 e, .int .i64 f, .int .i64 g, .int .i64 h]) H = some (.bool false) := by
  refine aBin_eq H .neq rfl rfl (guard_none (by kernel_rfl)) ?_
  have h2 : ∀ x y, binOp .neq 38 (.agg x) (.agg y) = (do pure (.bool (!(← Op.equal 38 (.agg x) (.agg y))))) := fun _ _ => rfl
  rw [h2]
  simp only [prun_bind, eqR, Option.bind_some, prun_pure]
  rfl
theorem neq117 (ox oy : Operand) (H : AHeap) (a b c d e f : Int) : aBinF Tryd.prog tb .neq 117 ox oy (.agg #[.int .i64 a, .int .i64 b, .int .i64 c, .int .i64 d, .int .i64 e, .int .i64 f]) (.agg #[.int .i64 a, .int .i64 b, .int .i64 c, .int .i64 d, .int .i64 e, .int .i64 f]) H = some (.bool false) := by
  refine aBin_eq H .neq rfl rfl (guard_none (by kernel_rfl)) ?_
  have h2 : ∀ x y, binOp .neq 117 (.agg x) (.agg y) = (do pure (.bool (!(← Op.equal 117 (.agg x) (.agg y))))) := fun _ _ => rfl
  rw [h2]
  simp only [prun_bind, eqG, Option.bind_some, prun_pure]
  rfl

/-! ### Leq, as a specification -/
def leqRow (row : List Value) (a b : Nat) : Option Bool := match row[a * 9 + 1]?, row[a * 9 + 2]?, row[b * 9 + 1]?, row[b * 9 + 2]? with
  | some (.int .u8 p), some (.int .u16 q), some (.int .u8 u), some (.int .u16 v) => some (leqB p q u v)
  | _, _, _, _ => none
def F45 : Spec := fun vs H => match vs with
  | [.pointer (some ⟨i, 0, none⟩), .int .i64 a, .int .i64 b] => match H.get i with
    | some (.cells (.slice (some ⟨ir, 0, none⟩) n c :: l) _ _ _) => match H.get ir with
      | some (.cells row _ _ _) => if 0 ≤ a ∧ a < n ∧ 0 ≤ b ∧ b < n then (leqRow row a.toNat b.toNat).map fun r => (.bool r, H) else none
      | _ => none
    | _ => none
  | _ => none
theorem sp45 : SpOK 45 F45 := by
  refine .of (fn := Tryd.f45) (by kernel_rfl) (by kernel_rfl) ?_
  intro vs H v H' h
  unfold F45 at h
  split at h
  case h_2 => cases h
  rename_i i a b
  split at h
  case h_2 => cases h
  rename_i ir n c l ro par gs hi
  split at h
  case h_2 => cases h
  rename_i row ro2 par2 gs2 hir
  split at h
  case isFalse => cases h
  rename_i hab
  obtain ⟨p, rfl⟩ : ∃ p : Nat, a = p := ⟨a.toNat, by omega⟩
  obtain ⟨q, rfl⟩ : ∃ q : Nat, b = q := ⟨b.toNat, by omega⟩
  obtain ⟨r, hr, h⟩ := Option.map_eq_some_iff.1 h
  injection h with h1 h2
  subst h1; subst h2
  unfold leqRow at hr
  simp only [Int.toNat_natCast] at hr
  split at hr
  case h_2 => cases hr
  rename_i p1 p2 q1 q2 g1 g2 g3 g4
  injection hr with hr
  subst hr
  have two : ∀ (k : Nat) (x y : Value), row[k]? = some x → row[k + 1]? = some y → (row.drop k).take 2 = [x, y] ∧ k + 2 ≤ row.length := fun k x y hx hy => by
    obtain ⟨l1, rfl⟩ := List.getElem?_eq_some_iff.1 hx
    obtain ⟨l2, rfl⟩ := List.getElem?_eq_some_iff.1 hy
    refine ⟨?_, by omega⟩
    rw [List.drop_eq_getElem_cons l1, List.drop_eq_getElem_cons l2]
    rfl
  obtain ⟨e1, e2⟩ := two _ _ _ g1 g2
  obtain ⟨e3, e4⟩ := two _ _ _ g3 g4
  refine walk s3_ok (fn := Tryd.f45) (by kernel_rfl) (c := Tryd.f45.body.get (by kernel_rfl)) (by kernel_rfl) (by simp [Tryd.f45]) ?_
  simp only [Tryd.f45, Option.get]
  have hl : F17 [.pointer (some ⟨i, 0, none⟩)] H = some (.int .i64 n, H) := F17_ptr (a := some ⟨ir, 0, none⟩) (c := c) (by rw [hi]; rfl)
  have hh : ∀ k : Int, F41 [.pointer (some ⟨i, 0, none⟩), .int .i64 k] H = some (.bool (decide (0 ≤ k) && decide (k < n)), H) := fun k => F41_eq hl
  have hb1 : (decide (0 ≤ (p : Int)) && decide ((p : Int) < (n : Int))) = true := by simp; omega
  have hb2 : (decide (0 ≤ (q : Int)) && decide ((q : Int) < (n : Int))) = true := by simp; omega
  have hi1 : (0 ≤ (p : Int) ∧ (p : Int) < (n : Int)) = True := by simp; omega
  have hi2 : (0 ≤ (q : Int) ∧ (q : Int) < (n : Int)) = True := by simp; omega
  simp only [go_sem, Nat.reduceLT, Nat.reduceEqDiff, ↓reduceIte, Nat.reduceAdd, Nat.zero_add, Nat.add_zero, Nat.reduceLeDiff, Int.reduceEq, Nat.reduceMul, List.take_zero, List.drop_succ_cons, List.drop_zero, List.nil_append, List.append_nil, List.drop_nil, List.take_succ_cons, List.take_nil, List.cons_append, Int.toNat_natCast, Int.toNat_zero, Int.toNat_one]
  refine codeW_any (cxS_ok s3_ok) inf45_1 (by kernel_rfl) fun _ => ?_
  simp only [inf45_1, go_sem, Nat.reduceLT, Nat.reduceEqDiff, ↓reduceIte, Nat.reduceAdd, Nat.zero_add, Nat.add_zero, Nat.reduceLeDiff, Int.reduceEq, Nat.reduceMul, List.take_zero, List.drop_succ_cons, List.drop_zero, List.nil_append, List.append_nil, List.drop_nil, List.take_succ_cons, List.take_nil, List.cons_append, Int.toNat_natCast, Int.toNat_zero, Int.toNat_one, s3_41, s3_94, callS_cxS, hh, hb1, hb2, hi, hir, hi1, hi2, e1, e2, e3, e4, F94_eq]
end Go.Proofs.YtkjclebafpomhaaDoor
set_option linter.unusedVariables false
set_option linter.unusedSimpArgs false
set_option maxRecDepth 100000
namespace Go.Proofs.YtkjclebafpomhaaDoor
open Go Go.Eng
def inf22_11 : Info := [([12], [], false), ([82], [], false), ([83], [], false), ([14, 84], [], false), ([85, 84], [], false), ([84, 86], [], false), ([87], [], false), ([16, 88], [], false), ([89, 88], [], false), ([88, 90], [], false), ([91], [], false), ([18, 92], [], false), ([93, 92], [], false), ([92, 94], [], false), ([95], [], false), ([11, 96], [], false), ([10, 96], [15], false), ([97, 98, 96], [], false), ([96, 99], [], false), ([100], [], false), ([13, 101], [], false), ([7, 101], [20], false), ([9, 101], [20, 21], false), ([103, 104, 101], [20], false), ([105, 101], [20], false), ([102, 106, 101], [], false), ([101, 107], [], false), ([108], [], false), ([15, 109], [], false), ([9, 109], [28], false), ([110, 111, 109], [], false), ([109, 112], [], false), ([113], [], false), ([17, 114], [], false), ([9, 114], [33], false), ([115, 116, 114], [], false), ([114, 117], [], false)]
def inf22_16 : Info := [([0], [], false), ([9], [0], false), ([19], [0, 1], false), ([124, 125, 126], [], true), ([10], [0, 1, 2, 3], false), ([128], [0, 1, 2, 3], false), ([1], [0, 1, 2, 3, 4, 5], false), ([19], [0, 1, 2, 3, 4, 5, 6], false), ([130, 131], [0, 1, 2, 3, 4, 5], false), ([132], [0, 1, 2, 3, 4, 5], false), ([133], [0, 1, 2, 3, 4, 5], false), ([129, 134], [], false), ([127, 135], [], false)]

def s22 : Specs := spAdd (spAdd (spAdd (spAdd sp0 17 F17) 14 F14) 45 F45) 47 F47
theorem s22_17 : s22 17 = some F17 := id rfl
theorem s22_14 : s22 14 = some F14 := id rfl
theorem s22_45 : s22 45 = some F45 := id rfl
theorem s22_47 : s22 47 = some F47 := id rfl
theorem s22_48 : s22 48 = none := id rfl
theorem s22_49 : s22 49 = none := id rfl
theorem s22_50 : s22 50 = none := id rfl
theorem s22_16 : s22 16 = none := id rfl
theorem s22_40 : s22 40 = none := id rfl
theorem s22_51 : s22 51 = none := id rfl
theorem s22_52 : s22 52 = none := id rfl
theorem s22_53 : s22 53 = none := id rfl
theorem s22_ok : SpsOK s22 := spAdd_ok (spAdd_ok (spAdd_ok (spAdd_ok sp0_ok sp17) sp14) sp45) sp47

theorem IsConf.tot {H : AHeap} {i ir ig : Nat} {regs : List RegD} {geos : List GeoD} {total : Int} (h : IsConf H i ir ig regs geos total) : F14 [.pointer (some ⟨i, 0, none⟩)] H = some (.int .i64 total, H) := by
  obtain ⟨cr, t, m, n, l, cg, ro, par, gs, hrow⟩ := h.row
  exact F14_ptr (by rw [hrow]; rfl)
theorem spot_first {α : Type} {eq : α → Bool} : ∀ (l : List α) (i k : Nat) (a : α), l[k]? = some a → eq a = true → (∀ j b, j < k → l[j]? = some b → eq b = false) → spot eq l i = some (i + k) := by
  intro l
  induction l with
  | nil => intro i k a h; simp at h
  | cons x l ih =>
    intro i k a h he hn
    cases k with
    | zero => simp at h; subst h; simp only [spot, he, if_true]; rfl
    | succ k =>
      have hx := hn 0 x (by omega) rfl
      simp only [spot, hx, Bool.false_eq_true, if_false]
      rw [ih (i + 1) k a (by simpa using h) he fun j b hj hb => hn (j + 1) b (by omega) (by simpa using hb)]
      congr 1; omega
theorem regV_at {regs : List RegD} {k : Nat} {r : RegD} (h : regs[k]? = some r) : regV regs (k : Int) = .tuple #[.agg r.cells.toArray, .bool true] := by
  have := (List.getElem?_eq_some_iff.1 h).1
  unfold regV; rw [if_pos (by omega)]; simp [List.getD_eq_getElem?_getD, h]
theorem geoV_at {geos : List GeoD} {k : Nat} {g : GeoD} (h : geos[k]? = some g) : geoV geos (k : Int) = .tuple #[.agg g.cells.toArray, .bool true] := by
  have := (List.getElem?_eq_some_iff.1 h).1
  unfold geoV; rw [if_pos (by omega)]; simp [List.getD_eq_getElem?_getD, h]
theorem neqB (ox oy : Operand) (H : AHeap) (c d : Bool) : aBinF Tryd.prog tb .neq 4 ox oy (.bool c) (.bool d) H = some (.bool (!(c == d))) := by
  cases c <;> cases d <;> kernel_rfl
theorem marks_ok {regs : List RegD} : ∀ (l d : List (Int × Int)), marksErr regs d l = 0 → ∀ m ∈ l, m.1 < regs.length ∧ 1 ≤ m.2 ∧ m.2 ≤ (regs.getD m.1.toNat zeroReg).nodes := by
  intro l
  induction l with
  | nil => intro d _ m hm; cases hm
  | cons a l ih =>
    intro d h m hm
    simp only [marksErr] at h
    split at h
    · omega
    · rename_i h1
      split at h
      · omega
      · rcases List.mem_cons.1 hm with rfl | hm
        · omega
        · exact ih _ h m hm
theorem newErr_zero {regs : List RegD} {marks : List (Int × Int)} (h : newErr regs marks = 0) : (1 ≤ regs.length ∧ regs.length ≤ 64) ∧ addsErr regs.length [] regs = 0 ∧ marksErr regs [] marks = 0 := by
  unfold newErr at h
  split at h
  · omega
  rename_i h1
  split at h
  · rename_i h2; exact absurd h h2
  rename_i h2
  split at h
  · omega
  split at h
  · omega
  exact ⟨by omega, by simpa using h2, h⟩
theorem F45_at {E : AHeap} {i ir n c a b : Nat} {l row : List Value} {ro ro2 : Bool} {par par2 : List Nat} {gs gs2 : Nat} {r u : RegD} {regs : List RegD} (hi : E.get i = some (.cells (.slice (some ⟨ir, 0, none⟩) n c :: l) ro par gs)) (hir : E.get ir = some (.cells row ro2 par2 gs2))
    (hel : Elems RegD.cells 9 row regs) (ha : regs[a]? = some r) (hb : regs[b]? = some u) (hn : regs.length = n) : F45 [.pointer (some ⟨i, 0, none⟩), .int .i64 (a : Nat), .int .i64 (b : Nat)] E = some (.bool (leqB r.lev r.cats u.lev u.cats), E) := by
  have h1 := (List.getElem?_eq_some_iff.1 ha).1
  have h2 := (List.getElem?_eq_some_iff.1 hb).1
  have g1 : row[a * 9 + 1]? = some (.int .u8 r.lev) := hel.cell a 1 r ha (by omega)
  have g2 : row[a * 9 + 2]? = some (.int .u16 r.cats) := hel.cell a 2 r ha (by omega)
  have g3 : row[b * 9 + 1]? = some (.int .u8 u.lev) := hel.cell b 1 u hb (by omega)
  have g4 : row[b * 9 + 2]? = some (.int .u16 u.cats) := hel.cell b 2 u hb (by omega)
  unfold F45
  simp only [hi, hir]
  rw [if_pos (by omega)]
  simp only [leqRow, Int.toNat_natCast, g1, g2, g3, g4, Option.map_some]
theorem loc45 {Y : AHeap} {i ir ig a b : Nat} {r u : RegD} {regs : List RegD} {geos : List GeoD} {total : Int} (hC : IsConf Y i ir ig regs geos total) (ha : regs[a]? = some r) (hb : regs[b]? = some u) :
    Local (callS (cxS s22) 45 [.pointer (some ⟨i, 0, none⟩), .int .i64 (a : Nat), .int .i64 (b : Nat)]) Y (reach [.pointer (some ⟨i, 0, none⟩), .int .i64 (a : Nat), .int .i64 (b : Nat)] Y) [] (.bool (leqB r.lev r.cats u.lev u.cats)) Y = True := by
  rw [eq_iff_iff, iff_true]
  obtain ⟨cr, t, m, n, l, cg, ro, par, gs, hrow⟩ := hC.row
  obtain ⟨ro2, par2, gs2, hreg⟩ := hC.rregs
  have hi : i ∈ reach [.pointer (some ⟨i, 0, none⟩), .int .i64 (a : Nat), .int .i64 (b : Nat)] Y := by simp [reach, refOf]
  have hir : ir ∈ reach [.pointer (some ⟨i, 0, none⟩), .int .i64 (a : Nat), .int .i64 (b : Nat)] Y := by
    simp [reach, refOf, behindOf, hrow]
  generalize reach [.pointer (some ⟨i, 0, none⟩), .int .i64 (a : Nat), .int .i64 (b : Nat)] Y = F at *
  have v1 : (viewL [] F Y).get i = some (.cells [.slice (some ⟨ir, 0, none⟩) regs.length cr, t, m, n, l, .slice (some ⟨ig, 0, none⟩) geos.length cg, .int .i64 total] true par gs) := by rw [get_viewL, if_neg (by simp [inL]), if_pos (inL_iff.2 hi), hrow]; rfl
  have v2 : (viewL [] F Y).get ir = some (.cells (regs.flatMap RegD.cells) true par2 gs2) := by rw [get_viewL, if_neg (by simp [inL]), if_pos (inL_iff.2 hir), hreg]; rfl
  refine Local.same ?_
  rw [callS_cxS s22 (by decide), s22_45, appS_some]
  exact F45_at v1 v2 (fun k g h => flat_at RegD.cells_length regs k g h) ha hb rfl
theorem F45_conf {Y : AHeap} {i ir ig a b : Nat} {r u : RegD} {regs : List RegD} {geos : List GeoD} {total : Int} (hC : IsConf Y i ir ig regs geos total) (ha : regs[a]? = some r) (hb : regs[b]? = some u) :
    F45 [.pointer (some ⟨i, 0, none⟩), .int .i64 (a : Nat), .int .i64 (b : Nat)] Y = some (.bool (leqB r.lev r.cats u.lev u.cats), Y) := by
  obtain ⟨cr, t, m, n, l, cg, ro, par, gs, hrow⟩ := hC.row
  obtain ⟨ro2, par2, gs2, hreg⟩ := hC.rregs
  exact F45_at hrow hreg (fun k g h => flat_at RegD.cells_length regs k g h) ha hb rfl
set_option maxHeartbeats 8000000 in
theorem same_c {H : AHeap} {lo i : Nat} {sr sm : Value} {regs : List RegD} {marks : List (Int × Int)} (hr : SlcE H sr RegD.cells 9 regs) (hm : SlcE H sm mkC 2 marks) (hrw : ∀ r ∈ regs, (0 ≤ r.lev ∧ r.lev ≤ 255) ∧ 0 ≤ r.cats ∧ r.cats ≤ 65535) (hmw : ∀ m ∈ marks, 0 ≤ m.1 ∧ m.1 ≤ 255 ∧ 0 ≤ m.2 ∧ m.2 ≤ 65535) (hml : marks.length ≤ 1000)
    (h0 : newErr regs marks = 0) (hM0 : ConfM H lo i regs (geosFrom 32 regs).1 (geosFrom 32 regs).2 marks) :
    ACalls Tryd.prog 4 22 [.pointer (some ⟨i, 0, none⟩), sr, sm] H fun v H' => v = .bool true ∧ H' = H := by
  refine ACalls.trim1 rfl ?_
  obtain ⟨⟨hl1, hl2⟩, hadd, hmarks⟩ := newErr_zero h0
  have hok := adds_ok (n := regs.length) (by omega) regs [] hadd
  have hmk := marks_ok marks [] hmarks
  have hsound : ∀ r ∈ regs, r.sound = true := fun r hr => by
    obtain ⟨k, hk⟩ := List.mem_iff_getElem?.1 hr
    obtain ⟨_, hb, _⟩ := hok k r hk
    unfold badR at hb
    exact (sound_iff r).2 (by omega)
  have hnodes : ∀ m ∈ marks, m.2 ≤ 128 := fun m hm => by
    obtain ⟨h1, h2, h3⟩ := hmk m hm
    have h4 := (hmw m hm).1
    obtain ⟨q, hq⟩ : ∃ q : Nat, m.1 = q := ⟨m.1.toNat, by omega⟩
    obtain ⟨u, hu⟩ : ∃ u, regs[q]? = some u := ⟨_, List.getElem?_eq_getElem (by omega)⟩
    have := (sound_iff u).1 (hsound u (List.mem_of_getElem? hu))
    rw [hq] at h3
    simp [List.getD_eq_getElem?_getD, hu] at h3
    omega
  rcases hr with ⟨h, _⟩ | ⟨ia, ca, row, ro, par, gs, rfl, hrow, hel⟩
  · rw [h] at hl1; simp at hl1
  obtain ⟨_, hT, hgl, _⟩ := geos_chain regs 32 (by omega) (by omega) hsound
  have hsum := refsum_c (ca := ca) hrow hel hsound hl2 (by omega)
  have hgeo := refgeos_c (ca := ca) hrow hel hsound hl2
  generalize hG : (geosFrom 32 regs).1 = geos at *
  generalize hTT : (geosFrom 32 regs).2 = total at *
  obtain ⟨ir, ig, hC0⟩ := hM0.isConf (by omega) hl2
  refine walk s22_ok (fn := Tryd.f22) (by kernel_rfl) (c := Tryd.f22.body.get (by kernel_rfl)) (by kernel_rfl) (by simp [Tryd.f22]) ?_
  simp only [Tryd.f22, Option.get]
  simp only [go_sem, Nat.reduceLT, Nat.reduceEqDiff, ↓reduceIte, Nat.reduceAdd, Nat.zero_add, Nat.add_zero, Nat.reduceLeDiff, Int.reduceEq, Nat.reduceMul, List.take_zero, List.drop_succ_cons, List.drop_zero, List.nil_append, List.append_nil, List.drop_nil, List.take_succ_cons, List.take_nil, List.cons_append, Int.toNat_natCast, Int.toNat_zero, Int.toNat_one, s22_48]
  refine callsx_of (cxS_ok s22_ok) (fn := Tryd.f48) (by kernel_rfl) (by kernel_rfl) hgeo ?_
  rintro v U ⟨hKU, sg, rfl, hrl⟩
  rcases hrl with ⟨h, _⟩ | ⟨b, pb, _, rfl, hb, _, _, _⟩
  · omega
  have hMU := hM0.keeps hKU
  have hCU := hC0.keeps hKU
  have urow := hKU.get hrow (by simp)
  have hsumU := refsum_c (ca := ca) urow hel hsound hl2 (by omega)
  rw [hG] at hsumU
  simp only [go_sem, Nat.reduceLT, Nat.reduceEqDiff, ↓reduceIte, Nat.reduceAdd, Nat.zero_add, Nat.add_zero, Nat.reduceLeDiff, Int.reduceEq, Nat.reduceMul, List.take_zero, List.drop_succ_cons, List.drop_zero, List.nil_append, List.append_nil, List.drop_nil, List.take_succ_cons, List.take_nil, List.cons_append, Int.toNat_natCast, Int.toNat_zero, Int.toNat_one, s22_17, s22_14, s22_49, fn_ex, hCU.len, hCU.tot]
  refine callsx_of (cxS_ok s22_ok) (fn := Tryd.f49) (by kernel_rfl) (by kernel_rfl) (sum_c hCU) ?_
  rintro v U2 ⟨rfl, rfl⟩
  simp only [go_sem, Nat.reduceLT, Nat.reduceEqDiff, ↓reduceIte, Nat.reduceAdd, Nat.zero_add, Nat.add_zero, Nat.reduceLeDiff, Int.reduceEq, Nat.reduceMul, List.take_zero, List.drop_succ_cons, List.drop_zero, List.nil_append, List.append_nil, List.drop_nil, List.take_succ_cons, List.take_nil, List.cons_append, Int.toNat_natCast, Int.toNat_zero, Int.toNat_one, s22_50]
  refine callsx_of (cxS_ok s22_ok) (fn := Tryd.f50) (by kernel_rfl) (by kernel_rfl) hsumU ?_
  rintro v U3 ⟨rfl, rfl⟩
  simp only [go_sem, Nat.reduceLT, Nat.reduceEqDiff, ↓reduceIte, Nat.reduceAdd, Nat.zero_add, Nat.add_zero, Nat.reduceLeDiff, Int.reduceEq, Nat.reduceMul, List.take_zero, List.drop_succ_cons, List.drop_zero, List.nil_append, List.append_nil, List.drop_nil, List.take_succ_cons, List.take_nil, List.cons_append, Int.toNat_natCast, Int.toNat_zero, Int.toNat_one]
  refine codeW_loop (fun nn τ X => ∃ k : Nat, nn = regs.length - k ∧ k ≤ regs.length ∧ tget τ 0 = .pointer (some ⟨i, 0, none⟩) ∧ tget τ 1 = .slice (some ⟨ia, 0, none⟩) regs.length ca ∧ tget τ 2 = sm ∧ tget τ 7 = .slice (some ⟨b, 0, none⟩) regs.length (grow + regs.length) ∧ tget τ 49 = .slice (some ⟨ia, 0, none⟩) regs.length ca ∧ tget τ 50 = .int .i64 regs.length ∧ tget τ 51 = .int .i64 (k : Nat) ∧ Keeps [] U3 X) (n := regs.length) ⟨0, rfl, Nat.zero_le _, ?_, ?_, ?_, ?_, ?_, ?_, ?_, ?_⟩ ?_
  · simp only [go_sem, Nat.reduceLT, Nat.reduceEqDiff, ↓reduceIte, Nat.reduceAdd, Nat.zero_add, Nat.add_zero, Nat.reduceLeDiff, Int.reduceEq, Nat.reduceMul]
  · simp only [go_sem, Nat.reduceLT, Nat.reduceEqDiff, ↓reduceIte, Nat.reduceAdd, Nat.zero_add, Nat.add_zero, Nat.reduceLeDiff, Int.reduceEq, Nat.reduceMul]
  · simp only [go_sem, Nat.reduceLT, Nat.reduceEqDiff, ↓reduceIte, Nat.reduceAdd, Nat.zero_add, Nat.add_zero, Nat.reduceLeDiff, Int.reduceEq, Nat.reduceMul]
  · simp only [go_sem, Nat.reduceLT, Nat.reduceEqDiff, ↓reduceIte, Nat.reduceAdd, Nat.zero_add, Nat.add_zero, Nat.reduceLeDiff, Int.reduceEq, Nat.reduceMul]
  · simp only [go_sem, Nat.reduceLT, Nat.reduceEqDiff, ↓reduceIte, Nat.reduceAdd, Nat.zero_add, Nat.add_zero, Nat.reduceLeDiff, Int.reduceEq, Nat.reduceMul]
  · simp only [go_sem, Nat.reduceLT, Nat.reduceEqDiff, ↓reduceIte, Nat.reduceAdd, Nat.zero_add, Nat.add_zero, Nat.reduceLeDiff, Int.reduceEq, Nat.reduceMul]
  · simp only [go_sem, Nat.reduceLT, Nat.reduceEqDiff, ↓reduceIte, Nat.reduceAdd, Nat.zero_add, Nat.add_zero, Nat.reduceLeDiff, Int.reduceEq, Nat.reduceMul]; rfl
  · exact Keeps.refl _ _
  clear hM0 hC0 hsumU hsum hgeo
  rintro nn τ X ⟨k, rfl, hk, t0, t1, t2, t7, t49, t50, t51, hK⟩
  have xia := hK.get urow (by simp)
  have xil := AHeap.get_lt xia
  have xb := hK.get hb (by simp)
  have xbl := AHeap.get_lt xb
  have hle := hK.le
  have hMX := hMU.keeps hK
  have hCX := hCU.keeps hK
  by_cases hlt : k < regs.length
  · obtain ⟨r, hrk⟩ : ∃ r, regs[k]? = some r := ⟨_, List.getElem?_eq_getElem hlt⟩
    obtain ⟨g, hgk⟩ : ∃ g, geos[k]? = some g := ⟨_, List.getElem?_eq_getElem (by omega)⟩
    obtain ⟨e1, e2⟩ := hel k r hrk
    obtain ⟨e3, e4⟩ := flat_at GeoD.cells_length geos k g hgk
    have hz : (0 : Int) ≤ (k : Int) := by omega
    have hd : (k : Int) < (regs.length : Int) := by omega
    have hw : IntKind.wrap .i64 ((k : Int) + 1) = ((k + 1 : Nat) : Int) := by rw [wrap64] <;> omega
    have sp1 : spot (fun x => r.name == x) (regs.map (·.name)) 0 = some k := by
      have := spot_first (eq := fun x => r.name == x) (regs.map (·.name)) 0 k r.name (by rw [List.getElem?_map, hrk]; rfl) (by rw [bytes_beq]; simp) (fun j b' hj hb' => by
        rw [List.getElem?_map] at hb'
        obtain ⟨x, hx, rfl⟩ := Option.map_eq_some_iff.1 hb'
        have h1 := (hok k r hrk).2.2
        rw [List.nil_append, List.any_eq_false] at h1
        have h2 := h1 x (List.mem_of_getElem? (by rw [List.getElem?_take, if_pos hj]; exact hx))
        simp only [Bool.not_eq_true, Bool.or_eq_false_iff] at h2
        have e1 : (x.name == r.name) = (r.name == x.name) := by rw [bytes_beq, bytes_beq, decide_eq_decide]; exact eq_comm
        rw [← e1]; exact h2.1)
      rw [this, Nat.zero_add]
    have sp2 : spot (fun x : Int × Int => (r.lev == x.1) && (r.cats == x.2)) (regs.map fun r => (r.lev, r.cats)) 0 = some k := by
      have := spot_first (eq := fun x : Int × Int => (r.lev == x.1) && (r.cats == x.2)) (regs.map fun r => (r.lev, r.cats)) 0 k (r.lev, r.cats) (by rw [List.getElem?_map, hrk]; rfl) (by simp) (fun j b' hj hb' => by
        rw [List.getElem?_map] at hb'
        obtain ⟨x, hx, rfl⟩ := Option.map_eq_some_iff.1 hb'
        have h1 := (hok k r hrk).2.2
        rw [List.nil_append, List.any_eq_false] at h1
        have h2 := h1 x (List.mem_of_getElem? (by rw [List.getElem?_take, if_pos hj]; exact hx))
        simp only [Bool.not_eq_true, Bool.or_eq_false_iff] at h2
        have e2 : (x.lev == r.lev) = (r.lev == x.lev) := by rw [Bool.eq_iff_iff, beq_iff_eq, beq_iff_eq]; exact eq_comm
        have e3 : (x.cats == r.cats) = (r.cats == x.cats) := by rw [Bool.eq_iff_iff, beq_iff_eq, beq_iff_eq]; exact eq_comm
        show ((r.lev == x.lev) && (r.cats == x.cats)) = false
        rw [← e2, ← e3]; exact h2.2)
      rw [this, Nat.zero_add]
    have iA : ∀ k, ia < X.next + k := fun k => by omega
    have iB : ∀ k, ia ≠ X.next + k := fun k => by omega
    have iC : ia ≠ X.next := by omega
    have bA : ∀ k, b < X.next + k := fun k => by omega
    have bB : ∀ k, b ≠ X.next + k := fun k => by omega
    have bC : b ≠ X.next := by omega
    simp only [go_sem, Nat.reduceLT, Nat.reduceEqDiff, ↓reduceIte, Nat.reduceAdd, Nat.zero_add, Nat.add_zero, Nat.reduceLeDiff, Int.reduceEq, Nat.reduceMul, List.take_zero, List.drop_succ_cons, List.drop_zero, List.nil_append, List.append_nil, List.drop_nil, List.take_succ_cons, List.take_nil, List.cons_append, Int.toNat_natCast, Int.toNat_zero, Int.toNat_one, t0, t1, t2, t7, t49, t50, t51, xia, hz, hd, e1, e2, RegD.cells, s22_16]
    refine callsx_of (cxS_ok s22_ok) (fn := Tryd.f16) (by kernel_rfl) (by kernel_rfl) (reg_c (hCX.keeps ?_) k) ?_
    · exact ((Keeps.refl [] X).new' _).set' (by omega) (by simp)
    rintro v Y ⟨rfl, rfl⟩
    rw [regV_at hrk]
    simp only [go_sem, Nat.reduceLT, Nat.reduceEqDiff, ↓reduceIte, Nat.reduceAdd, Nat.zero_add, Nat.add_zero, Nat.reduceLeDiff, Int.reduceEq, Nat.reduceMul, List.take_zero, List.drop_succ_cons, List.drop_zero, List.nil_append, List.append_nil, List.drop_nil, List.take_succ_cons, List.take_nil, List.cons_append, Int.toNat_natCast, Int.toNat_zero, Int.toNat_one, t0, t1, t2, t7, t49, t50, t51, xia, RegD.cells, s22_40]
    refine callsx_of (cxS_ok s22_ok) (fn := Tryd.f40) (by kernel_rfl) (by kernel_rfl) (geo_c (hCX.keeps ?_) k) ?_
    · exact ((((Keeps.refl [] X).new' _).set' (by omega) (by simp)).new' _).set' (by simp) (by simp)
    rintro v Y ⟨rfl, rfl⟩
    rw [geoV_at hgk]
    simp only [go_sem, Nat.reduceLT, Nat.reduceEqDiff, ↓reduceIte, Nat.reduceAdd, Nat.zero_add, Nat.add_zero, Nat.reduceLeDiff, Int.reduceEq, Nat.reduceMul, List.take_zero, List.drop_succ_cons, List.drop_zero, List.nil_append, List.append_nil, List.drop_nil, List.take_succ_cons, List.take_nil, List.cons_append, Int.toNat_natCast, Int.toNat_zero, Int.toNat_one, t0, t1, t2, t7, t49, t50, t51, xia, GeoD.cells, s22_51]
    have kp : Keeps [] X (((((X.new (.cells [.string ⟨#[]⟩, .int .u8 0, .int .u16 0, .int .i64 0, .int .i64 0, .int .i64 0, .int .i64 0, .int .i64 0, .int .i64 0] false [] 0)).set X.next (.cells r.cells false [] 0)).new (.cells [.string ⟨#[]⟩, .int .u8 0, .int .u16 0, .int .i64 0, .int .i64 0, .int .i64 0, .int .i64 0, .int .i64 0, .int .i64 0] false [] 0)).set (X.next + 1) (.cells r.cells false [] 0)).new (.cells [.int .i64 0, .int .i64 0, .int .i64 0, .int .i64 0, .int .i64 0, .int .i64 0] false [] 0)) := ((((((Keeps.refl [] X).new' _).set' (by omega) (by simp)).new' _).set' (by simp) (by simp)).new' _)
    have kp2 := kp.set' (i := X.next + 2) (o := .cells g.cells false [] 0) (by omega) (by simp)
    refine callsx_of (cxS_ok s22_ok) (fn := Tryd.f51) (by kernel_rfl) (by kernel_rfl) (named_c (hMX.keeps kp2) r.name) ?_
    rintro v Y ⟨rfl, rfl⟩
    rw [sp1]
    simp only [go_sem, Nat.reduceLT, Nat.reduceEqDiff, ↓reduceIte, Nat.reduceAdd, Nat.zero_add, Nat.add_zero, Nat.reduceLeDiff, Int.reduceEq, Nat.reduceMul, List.take_zero, List.drop_succ_cons, List.drop_zero, List.nil_append, List.append_nil, List.drop_nil, List.take_succ_cons, List.take_nil, List.cons_append, Int.toNat_natCast, Int.toNat_zero, Int.toNat_one, t0, t1, t2, t7, t49, t50, t51, xia, spotV, RegD.cells, s22_52]
    refine callsx_of (cxS_ok s22_ok) (fn := Tryd.f52) (by kernel_rfl) (by kernel_rfl) (find_c (hMX.keeps kp2) r.lev r.cats) ?_
    rintro v Y ⟨rfl, rfl⟩
    rw [sp2]
    simp only [go_sem, Nat.reduceLT, Nat.reduceEqDiff, ↓reduceIte, Nat.reduceAdd, Nat.zero_add, Nat.add_zero, Nat.reduceLeDiff, Int.reduceEq, Nat.reduceMul, List.take_zero, List.drop_succ_cons, List.drop_zero, List.nil_append, List.append_nil, List.drop_nil, List.take_succ_cons, List.take_nil, List.cons_append, Int.toNat_natCast, Int.toNat_zero, Int.toNat_one, t0, t1, t2, t7, t49, t50, t51, xia, spotV, RegD.cells, GeoD.cells]
    refine codeW_any (cxS_ok s22_ok) inf22_11 (by kernel_rfl) fun _ => ?_
    simp only [inf22_11, go_sem, Nat.reduceLT, Nat.reduceEqDiff, ↓reduceIte, Nat.reduceAdd, Nat.zero_add, Nat.add_zero, Nat.reduceLeDiff, Int.reduceEq, Nat.reduceMul, List.take_zero, List.drop_succ_cons, List.drop_zero, List.nil_append, List.append_nil, List.drop_nil, List.take_succ_cons, List.take_nil, List.cons_append, Int.toNat_natCast, Int.toNat_zero, Int.toNat_one, t0, t1, t2, t7, t49, t50, t51, xia, xil, xb, xbl, iA, iB, iC, bA, bB, bC, hz, hd, e3, e4, RegD.cells, GeoD.cells, neq38, neq117]
    refine codeW_loop (fun nn τ Y => ∃ j : Nat, nn = regs.length - j ∧ j ≤ regs.length ∧ tget τ 0 = .pointer (some ⟨i, 0, none⟩) ∧ tget τ 1 = .slice (some ⟨ia, 0, none⟩) regs.length ca ∧ tget τ 2 = sm ∧ tget τ 7 = .slice (some ⟨b, 0, none⟩) regs.length (grow + regs.length) ∧ tget τ 9 = .int .i64 (k : Nat) ∧ tget τ 10 = .pointer (some ⟨X.next, 0, none⟩) ∧ tget τ 49 = .slice (some ⟨ia, 0, none⟩) regs.length ca ∧ tget τ 50 = .int .i64 regs.length ∧ tget τ 51 = .int .i64 (k : Nat) ∧
      tget τ 120 = .int .i64 regs.length ∧ tget τ 121 = .int .i64 (j : Nat) ∧ Keeps [] X Y ∧ Y.get X.next = some (.cells r.cells false [] 0)) (n := regs.length) ⟨0, rfl, Nat.zero_le _, ?_, ?_, ?_, ?_, ?_, ?_, ?_, ?_, ?_, ?_, ?_, kp2, ?_⟩ ?_
    · simp only [go_sem, Nat.reduceLT, Nat.reduceEqDiff, ↓reduceIte, Nat.reduceAdd, Nat.zero_add, Nat.add_zero, Nat.reduceLeDiff, Int.reduceEq, Nat.reduceMul, t0]
    · simp only [go_sem, Nat.reduceLT, Nat.reduceEqDiff, ↓reduceIte, Nat.reduceAdd, Nat.zero_add, Nat.add_zero, Nat.reduceLeDiff, Int.reduceEq, Nat.reduceMul, t1]
    · simp only [go_sem, Nat.reduceLT, Nat.reduceEqDiff, ↓reduceIte, Nat.reduceAdd, Nat.zero_add, Nat.add_zero, Nat.reduceLeDiff, Int.reduceEq, Nat.reduceMul, t2]
    · simp only [go_sem, Nat.reduceLT, Nat.reduceEqDiff, ↓reduceIte, Nat.reduceAdd, Nat.zero_add, Nat.add_zero, Nat.reduceLeDiff, Int.reduceEq, Nat.reduceMul, t7]
    · simp only [go_sem, Nat.reduceLT, Nat.reduceEqDiff, ↓reduceIte, Nat.reduceAdd, Nat.zero_add, Nat.add_zero, Nat.reduceLeDiff, Int.reduceEq, Nat.reduceMul]
    · simp only [go_sem, Nat.reduceLT, Nat.reduceEqDiff, ↓reduceIte, Nat.reduceAdd, Nat.zero_add, Nat.add_zero, Nat.reduceLeDiff, Int.reduceEq, Nat.reduceMul]
    · simp only [go_sem, Nat.reduceLT, Nat.reduceEqDiff, ↓reduceIte, Nat.reduceAdd, Nat.zero_add, Nat.add_zero, Nat.reduceLeDiff, Int.reduceEq, Nat.reduceMul, t49]
    · simp only [go_sem, Nat.reduceLT, Nat.reduceEqDiff, ↓reduceIte, Nat.reduceAdd, Nat.zero_add, Nat.add_zero, Nat.reduceLeDiff, Int.reduceEq, Nat.reduceMul, t50]
    · simp only [go_sem, Nat.reduceLT, Nat.reduceEqDiff, ↓reduceIte, Nat.reduceAdd, Nat.zero_add, Nat.add_zero, Nat.reduceLeDiff, Int.reduceEq, Nat.reduceMul, t51]
    · simp only [go_sem, Nat.reduceLT, Nat.reduceEqDiff, ↓reduceIte, Nat.reduceAdd, Nat.zero_add, Nat.add_zero, Nat.reduceLeDiff, Int.reduceEq, Nat.reduceMul]
    · simp only [go_sem, Nat.reduceLT, Nat.reduceEqDiff, ↓reduceIte, Nat.reduceAdd, Nat.zero_add, Nat.add_zero, Nat.reduceLeDiff, Int.reduceEq, Nat.reduceMul]; rfl
    · simp only [go_sem, Nat.reduceLT, Nat.reduceEqDiff, ↓reduceIte, Nat.reduceAdd, Nat.zero_add, Nat.add_zero, Nat.reduceLeDiff, Int.reduceEq, Nat.reduceMul, RegD.cells]
    clear t0 t1 t2 t7 t49 t50 t51 kp kp2
    rintro nn τ Y ⟨j, rfl, hj, t0, t1, t2, t7, t9, t10, t49, t50, t51, t120, t121, hXY, yr⟩
    have yia := hXY.get xia (by simp)
    have yil := AHeap.get_lt yia
    have yrl := AHeap.get_lt yr
    have hCY := hCX.keeps hXY
    by_cases hjn : j < regs.length
    · obtain ⟨u, hu⟩ : ∃ u, regs[j]? = some u := ⟨_, List.getElem?_eq_getElem hjn⟩
      have hdj : (j : Int) < (regs.length : Int) := by omega
      have hzj : (0 : Int) ≤ (j : Int) := by omega
      have hwj : IntKind.wrap .i64 ((j : Int) + 1) = ((j + 1 : Nat) : Int) := by rw [wrap64] <;> omega
      obtain ⟨p3, p4⟩ := hel.part j 1 2 u hu (by omega)
      have hf45 := F45_conf hCY hrk hu
      have hl45 := loc45 hCY hrk hu
      have h47 := fun G : AHeap => F47_eq (a := r.lev) (c := u.lev) G (hrw r (List.mem_of_getElem? hrk)).2 (hrw u (List.mem_of_getElem? hu)).2
      simp only [go_sem, Nat.reduceLT, Nat.reduceEqDiff, ↓reduceIte, Nat.reduceAdd, Nat.zero_add, Nat.add_zero, Nat.reduceLeDiff, Int.reduceEq, Nat.reduceMul, List.take_zero, List.drop_succ_cons, List.drop_zero, List.nil_append, List.append_nil, List.drop_nil, List.take_succ_cons, List.take_nil, List.cons_append, Int.toNat_natCast, Int.toNat_zero, Int.toNat_one, t0, t1, t2, t7, t9, t10, t49, t50, t51, t120, t121, hdj]
      refine codeW_any (cxS_ok s22_ok) inf22_16 (by kernel_rfl) fun _ => ?_
      simp only [inf22_16, go_sem, Nat.reduceLT, Nat.reduceEqDiff, ↓reduceIte, Nat.reduceAdd, Nat.zero_add, Nat.add_zero, Nat.reduceLeDiff, Int.reduceEq, Nat.reduceMul, List.take_zero, List.drop_succ_cons, List.drop_zero, List.nil_append, List.append_nil, List.drop_nil, List.take_succ_cons, List.take_nil, List.cons_append, Int.toNat_natCast, Int.toNat_zero, Int.toNat_one, t0, t1, t2, t7, t9, t10, t49, t50, t51, t120, t121, hdj, hzj, yia, yil, yr, yrl, p3, p4, RegD.cells, callS_cxS, s22_45, s22_47, hf45, hl45, h47, neqB, BEq.rfl, hwj]
      exact ⟨regs.length - (j + 1), by omega, j + 1, rfl, hjn, rfl, hXY⟩
    · obtain rfl : j = regs.length := by omega
      have hdj : ¬ ((regs.length : Int) < (regs.length : Int)) := by omega
      simp only [go_sem, Nat.reduceLT, Nat.reduceEqDiff, ↓reduceIte, Nat.reduceAdd, Nat.zero_add, Nat.add_zero, Nat.reduceLeDiff, Int.reduceEq, Nat.reduceMul, List.take_zero, List.drop_succ_cons, List.drop_zero, List.nil_append, List.append_nil, List.drop_nil, List.take_succ_cons, List.take_nil, List.cons_append, Int.toNat_natCast, Int.toNat_zero, Int.toNat_one, t0, t1, t2, t7, t9, t10, t49, t50, t51, t120, t121, hdj, hw]
      exact ⟨regs.length - (k + 1), by omega, k + 1, rfl, hlt, rfl, hK.trans hXY⟩
  · obtain rfl : k = regs.length := by omega
    have hd : ¬ ((regs.length : Int) < (regs.length : Int)) := by omega
    have hsm : ∃ rm cm, sm = .slice rm marks.length cm := by
      rcases hm with ⟨rfl, rfl⟩ | ⟨b, c, row, ro, par, gs, rfl, _⟩
      · exact ⟨none, 0, rfl⟩
      · exact ⟨_, _, rfl⟩
    obtain ⟨rm, cm, hsm⟩ := hsm
    subst hsm
    simp only [go_sem, Nat.reduceLT, Nat.reduceEqDiff, ↓reduceIte, Nat.reduceAdd, Nat.zero_add, Nat.add_zero, Nat.reduceLeDiff, Int.reduceEq, Nat.reduceMul, List.take_zero, List.drop_succ_cons, List.drop_zero, List.nil_append, List.append_nil, List.drop_nil, List.take_succ_cons, List.take_nil, List.cons_append, Int.toNat_natCast, Int.toNat_zero, Int.toNat_one, t0, t1, t2, t7, t49, t50, t51, hd]
    refine codeW_loop (fun nn τ X => ∃ k : Nat, nn = marks.length - k ∧ k ≤ marks.length ∧ tget τ 0 = .pointer (some ⟨i, 0, none⟩) ∧ tget τ 139 = .slice rm marks.length cm ∧ tget τ 140 = .int .i64 marks.length ∧ tget τ 141 = .int .i64 (k : Nat) ∧ Keeps [] U3 X) (n := marks.length) ⟨0, rfl, Nat.zero_le _, ?_, ?_, ?_, ?_, hK⟩ ?_
    · simp only [go_sem, Nat.reduceLT, Nat.reduceEqDiff, ↓reduceIte, Nat.reduceAdd, Nat.zero_add, Nat.add_zero, Nat.reduceLeDiff, Int.reduceEq, Nat.reduceMul, t0]
    · simp only [go_sem, Nat.reduceLT, Nat.reduceEqDiff, ↓reduceIte, Nat.reduceAdd, Nat.zero_add, Nat.add_zero, Nat.reduceLeDiff, Int.reduceEq, Nat.reduceMul]
    · simp only [go_sem, Nat.reduceLT, Nat.reduceEqDiff, ↓reduceIte, Nat.reduceAdd, Nat.zero_add, Nat.add_zero, Nat.reduceLeDiff, Int.reduceEq, Nat.reduceMul]
    · simp only [go_sem, Nat.reduceLT, Nat.reduceEqDiff, ↓reduceIte, Nat.reduceAdd, Nat.zero_add, Nat.add_zero, Nat.reduceLeDiff, Int.reduceEq, Nat.reduceMul]; rfl
    clear hK t0 t1 t2 t7 t49 t50 t51 xia xil xb xbl hle hMX hCX hk hlt hd
    rintro nn τ X ⟨k, rfl, hk, t0, t139, t140, t141, hK⟩
    have hMX := hMU.keeps hK
    have hle := hK.le
    by_cases hlt : k < marks.length
    · obtain ⟨⟨ma, mb⟩, hmkk⟩ : ∃ m, marks[k]? = some m := ⟨_, List.getElem?_eq_getElem hlt⟩
      have hmem := List.mem_of_getElem? hmkk
      obtain ⟨m1, m2, m3, m4⟩ := hmw _ hmem
      simp only at m1 m2 m3 m4
      have m5 : mb ≤ 128 := hnodes _ hmem
      rcases hm with ⟨h, _⟩ | ⟨ib, cb, rowb, rob, parb, gsb, e0, hrb, helb⟩
      · rw [h] at hlt; simp at hlt
      injection e0 with e1 e2 e3
      subst e1; subst e3
      have xib := (hKU.trans hK).get hrb (by simp)
      have xibl := AHeap.get_lt xib
      obtain ⟨e1, e2⟩ := helb k _ hmkk
      have hz : (0 : Int) ≤ (k : Int) := by omega
      have hd : (k : Int) < (marks.length : Int) := by omega
      have hw : IntKind.wrap .i64 ((k : Int) + 1) = ((k + 1 : Nat) : Int) := by rw [wrap64] <;> omega
      have hw16 : IntKind.wrap .u16 (mb + 1000) = mb + 1000 := by rw [w16]; omega
      have any1 : (marks.any fun x => (ma == x.1) && (mb == x.2)) = true := by
        rw [List.any_eq_true]; exact ⟨_, hmem, by simp⟩
      have any2 : (marks.any fun x => (ma == x.1) && (mb + 1000 == x.2)) = false := by
        rw [List.any_eq_false]
        rintro ⟨xa, xb⟩ hx h
        have := hnodes _ hx
        simp at h this
        omega
      have kp : Keeps [] X ((X.new (.cells [.int .u8 0, .int .u16 0] false [] 0)).set X.next (.cells [.int .u8 ma, .int .u16 mb] false [] 0)) := ((Keeps.refl [] X).new' _).set' (by omega) (by simp)
      simp only [go_sem, Nat.reduceLT, Nat.reduceEqDiff, ↓reduceIte, Nat.reduceAdd, Nat.zero_add, Nat.add_zero, Nat.reduceLeDiff, Int.reduceEq, Nat.reduceMul, List.take_zero, List.drop_succ_cons, List.drop_zero, List.nil_append, List.append_nil, List.drop_nil, List.take_succ_cons, List.take_nil, List.cons_append, Int.toNat_natCast, Int.toNat_zero, Int.toNat_one, t0, t139, t140, t141, xib, hz, hd, e1, e2, mkC, s22_53]
      refine callsx_of (cxS_ok s22_ok) (fn := Tryd.f53) (by kernel_rfl) (by kernel_rfl) (trusted_c (hMX.keeps kp) ma mb) ?_
      rintro v Y ⟨rfl, rfl⟩
      simp only [go_sem, Nat.reduceLT, Nat.reduceEqDiff, ↓reduceIte, Nat.reduceAdd, Nat.zero_add, Nat.add_zero, Nat.reduceLeDiff, Int.reduceEq, Nat.reduceMul, List.take_zero, List.drop_succ_cons, List.drop_zero, List.nil_append, List.append_nil, List.drop_nil, List.take_succ_cons, List.take_nil, List.cons_append, Int.toNat_natCast, Int.toNat_zero, Int.toNat_one, t0, t139, t140, t141, any1, hw16, s22_53]
      refine callsx_of (cxS_ok s22_ok) (fn := Tryd.f53) (by kernel_rfl) (by kernel_rfl) (trusted_c (hMX.keeps kp) ma (mb + 1000)) ?_
      rintro v Y ⟨rfl, rfl⟩
      simp only [go_sem, Nat.reduceLT, Nat.reduceEqDiff, ↓reduceIte, Nat.reduceAdd, Nat.zero_add, Nat.add_zero, Nat.reduceLeDiff, Int.reduceEq, Nat.reduceMul, List.take_zero, List.drop_succ_cons, List.drop_zero, List.nil_append, List.append_nil, List.drop_nil, List.take_succ_cons, List.take_nil, List.cons_append, Int.toNat_natCast, Int.toNat_zero, Int.toNat_one, t0, t139, t140, t141, any2, hw]
      exact ⟨marks.length - (k + 1), by omega, k + 1, rfl, hlt, rfl, hK.trans kp⟩
    · obtain rfl : k = marks.length := by omega
      have hd : ¬ ((marks.length : Int) < (marks.length : Int)) := by omega
      simp only [go_sem, Nat.reduceLT, Nat.reduceEqDiff, ↓reduceIte, Nat.reduceAdd, Nat.zero_add, Nat.add_zero, Nat.reduceLeDiff, Int.reduceEq, Nat.reduceMul, List.take_zero, List.drop_succ_cons, List.drop_zero, List.nil_append, List.append_nil, List.drop_nil, List.take_succ_cons, List.take_nil, List.cons_append, Int.toNat_natCast, Int.toNat_zero, Int.toNat_one, t0, t139, t140, t141, hd]
      exact hKU.trans hK
end Go.Proofs.YtkjclebafpomhaaDoor
