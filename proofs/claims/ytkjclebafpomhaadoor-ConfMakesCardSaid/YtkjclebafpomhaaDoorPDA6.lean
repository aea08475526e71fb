/- Contracts: Size.Regs. -/
import Derived.Test.YtkjclebafpomhaaDoorPDA5
import Derived.Laws.Strings
set_option linter.unusedVariables false
set_option linter.unusedSimpArgs false
set_option maxRecDepth 100000
namespace Go.Proofs.YtkjclebafpomhaaDoor
open Go Go.Eng
def inf19_7 : Info := [([], [], true), ([6], [0], false), ([29, 30], [], false), ([31], [], false), ([], [1, 2, 3], true), ([6], [0, 1, 2, 3, 4], false), ([33, 34], [1, 2, 3], false), ([35], [1, 2, 3], false), ([7], [0, 1, 2, 3, 4, 5, 6, 7], false), ([37], [0, 1, 2, 3, 4, 5, 6, 7], false), ([38], [0, 1, 2, 3, 4, 5, 6, 7], false), ([39], [0, 1, 2, 3, 4, 5, 6, 7], false), ([40], [0, 1, 2, 3, 4, 5, 6, 7], false), ([7], [0, 1, 2, 3, 4, 5, 6, 7, 8, 9, 10, 11, 12], false), ([42], [0, 1, 2, 3, 4, 5, 6, 7, 8, 9, 10, 11, 12], false), ([43], [0, 1, 2, 3, 4, 5, 6, 7, 8, 9, 10, 11, 12], false), ([44], [0, 1, 2, 3, 4, 5, 6, 7, 8, 9, 10, 11, 12], false), ([45], [0, 1, 2, 3, 4, 5, 6, 7, 8, 9, 10, 11, 12], false), ([46], [0, 1, 2, 3, 4, 5, 6, 7, 8, 9, 10, 11, 12], false), ([7], [0, 1, 2, 3, 4, 5, 6, 7, 8, 9, 10, 11, 12, 13, 14, 15, 16, 17, 18], false), ([48], [0, 1, 2, 3, 4, 5, 6, 7, 8, 9, 10, 11, 12, 13, 14, 15, 16, 17, 18], false), ([49], [0, 1, 2, 3, 4, 5, 6, 7, 8, 9, 10, 11, 12, 13, 14, 15, 16, 17, 18], false), ([50], [0, 1, 2, 3, 4, 5, 6, 7, 8, 9, 10, 11, 12, 13, 14, 15, 16, 17, 18], false), ([51], [0, 1, 2, 3, 4, 5, 6, 7, 8, 9, 10, 11, 12, 13, 14, 15, 16, 17, 18], false), ([7], [0, 1, 2, 3, 4, 5, 6, 7, 8, 9, 10, 11, 12, 13, 14, 15, 16, 17, 18, 19, 20, 21, 22, 23], false), ([53], [0, 1, 2, 3, 4, 5, 6, 7, 8, 9, 10, 11, 12, 13, 14, 15, 16, 17, 18, 19, 20, 21, 22, 23], false), ([54], [0, 1, 2, 3, 4, 5, 6, 7, 8, 9, 10, 11, 12, 13, 14, 15, 16, 17, 18, 19, 20, 21, 22, 23], false), ([55], [0, 1, 2, 3, 4, 5, 6, 7, 8, 9, 10, 11, 12, 13, 14, 15, 16, 17, 18, 19, 20, 21, 22, 23], false), ([56], [0, 1, 2, 3, 4, 5, 6, 7, 8, 9, 10, 11, 12, 13, 14, 15, 16, 17, 18, 19, 20, 21, 22, 23], false), ([7], [0, 1, 2, 3, 4, 5, 6, 7, 8, 9, 10, 11, 12, 13, 14, 15, 16, 17, 18, 19, 20, 21, 22, 23, 24, 25, 26, 27, 28], false), ([58], [0, 1, 2, 3, 4, 5, 6, 7, 8, 9, 10, 11, 12, 13, 14, 15, 16, 17, 18, 19, 20, 21, 22, 23, 24, 25, 26, 27, 28], false), ([59], [0, 1, 2, 3, 4, 5, 6, 7, 8, 9, 10, 11, 12, 13, 14, 15, 16, 17, 18, 19, 20, 21, 22, 23, 24, 25, 26, 27, 28], false), ([60], [0, 1, 2, 3, 4, 5, 6, 7, 8, 9, 10, 11, 12, 13, 14, 15, 16, 17, 18, 19, 20, 21, 22, 23, 24, 25, 26, 27, 28], false), ([61], [0, 1, 2, 3, 4, 5, 6, 7, 8, 9, 10, 11, 12, 13, 14, 15, 16, 17, 18, 19, 20, 21, 22, 23, 24, 25, 26, 27, 28], false), ([4], [0, 1, 2, 3, 4, 5, 6, 7, 8, 9, 10, 11, 12, 13, 14, 15, 16, 17, 18, 19, 20, 21, 22, 23, 24, 25, 26, 27, 28, 29, 30, 31, 32, 33], false), ([63], [0, 1, 2, 3, 4, 5, 6, 7, 8, 9, 10, 11, 12, 13, 14, 15, 16, 17, 18, 19, 20, 21, 22, 23, 24, 25, 26, 27, 28, 29, 30, 31, 32, 33], false), ([32, 36, 41, 47, 52, 57, 62, 64], [], false), ([], [0, 1, 2, 3, 4, 5, 6, 7, 8, 9, 10, 11, 12, 13, 14, 15, 16, 17, 18, 19, 20, 21, 22, 23, 24, 25, 26, 27, 28, 29, 30, 31, 32, 33, 34, 35, 36], false), ([8, 65], [], false)]
theorem w16 (n : Int) : IntKind.u16.wrap n = n % 65536 := by simp [IntKind.wrap, IntKind.bits, IntKind.signed]
set_option maxHeartbeats 4000000 in
theorem regs_cL {H : AHeap} {a : Int} {arr bytes : List Int} {sl : Value} (ha : 0 ≤ a ∧ a ≤ 255) (h25 : arr.length = 25) (hb : ∀ x ∈ arr, 0 ≤ x ∧ x ≤ 255) (hs : SlcE H sl (fun x => [Value.int .u8 x]) 1 bytes) (hbb : ∀ x ∈ bytes, 0 ≤ x ∧ x ≤ 255) (hlen : bytes.length < 4611686018427387904) :
    ACalls Tryd.prog 4 19 [.agg (sizeCells a arr sl).toArray] H fun v H' => Keeps [] H H' ∧ ∃ sr sm, v = .tuple #[sr, sm] ∧ RowL H' H.next H.next sr (finRegs (2 + a.tmod 4).toNat arr).length 9 ((finRegs (2 + a.tmod 4).toNat arr).flatMap RegD.cells) ∧ RowL H' H.next H.next sm (marksOf (2 + a.tmod 4) bytes 0 []).length 2 ((marksOf (2 + a.tmod 4) bytes 0 []).flatMap mkC) := by
  refine walk s8_ok (fn := Tryd.f19) (by kernel_rfl) (c := Tryd.f19.body.get (by kernel_rfl)) (by kernel_rfl) (by simp [Tryd.f19]) ?_
  simp only [Tryd.f19, Option.get]
  obtain ⟨ra, ca, hsl⟩ : ∃ ra ca, sl = .slice ra bytes.length ca := by
    rcases hs with ⟨rfl, rfl⟩ | ⟨b, c, row, ro, par, gs, rfl, _⟩
    · exact ⟨none, 0, rfl⟩
    · exact ⟨_, _, rfl⟩
  subst hsl
  have q0 : (sizeCells a arr (.slice ra bytes.length ca))[0]? = some (.int .u8 a) := rfl
  have q26 : (sizeCells a arr (.slice ra bytes.length ca))[26]? = some (.slice ra bytes.length ca) := by simp [sizeCells, h25]
  have qone : (sizeCells a arr (.slice ra bytes.length ca)).all one = true := by
    simp only [sizeCells, List.all_cons, List.all_append, one_slice, List.all_nil, Bool.and_true, Bool.and_eq_true, List.all_eq_true, List.mem_map]
    exact ⟨rfl, by rintro x ⟨y, _, rfl⟩; rfl⟩
  obtain ⟨many, hm, hm2, hm5⟩ : ∃ many : Nat, 2 + a.tmod 4 = many ∧ 2 ≤ many ∧ many ≤ 5 := by
    rw [Int.tmod_eq_emod_of_nonneg ha.1]
    exact ⟨(2 + a % 4).toNat, by omega, by omega, by omega⟩
  have w1 : IntKind.wrap .i64 (a.tmod 4) = a.tmod 4 := by rw [wrap64] <;> omega
  have w2 : IntKind.wrap .i64 (2 + a.tmod 4) = many := by rw [hm, wrap64] <;> omega
  rw [hm, Int.toNat_natCast]
  clear hm
  simp only [go_sem, Nat.reduceLT, Nat.reduceEqDiff, ↓reduceIte, Nat.reduceAdd, Nat.zero_add, Nat.add_zero, Nat.reduceLeDiff, Int.reduceEq, Nat.reduceMul, List.take_zero, List.drop_succ_cons, List.drop_zero, List.nil_append, List.append_nil, List.drop_nil, List.take_succ_cons, List.take_nil, List.cons_append, Int.toNat_natCast, Int.toNat_zero, Int.toNat_one, q0, qone, w1, w2]
  have n1 : ¬ ((4 : Int) = 0) := by omega
  refine codeW_loop (fun nn τ X => ∃ k, nn = many - k ∧ k ≤ many ∧ tget τ 1 = .pointer (some ⟨H.next, 0, none⟩) ∧ tget τ 4 = .int .i64 many ∧ tget τ 21 = .int .i64 many ∧ tget τ 22 = .int .i64 (k : Nat) ∧
    Keeps [] H X ∧ X.get H.next = some (.cells (sizeCells a arr (.slice ra bytes.length ca)) false [] 0) ∧ RowL X H.next H.next (tget τ 5) k 9 ((preRegs many arr k).flatMap RegD.cells)) (n := many) ⟨0, rfl, Nat.zero_le _, ?_, ?_, ?_, ?_, ?_, ?_, ?_⟩ ?_
  · simp only [go_sem, Nat.reduceLT, Nat.reduceEqDiff, ↓reduceIte, Nat.reduceAdd, Nat.zero_add, Nat.add_zero, Nat.reduceLeDiff, Int.reduceEq, Nat.reduceMul]
  · simp only [go_sem, Nat.reduceLT, Nat.reduceEqDiff, ↓reduceIte, Nat.reduceAdd, Nat.zero_add, Nat.add_zero, Nat.reduceLeDiff, Int.reduceEq, Nat.reduceMul]
  · simp only [go_sem, Nat.reduceLT, Nat.reduceEqDiff, ↓reduceIte, Nat.reduceAdd, Nat.zero_add, Nat.add_zero, Nat.reduceLeDiff, Int.reduceEq, Nat.reduceMul]
  · simp only [go_sem, Nat.reduceLT, Nat.reduceEqDiff, ↓reduceIte, Nat.reduceAdd, Nat.zero_add, Nat.add_zero, Nat.reduceLeDiff, Int.reduceEq, Nat.reduceMul]; rfl
  · exact (Keeps.refl [] H).new' _
  · simp only [go_sem, Nat.reduceLT, Nat.reduceEqDiff, ↓reduceIte, Nat.reduceAdd, Nat.zero_add, Nat.add_zero, Nat.reduceLeDiff, Int.reduceEq, Nat.reduceMul]
  · simp only [go_sem, Nat.reduceLT, Nat.reduceEqDiff, ↓reduceIte, Nat.reduceAdd, Nat.zero_add, Nat.add_zero, Nat.reduceLeDiff, Int.reduceEq, Nat.reduceMul]; exact .inl ⟨rfl, rfl, rfl⟩
  rintro nn τ X ⟨k, rfl, hk, t1, t4, t21, t22, hK, xb, hr⟩
  have hXl : H.next < X.next := AHeap.get_lt xb
  by_cases hlt : k < many
  · have hd : (k : Int) < (many : Int) := by omega
    obtain ⟨s, t5⟩ : ∃ s, tget τ 5 = s := ⟨_, rfl⟩
    rw [t5] at hr
    obtain ⟨b0, b1, b2, b3, b4, v0, v1, v2, v3, v4, g0, g1, g2, g3, g4, e1, e2⟩ := size_b h25 hb a (.slice ra bytes.length ca) (k := k) (by omega)
    have hz : (0 : Int) ≤ (k : Int) := by omega
    have hk5 : (k : Int) < ((5 : Nat) : Int) := by omega
    have nmk := nm_at (k := k) (by omega)
    obtain ⟨l1, l2⟩ := lb_at (k := k) (by omega)
    have tm : ∀ x n : Int, 0 ≤ x ∧ x ≤ 255 → x.tmod n = x % n := fun x n h => Int.tmod_eq_emod_of_nonneg h.1
    have u0 : IntKind.wrap .i64 (b0.tmod 60) = b0.tmod 60 := by rw [tm _ _ v0, wrap64] <;> omega
    have u1 : IntKind.wrap .i64 (b1.tmod 12) = b1.tmod 12 := by rw [tm _ _ v1, wrap64] <;> omega
    have u2 : IntKind.wrap .i64 (b2.tmod 40) = b2.tmod 40 := by rw [tm _ _ v2, wrap64] <;> omega
    have u3 : IntKind.wrap .i64 (b3.tmod 6) = b3.tmod 6 := by rw [tm _ _ v3, wrap64] <;> omega
    have u4 : IntKind.wrap .i64 (b4.tmod 14) = b4.tmod 14 := by rw [tm _ _ v4, wrap64] <;> omega
    have y0 : IntKind.wrap .i64 (8 + b0.tmod 60) = 8 + b0.tmod 60 := by rw [tm _ _ v0, wrap64] <;> omega
    have y1 : IntKind.wrap .i64 (2 * b1.tmod 12) = 2 * b1.tmod 12 := by rw [tm _ _ v1, wrap64] <;> omega
    have y1' : IntKind.wrap .i64 (8 + 2 * b1.tmod 12) = 8 + 2 * b1.tmod 12 := by rw [tm _ _ v1, wrap64] <;> omega
    have y2 : IntKind.wrap .i64 (4 + b2.tmod 40) = 4 + b2.tmod 40 := by rw [tm _ _ v2, wrap64] <;> omega
    have y3 : IntKind.wrap .i64 (1 + b3.tmod 6) = 1 + b3.tmod 6 := by rw [tm _ _ v3, wrap64] <;> omega
    have y4 : IntKind.wrap .i64 (2 + b4.tmod 14) = 2 + b4.tmod 14 := by rw [tm _ _ v4, wrap64] <;> omega
    have y5 : IntKind.wrap .i64 ((many : Int) - 1) = (many : Int) - 1 := by rw [wrap64] <;> omega
    have hA : ∀ k, H.next < X.next + k := fun k => by omega
    have hB : ∀ k, H.next ≠ X.next + k := fun k => by omega
    have hC : H.next ≠ X.next := by omega
    have e3 : 1 + (k * 5 + 5) ≤ (sizeCells a arr (.slice ra bytes.length ca)).length := by omega
    simp only [go_sem, Nat.reduceLT, Nat.reduceEqDiff, ↓reduceIte, Nat.reduceAdd, Nat.zero_add, Nat.add_zero, Nat.reduceLeDiff, Int.reduceEq, Nat.reduceMul, List.take_zero, List.drop_succ_cons, List.drop_zero, List.nil_append, List.append_nil, List.drop_nil, List.take_succ_cons, List.take_nil, List.cons_append, Int.toNat_natCast, Int.toNat_zero, Int.toNat_one, t1, t4, t5, t21, t22, xb, hd, hXl, hA, hB, hC, hz, hk5, e1, e3, Nat.mul_one]
    have i0 : ((0 : Int) ≤ 0) = True := by simp
    have i5 : (0 : Int) < ((5 : Nat) : Int) ∧ (1 : Int) < ((5 : Nat) : Int) ∧ (2 : Int) < ((5 : Nat) : Int) ∧ (3 : Int) < ((5 : Nat) : Int) ∧ (4 : Int) < ((5 : Nat) : Int) := by omega
    have i1 : (0 : Int) ≤ 1 ∧ (0 : Int) ≤ 2 ∧ (0 : Int) ≤ 3 ∧ (0 : Int) ≤ 4 := by omega
    have i2 : (2 : Int).toNat = 2 ∧ (3 : Int).toNat = 3 ∧ (4 : Int).toNat = 4 := by decide
    have hw : IntKind.wrap .i64 ((k : Int) + 1) = ((k + 1 : Nat) : Int) := by rw [wrap64] <;> omega
    have fin : ∀ (Z : AHeap) (c : Int), c = clr0 many k → Keeps [] X Z → bindR (appW 9 72 s (some (1, [.string (nmB k), .int .u8 (lbL k), .int .u16 (lbC k), .int .i64 (8 + b0.tmod 60), .int .i64 (8 + 2 * b1.tmod 12), .int .i64 (4 + b2.tmod 40), .int .i64 (1 + b3.tmod 6), .int .i64 (2 + b4.tmod 14), .int .i64 c])) Z)
        fun v H' => ∃ m, m < many - k ∧ ∃ k_1, m = many - k_1 ∧ k_1 ≤ many ∧ Value.int .i64 ((k + 1 : Nat) : Int) = .int .i64 ((k_1 : Nat) : Int) ∧ Keeps [] H H' ∧ H'.get H.next = some (.cells (sizeCells a arr (.slice ra bytes.length ca)) false [] 0) ∧ RowL H' H.next H.next v k_1 9 ((preRegs many arr k_1).flatMap RegD.cells) := by
      intro Z c hc hZ
      have hr2 : RowL Z H.next H.next s k 9 ((preRegs many arr k).flatMap RegD.cells) := by
        exact hr.keeps hZ
      have hle := hZ.le
      obtain ⟨s', U, q1, q2, q3, q4⟩ := app_row (by_ := 72) (vs := [.string (nmB k), .int .u8 (lbL k), .int .u16 (lbC k), .int .i64 (8 + b0.tmod 60), .int .i64 (8 + 2 * b1.tmod 12), .int .i64 (4 + b2.tmod 40), .int .i64 (1 + b3.tmod 6), .int .i64 (2 + b4.tmod 14), .int .i64 c]) hr2 (by rw [flat_len RegD.cells_length]; simp [preRegs]) rfl (by omega) (by unfold grow; omega) (by omega) (by omega)
      rw [q1, bindR_some]
      refine ⟨many - (k + 1), by omega, k + 1, rfl, hlt, rfl, ⟨by have := hK.le; omega, fun j hj _ => ?_⟩, ?_, ?_⟩
      · rw [q4 j (by omega) (.inl hj), hZ.old j (by omega) (by simp), hK.old j hj (by simp)]
      · rw [q4 _ (by omega) (.inr (.inl rfl)), hZ.old _ (by omega) (by simp), xb]
      · rw [preRegs_succ, List.flatMap_append]
        subst hc
        have e : (preReg many arr k).cells = [.string (nmB k), .int .u8 (lbL k), .int .u16 (lbC k), .int .i64 (8 + b0.tmod 60), .int .i64 (8 + 2 * b1.tmod 12), .int .i64 (4 + b2.tmod 40), .int .i64 (1 + b3.tmod 6), .int .i64 (2 + b4.tmod 14), .int .i64 (clr0 many k)] := by
          simp only [preReg, mkReg, RegD.cells, g0, g1, g2, g3, g4]
        rw [List.flatMap_cons, List.flatMap_nil, List.append_nil, e]
        exact q2
    refine codeW_any_cut (cxS_ok s8_ok) inf19_7 (by kernel_rfl) (fun τ Y => tget τ 1 = .pointer (some ⟨H.next, 0, none⟩) ∧ tget τ 4 = .int .i64 many ∧ tget τ 5 = s ∧ tget τ 6 = .int .i64 (k : Nat) ∧ tget τ 8 = .pointer (some ⟨X.next + 3, 0, none⟩) ∧ tget τ 21 = .int .i64 many ∧ tget τ 22 = .int .i64 (k : Nat) ∧ Keeps [] X Y ∧
      Y.get (X.next + 3) = some (.cells [.string (nmB k), .int .u8 (lbL k), .int .u16 (lbC k), .int .i64 (8 + b0.tmod 60), .int .i64 (8 + 2 * b1.tmod 12), .int .i64 (4 + b2.tmod 40), .int .i64 (1 + b3.tmod 6), .int .i64 (2 + b4.tmod 14), .int .i64 ((many : Int) - 1)] false [] 0)) (fun _ => ?_) ?_
    · simp only [inf19_7, i0, i5, i1, i2, go_sem, Nat.reduceLT, Nat.reduceEqDiff, ↓reduceIte, Nat.reduceAdd, Nat.zero_add, Nat.add_zero, Nat.reduceLeDiff, Int.reduceEq, Nat.reduceMul, List.take_zero, List.drop_succ_cons, List.drop_zero, List.nil_append, List.append_nil, List.drop_nil, List.take_succ_cons, List.take_nil, List.cons_append, Int.toNat_natCast, Int.toNat_zero, Int.toNat_one, t1, t4, t5, t21, t22, xb, hd, hXl, hA, hB, hC, hz, hk5, nmk, l1, l2, u0, u1, u2, u3, u4, y0, y1, y1', y2, y3, y4, y5, call42, call43, loc42, loc43, Nat.mul_one]
      exact (((((((Keeps.refl [] X).new' _).set' (Nat.le_refl _) (by simp)).new' _).new' _).new' _).set' (i := X.next + 3) (by omega) (by simp only [AHeap.next_new, AHeap.next_set]; omega))
    clear t1 t4 t5 t21 t22
    rintro τ Y ⟨t1, t4, t5, t6, t8, t21, t22, hXY, yr⟩
    have yl : X.next + 3 < Y.next := AHeap.get_lt yr
    have yA : ∀ k, X.next + 3 < Y.next + k := fun k => by omega
    have yB : ∀ k, X.next + 3 ≠ Y.next + k := fun k => by omega
    have yC : X.next + 3 ≠ Y.next := by omega
    have k1 : ∀ o o2, Keeps [] X ((Y.set (X.next + 3) o).new o2) := fun o o2 => (hXY.set' (by omega) yl).new' _
    have k2 : ∀ o o1 o2, Keeps [] X (((Y.set (X.next + 3) o).set (X.next + 3) o1).new o2) := fun o o1 o2 => ((hXY.set' (by omega) yl).set' (by omega) (by simpa using yl)).new' _
    cases c1 : decide ((many : Int) < 4)
    · have d1 := of_decide_eq_false c1
      have c3 : decide ((many : Int) = 2) = false := decide_eq_false (by omega)
      simp only [go_sem, Nat.reduceLT, Nat.reduceEqDiff, ↓reduceIte, Nat.reduceAdd, Nat.zero_add, Nat.add_zero, Nat.reduceLeDiff, Int.reduceEq, Nat.reduceMul, List.take_zero, List.drop_succ_cons, List.drop_zero, List.nil_append, List.append_nil, List.drop_nil, List.take_succ_cons, List.take_nil, List.cons_append, Int.toNat_natCast, Int.toNat_zero, Int.toNat_one, t1, t4, t5, t6, t8, t21, t22, yr, yl, yA, yB, yC, c1, c3, hw]
      exact fin _ _ (by unfold clr0; rw [if_neg (by omega), if_neg (by omega)]) (hXY.new' _)
    · have d1 := of_decide_eq_true c1
      cases c2 : decide ((0 : Int) < (k : Int))
      · have d2 := of_decide_eq_false c2
        cases c3 : decide ((many : Int) = 2)
        · have d3 := of_decide_eq_false c3
          simp only [go_sem, Nat.reduceLT, Nat.reduceEqDiff, ↓reduceIte, Nat.reduceAdd, Nat.zero_add, Nat.add_zero, Nat.reduceLeDiff, Int.reduceEq, Nat.reduceMul, List.take_zero, List.drop_succ_cons, List.drop_zero, List.nil_append, List.append_nil, List.drop_nil, List.take_succ_cons, List.take_nil, List.cons_append, Int.toNat_natCast, Int.toNat_zero, Int.toNat_one, t1, t4, t5, t6, t8, t21, t22, yr, yl, yA, yB, yC, c1, c2, c3, hw]
          exact fin _ _ (by unfold clr0; rw [if_neg (by omega), if_neg (by omega)]) (hXY.new' _)
        · have d3 := of_decide_eq_true c3
          simp only [go_sem, Nat.reduceLT, Nat.reduceEqDiff, ↓reduceIte, Nat.reduceAdd, Nat.zero_add, Nat.add_zero, Nat.reduceLeDiff, Int.reduceEq, Nat.reduceMul, List.take_zero, List.drop_succ_cons, List.drop_zero, List.nil_append, List.append_nil, List.drop_nil, List.take_succ_cons, List.take_nil, List.cons_append, Int.toNat_natCast, Int.toNat_zero, Int.toNat_one, t1, t4, t5, t6, t8, t21, t22, yr, yl, yA, yB, yC, c1, c2, c3, hw]
          exact fin _ _ (by unfold clr0; rw [if_pos (by omega)]) (k1 _ _)
      · have d2 := of_decide_eq_true c2
        cases c3 : decide ((many : Int) = 2)
        · have d3 := of_decide_eq_false c3
          simp only [go_sem, Nat.reduceLT, Nat.reduceEqDiff, ↓reduceIte, Nat.reduceAdd, Nat.zero_add, Nat.add_zero, Nat.reduceLeDiff, Int.reduceEq, Nat.reduceMul, List.take_zero, List.drop_succ_cons, List.drop_zero, List.nil_append, List.append_nil, List.drop_nil, List.take_succ_cons, List.take_nil, List.cons_append, Int.toNat_natCast, Int.toNat_zero, Int.toNat_one, t1, t4, t5, t6, t8, t21, t22, yr, yl, yA, yB, yC, c1, c2, c3, hw]
          exact fin _ _ (by unfold clr0; rw [if_neg (by omega), if_pos (by omega)]) (k1 _ _)
        · have d3 := of_decide_eq_true c3
          simp only [go_sem, Nat.reduceLT, Nat.reduceEqDiff, ↓reduceIte, Nat.reduceAdd, Nat.zero_add, Nat.add_zero, Nat.reduceLeDiff, Int.reduceEq, Nat.reduceMul, List.take_zero, List.drop_succ_cons, List.drop_zero, List.nil_append, List.append_nil, List.drop_nil, List.take_succ_cons, List.take_nil, List.cons_append, Int.toNat_natCast, Int.toNat_zero, Int.toNat_one, t1, t4, t5, t6, t8, t21, t22, yr, yl, yA, yB, yC, c1, c2, c3, hw]
          exact fin _ _ (by unfold clr0; rw [if_pos (by omega)]) (k2 _ _ _)
  · obtain rfl : k = many := by omega
    clear hk hlt
    have hd : ¬ ((k : Int) < (k : Int)) := by omega
    obtain ⟨s, t5⟩ : ∃ s, tget τ 5 = s := ⟨_, rfl⟩
    rw [t5] at hr
    have hA : ∀ k, H.next < X.next + k := fun k => by omega
    have hB : ∀ k, H.next ≠ X.next + k := fun k => by omega
    have hC : H.next ≠ X.next := by omega
    have hlen' : (preRegs k arr k).length = k := by simp [preRegs]
    rcases hr with ⟨h0, _⟩ | ⟨b, par, h1, rfl, h3, h4, h5, h6⟩
    · omega
    have hbl := AHeap.get_lt h3
    have i0 : ((0 : Int) ≤ 0) = True := by simp
    have i1 : (0 : Int) < (k : Int) := by omega
    have hnp : H.next ∉ par := fun h => (h6 _ h).2 rfl
    have hnb : H.next ≠ b := Ne.symm h5
    have hmany : (1 : Int) < (k : Int) := by omega
    cases c1 : decide ((k : Int) = 3)
    · have d1 := of_decide_eq_false c1
      simp only [go_sem, Nat.reduceLT, Nat.reduceEqDiff, ↓reduceIte, Nat.reduceAdd, Nat.zero_add, Nat.add_zero, Nat.reduceLeDiff, Int.reduceEq, Nat.reduceMul, List.take_zero, List.drop_succ_cons, List.drop_zero, List.nil_append, List.append_nil, List.drop_nil, List.take_succ_cons, List.take_nil, List.cons_append, Int.toNat_natCast, Int.toNat_zero, Int.toNat_one, t1, t4, t5, t21, t22, xb, hd, hXl, hA, hB, hC, c1, q26]
      refine codeW_forget (fun τ Z => ∃ s, tget τ 4 = .int .i64 k ∧ tget τ 5 = s ∧ tget τ 9 = .slice none 0 0 ∧ tget τ 88 = .slice ra bytes.length ca ∧ tget τ 89 = .int .i64 bytes.length ∧ tget τ 90 = .int .i64 0 ∧ Keeps [] H Z ∧ H.next < Z.next ∧ RowL Z H.next H.next s k 9 ((finRegs k arr).flatMap RegD.cells)) ⟨_, ?_, rfl, ?_, ?_, ?_, ?_, hK, hXl, ?_⟩ ?_
      · simp only [go_sem, Nat.reduceLT, Nat.reduceEqDiff, ↓reduceIte, Nat.reduceAdd, Nat.zero_add, Nat.add_zero, Nat.reduceLeDiff, Int.reduceEq, Nat.reduceMul, t4]
      · simp only [go_sem, Nat.reduceLT, Nat.reduceEqDiff, ↓reduceIte, Nat.reduceAdd, Nat.zero_add, Nat.add_zero, Nat.reduceLeDiff, Int.reduceEq, Nat.reduceMul]
      · simp only [go_sem, Nat.reduceLT, Nat.reduceEqDiff, ↓reduceIte, Nat.reduceAdd, Nat.zero_add, Nat.add_zero, Nat.reduceLeDiff, Int.reduceEq, Nat.reduceMul]
      · simp only [go_sem, Nat.reduceLT, Nat.reduceEqDiff, ↓reduceIte, Nat.reduceAdd, Nat.zero_add, Nat.add_zero, Nat.reduceLeDiff, Int.reduceEq, Nat.reduceMul]
      · simp only [go_sem, Nat.reduceLT, Nat.reduceEqDiff, ↓reduceIte, Nat.reduceAdd, Nat.zero_add, Nat.add_zero, Nat.reduceLeDiff, Int.reduceEq, Nat.reduceMul]
      · rw [finRegs_ne arr (by omega)]
        refine .inr ⟨b, par, h1, ?_, h3, h4, h5, h6⟩
        simp only [go_sem, Nat.reduceLT, Nat.reduceEqDiff, ↓reduceIte, Nat.reduceAdd, Nat.zero_add, Nat.add_zero, Nat.reduceLeDiff, Int.reduceEq, Nat.reduceMul, t5]
      clear t1 t4 t5 t21 t22 xb h3 c1 d1
      clear hXl hA hB hC hbl hK i0 i1 hd hnp hnb hmany h4 h5 h6 par b
      rintro τ X ⟨s, t4, t5, t9, t88, t89, t90, hK, hXl, hr⟩
      refine codeW_loop (fun nn τ X => ∃ j acc s2, nn = bytes.length - j ∧ j ≤ bytes.length ∧ tget τ 4 = .int .i64 k ∧ tget τ 5 = s ∧ tget τ 9 = s2 ∧ tget τ 88 = .slice ra bytes.length ca ∧ tget τ 89 = .int .i64 bytes.length ∧ tget τ 90 = .int .i64 (j : Nat) ∧ Keeps [] H X ∧ H.next < X.next ∧
        RowL X H.next H.next s k 9 ((finRegs k arr).flatMap RegD.cells) ∧ RowL X H.next H.next s2 acc.length 2 (acc.flatMap mkC) ∧ marksOf k bytes 0 [] = marksOf k (bytes.drop j) j acc ∧ acc.length ≤ j ∧ acc.length ≤ 9) (n := bytes.length) ⟨0, [], _, rfl, Nat.zero_le _, t4, t5, t9, t88, t89, by rw [t90]; rfl, hK, hXl, hr, .inl ⟨rfl, rfl, rfl⟩, rfl, Nat.le_refl _, by simp⟩ ?_
      clear t4 t5 t9 t88 t89 t90 hK hXl hr
      rintro nn τ X ⟨j, acc, s2, rfl, hj, t4, t5, t9, t88, t89, t90, hK, hXl, hr, hr2, hE, ha1, ha2⟩
      have hw : IntKind.wrap .i64 ((j : Int) + 1) = ((j + 1 : Nat) : Int) := by rw [wrap64] <;> omega
      by_cases hlt : j < bytes.length
      · rcases hs with ⟨h, _⟩ | ⟨ib, cb, rowb, rob, parb, gsb, e0, hrowb, helb⟩
        · rw [h] at hlt; simp at hlt
        injection e0 with e1 _ e3
        subst e1; subst e3
        obtain ⟨x, hx⟩ : ∃ x, bytes[j]? = some x := ⟨_, List.getElem?_eq_getElem hlt⟩
        obtain ⟨x0, x1⟩ := hbb x (List.mem_of_getElem? hx)
        have hrx : rowb[j]? = some (.int .u8 x) := by
          have h := congrArg (fun l => l[0]?) (helb j x hx).1
          simpa [List.getElem?_take, List.getElem?_drop] using h
        have xib : X.get ib = some (.cells rowb rob parb gsb) := hK.get hrowb (by simp)
        have hz : (0 : Int) ≤ (j : Int) := by omega
        have hd : (j : Int) < (bytes.length : Int) := by omega
        have wk : IntKind.wrap .u8 (k : Int) = k := by rw [IntKind.wrap_u8]; omega
        have hk0 : ¬ ((k : Int) = 0) := by omega
        have x8 : x.tdiv 8 = x / 8 := Int.tdiv_eq_ediv_of_nonneg x0
        have x84 : (x.tdiv 8).tmod 4 = (x / 8) % 4 := by rw [x8, Int.tmod_eq_emod_of_nonneg (by omega)]
        have wq : IntKind.wrap .u8 (x.tdiv 8) = x.tdiv 8 := by rw [IntKind.wrap_u8, x8]; omega
        have wr : IntKind.wrap .u16 ((x.tdiv 8).tmod 4) = (x.tdiv 8).tmod 4 := by rw [w16, x84]; omega
        have ws : IntKind.wrap .u16 (4 + (x.tdiv 8).tmod 4) = 4 + (x.tdiv 8).tmod 4 := by rw [w16, x84]; omega
        obtain ⟨rs, cs2, hs2⟩ : ∃ rs cs2, s2 = .slice rs acc.length cs2 := by
          rcases hr2 with ⟨h, rfl, _⟩ | ⟨b, par, _, rfl, _⟩
          · rw [h]; exact ⟨_, _, rfl⟩
          · exact ⟨_, _, rfl⟩
        subst hs2
        simp only [go_sem, Nat.reduceLT, Nat.reduceEqDiff, ↓reduceIte, Nat.reduceAdd, Nat.zero_add, Nat.add_zero, Nat.reduceLeDiff, Int.reduceEq, Nat.reduceMul, List.take_zero, List.drop_succ_cons, List.drop_zero, List.nil_append, List.append_nil, List.drop_nil, List.take_succ_cons, List.take_nil, List.cons_append, Int.toNat_natCast, Int.toNat_zero, Int.toNat_one, t4, t5, t9, t88, t89, t90, xib, hz, hd, hrx, wk, hk0, wq, wr, ws, Nat.mul_one]
        refine codeW_loop (fun nn τ Y => ∃ i, nn = acc.length - i ∧ i ≤ acc.length ∧ tget τ 4 = .int .i64 k ∧ tget τ 5 = s ∧ tget τ 9 = .slice rs acc.length cs2 ∧ tget τ 12 = .pointer (some ⟨X.next, 0, none⟩) ∧ tget τ 13 = .bool (decide ((8 : Int) < (j : Int)) || (acc.take i).any fun y => (y.1 == (markOf k x).1) && (y.2 == (markOf k x).2)) ∧
          tget τ 88 = .slice (some ⟨ib, 0, none⟩) bytes.length ca ∧ tget τ 89 = .int .i64 bytes.length ∧ tget τ 90 = .int .i64 (j : Nat) ∧ tget τ 107 = .slice rs acc.length cs2 ∧ tget τ 108 = .int .i64 acc.length ∧ tget τ 109 = .int .i64 (i : Nat) ∧ Keeps [] X Y ∧
          Y.get X.next = some (.cells [.int .u8 (x.tmod k), .int .u16 (4 + (x.tdiv 8).tmod 4)] false [] 0)) (n := acc.length) ⟨0, rfl, Nat.zero_le _, ?_, ?_, ?_, ?_, ?_, ?_, ?_, ?_, ?_, ?_, ?_, ((Keeps.refl [] X).new' _).set' (Nat.le_refl _) (by simp), ?_⟩ ?_
        · simp only [go_sem, Nat.reduceLT, Nat.reduceEqDiff, ↓reduceIte, Nat.reduceAdd, Nat.zero_add, Nat.add_zero, Nat.reduceLeDiff, Int.reduceEq, Nat.reduceMul, t4]
        · simp only [go_sem, Nat.reduceLT, Nat.reduceEqDiff, ↓reduceIte, Nat.reduceAdd, Nat.zero_add, Nat.add_zero, Nat.reduceLeDiff, Int.reduceEq, Nat.reduceMul, t5]
        · simp only [go_sem, Nat.reduceLT, Nat.reduceEqDiff, ↓reduceIte, Nat.reduceAdd, Nat.zero_add, Nat.add_zero, Nat.reduceLeDiff, Int.reduceEq, Nat.reduceMul, t9]
        · simp only [go_sem, Nat.reduceLT, Nat.reduceEqDiff, ↓reduceIte, Nat.reduceAdd, Nat.zero_add, Nat.add_zero, Nat.reduceLeDiff, Int.reduceEq, Nat.reduceMul]
        · simp only [go_sem, Nat.reduceLT, Nat.reduceEqDiff, ↓reduceIte, Nat.reduceAdd, Nat.zero_add, Nat.add_zero, Nat.reduceLeDiff, Int.reduceEq, Nat.reduceMul, List.take_zero, List.any_nil]
        · simp only [go_sem, Nat.reduceLT, Nat.reduceEqDiff, ↓reduceIte, Nat.reduceAdd, Nat.zero_add, Nat.add_zero, Nat.reduceLeDiff, Int.reduceEq, Nat.reduceMul, t88]
        · simp only [go_sem, Nat.reduceLT, Nat.reduceEqDiff, ↓reduceIte, Nat.reduceAdd, Nat.zero_add, Nat.add_zero, Nat.reduceLeDiff, Int.reduceEq, Nat.reduceMul, t89]
        · simp only [go_sem, Nat.reduceLT, Nat.reduceEqDiff, ↓reduceIte, Nat.reduceAdd, Nat.zero_add, Nat.add_zero, Nat.reduceLeDiff, Int.reduceEq, Nat.reduceMul, t90]
        · simp only [go_sem, Nat.reduceLT, Nat.reduceEqDiff, ↓reduceIte, Nat.reduceAdd, Nat.zero_add, Nat.add_zero, Nat.reduceLeDiff, Int.reduceEq, Nat.reduceMul]
        · simp only [go_sem, Nat.reduceLT, Nat.reduceEqDiff, ↓reduceIte, Nat.reduceAdd, Nat.zero_add, Nat.add_zero, Nat.reduceLeDiff, Int.reduceEq, Nat.reduceMul]
        · simp only [go_sem, Nat.reduceLT, Nat.reduceEqDiff, ↓reduceIte, Nat.reduceAdd, Nat.zero_add, Nat.add_zero, Nat.reduceLeDiff, Int.reduceEq, Nat.reduceMul]; rfl
        · simp only [go_sem, Nat.reduceLT, Nat.reduceEqDiff, ↓reduceIte, Nat.reduceAdd, Nat.zero_add, Nat.add_zero, Nat.reduceLeDiff, Int.reduceEq, Nat.reduceMul]
        clear t4 t5 t9 t88 t89 t90
        rintro nn τ Y ⟨i, rfl, hi, t4, t5, t9, t12, t13, t88, t89, t90, t107, t108, t109, hXY, yx⟩
        have hwi : IntKind.wrap .i64 ((i : Int) + 1) = ((i + 1 : Nat) : Int) := by rw [wrap64] <;> omega
        have hxl : X.next < Y.next := AHeap.get_lt yx
        have xA : ∀ k, X.next < Y.next + k := fun k => by omega
        have xB : ∀ k, X.next ≠ Y.next + k := fun k => by omega
        have xC : X.next ≠ Y.next := by omega
        by_cases hlt2 : i < acc.length
        · rcases hr2 with ⟨h, _⟩ | ⟨b2, par2, g1, g2, g3, g4⟩
          · omega
          injection g2 with g2 _ g5
          subst g2; subst g5
          have yb := hXY.get g3 (by simp)
          have hbY : b2 < Y.next := AHeap.get_lt yb
          have bA : ∀ k, b2 < Y.next + k := fun k => by omega
          have bB : ∀ k, b2 ≠ Y.next + k := fun k => by omega
          have bC : b2 ≠ Y.next := by omega
          obtain ⟨m, hm⟩ : ∃ m, acc[i]? = some m := ⟨_, List.getElem?_eq_getElem hlt2⟩
          obtain ⟨f1, f2⟩ := flat_at (f := mkC) (n := 2) (fun _ => rfl) acc i m hm
          have hzi : (0 : Int) ≤ (i : Int) := by omega
          have hdi : (i : Int) < (acc.length : Int) := by omega
          have hany : ((acc.take (i + 1)).any fun y => (y.1 == (markOf k x).1) && (y.2 == (markOf k x).2)) = ((acc.take i).any (fun y => (y.1 == (markOf k x).1) && (y.2 == (markOf k x).2)) || ((m.1 == x.tmod k) && (m.2 == 4 + (x.tdiv 8).tmod 4))) := by
            rw [List.take_add_one, hm, List.any_append]; simp [markOf]
          have k1 : ∀ o o2, Keeps [] X ((Y.new o).set Y.next o2) := fun o o2 => (hXY.new' _).set' (by omega) (by simp)
          cases c1 : (decide ((8 : Int) < (j : Int)) || (acc.take i).any fun y => (y.1 == (markOf k x).1) && (y.2 == (markOf k x).2))
          · rw [c1] at t13
            simp only [go_sem, Nat.reduceLT, Nat.reduceEqDiff, ↓reduceIte, Nat.reduceAdd, Nat.zero_add, Nat.add_zero, Nat.reduceLeDiff, Int.reduceEq, Nat.reduceMul, List.take_zero, List.drop_succ_cons, List.drop_zero, List.nil_append, List.append_nil, List.drop_nil, List.take_succ_cons, List.take_nil, List.cons_append, Int.toNat_natCast, Int.toNat_zero, Int.toNat_one, t4, t5, t9, t12, t13, t88, t89, t90, t107, t108, t109, yx, yb, hbY, bA, bB, bC, hxl, xA, xB, xC, hzi, hdi, f1, f2, mkC, hwi]
            exact ⟨acc.length - (i + 1), by omega, i + 1, rfl, hlt2, by rw [hany, ← Bool.or_assoc, c1, Bool.false_or], rfl, k1 _ _⟩
          · rw [c1] at t13
            simp only [go_sem, Nat.reduceLT, Nat.reduceEqDiff, ↓reduceIte, Nat.reduceAdd, Nat.zero_add, Nat.add_zero, Nat.reduceLeDiff, Int.reduceEq, Nat.reduceMul, List.take_zero, List.drop_succ_cons, List.drop_zero, List.nil_append, List.append_nil, List.drop_nil, List.take_succ_cons, List.take_nil, List.cons_append, Int.toNat_natCast, Int.toNat_zero, Int.toNat_one, t4, t5, t9, t12, t13, t88, t89, t90, t107, t108, t109, yx, yb, hbY, bA, bB, bC, hxl, xA, xB, xC, hzi, hdi, f1, f2, mkC, hwi]
            exact ⟨acc.length - (i + 1), by omega, i + 1, rfl, hlt2, by rw [hany, ← Bool.or_assoc, c1, Bool.true_or], rfl, k1 _ _⟩
        · obtain rfl : i = acc.length := by omega
          have hd2 : ¬ ((acc.length : Int) < (acc.length : Int)) := by omega
          rw [List.take_length] at t13
          have hKY : Keeps [] H Y := hK.trans hXY
          have hs : marksOf k (bytes.drop j) j acc = marksOf k (x :: bytes.drop (j + 1)) j acc := by rw [drop_at hx]
          have hnl : H.next ≤ Y.next := by omega
          cases c2 : (decide ((8 : Int) < (j : Int)) || acc.any fun y => (y.1 == (markOf k x).1) && (y.2 == (markOf k x).2))
          · rw [c2] at t13
            simp only [Bool.or_eq_false_iff] at c2
            have d8 := of_decide_eq_false c2.1
            have hs2 : marksOf k (bytes.drop j) j acc = marksOf k (bytes.drop (j + 1)) (j + 1) (acc ++ [markOf k x]) := by
              rw [hs]; simp only [marksOf]; rw [if_neg (by rw [c2.2]; simp; omega)]
            obtain ⟨s', U, q1, q2, q3, q4⟩ := app_row (H := Y.new (.cells [.int .u8 (x.tmod k), .int .u16 (4 + (x.tdiv 8).tmod 4)] false [] 2)) (by_ := 4) (vs := [.int .u8 (x.tmod k), .int .u16 (4 + (x.tdiv 8).tmod 4)]) (hr2.keeps (hXY.new' _)) ((flat_len (f := mkC) (fun _ => rfl) _).symm) rfl (by omega) (by unfold grow; omega) (by simp; omega) (by simp; omega)
            have hbl : ∀ b cs par, Y.get b = some (.cells cs false par 9) → U.get b = Y.get b := fun b cs par hg => by
              have hb := AHeap.get_lt hg
              rw [q4 b (by simp; omega) (.inr (.inr fun cs par h => by rw [get_new_old _ hb, hg] at h; injection h with h; injection h with _ _ _ h; omega)), get_new_old _ hb]
            have hr3 : RowL U H.next H.next s k 9 ((finRegs k arr).flatMap RegD.cells) := by
              rcases hr.keeps hXY with h | ⟨b, par, o1, o2, o3, o4⟩
              · exact .inl h
              · exact .inr ⟨b, par, o1, o2, (hbl _ _ _ o3).trans o3, o4⟩
            have hKU : Keeps [] H U := ⟨by simp at q3; omega, fun j hj _ => by rw [q4 j (by simp; omega) (.inl hj), get_new_old _ (by omega), hKY.old j hj (by simp)]⟩
            simp only [go_sem, Nat.reduceLT, Nat.reduceEqDiff, ↓reduceIte, Nat.reduceAdd, Nat.zero_add, Nat.add_zero, Nat.reduceLeDiff, Int.reduceEq, Nat.reduceMul, List.take_zero, List.drop_succ_cons, List.drop_zero, List.nil_append, List.append_nil, List.drop_nil, List.take_succ_cons, List.take_nil, List.cons_append, Int.toNat_natCast, Int.toNat_zero, Int.toNat_one, t4, t5, t9, t12, t13, t88, t89, t90, t107, t108, t109, yx, hxl, xA, xB, xC, hd2, q1, hw]
            exact ⟨bytes.length - (j + 1), by omega, j + 1, acc ++ [markOf k x], _, rfl, hlt, rfl, rfl, hKU, by simp at q3; omega, hr3, by simpa [mkC, markOf] using q2, by rw [hE, hs2], by simp; omega, by simp; omega⟩
          · rw [c2] at t13
            have hs2 : marksOf k (bytes.drop j) j acc = marksOf k (bytes.drop (j + 1)) (j + 1) acc := by
              rw [hs]; simp only [marksOf]; rw [if_pos]
              rcases Bool.or_eq_true _ _ ▸ c2 with h | h
              · exact .inl (by have := of_decide_eq_true h; omega)
              · exact .inr h
            simp only [go_sem, Nat.reduceLT, Nat.reduceEqDiff, ↓reduceIte, Nat.reduceAdd, Nat.zero_add, Nat.add_zero, Nat.reduceLeDiff, Int.reduceEq, Nat.reduceMul, List.take_zero, List.drop_succ_cons, List.drop_zero, List.nil_append, List.append_nil, List.drop_nil, List.take_succ_cons, List.take_nil, List.cons_append, Int.toNat_natCast, Int.toNat_zero, Int.toNat_one, t4, t5, t9, t12, t13, t88, t89, t90, t107, t108, t109, yx, hxl, xA, xB, xC, hd2, hw]
            exact ⟨bytes.length - (j + 1), by omega, j + 1, acc, _, rfl, hlt, rfl, rfl, hKY, by omega, hr.keeps hXY, hr2.keeps hXY, by rw [hE, hs2], by omega, ha2⟩
      · obtain rfl : j = bytes.length := by omega
        have hd : ¬ ((bytes.length : Int) < (bytes.length : Int)) := by omega
        rw [List.drop_length] at hE
        have hm : marksOf k bytes 0 [] = acc := by rw [hE]; rfl
        have hnl : (finRegs k arr).length = k := by simp [finRegs]
        simp only [go_sem, Nat.reduceLT, Nat.reduceEqDiff, ↓reduceIte, Nat.reduceAdd, Nat.zero_add, Nat.add_zero, Nat.reduceLeDiff, Int.reduceEq, Nat.reduceMul, List.take_zero, List.drop_succ_cons, List.drop_zero, List.nil_append, List.append_nil, List.drop_nil, List.take_succ_cons, List.take_nil, List.cons_append, Int.toNat_natCast, Int.toNat_zero, Int.toNat_one, t4, t5, t9, t88, t89, t90, hd, hm]
        exact ⟨hK, _, _, rfl, by rw [hnl]; exact hr, hr2⟩
    · have d1 := of_decide_eq_true c1
      have d2 : k = 3 := by omega
      have e3 : preRegs k arr k = [preReg k arr 0, preReg k arr 1, preReg k arr 2] := by rw [d2]; rfl
      have e4 : finRegs k arr = [{ preReg k arr 0 with clear := 1 }, preReg k arr 1, preReg k arr 2] := by rw [d2]; rfl
      have h3' : X.get b = some (.cells ((preReg k arr 0).cells ++ [preReg k arr 1, preReg k arr 2].flatMap RegD.cells) false par 9) := by rw [h3, e3]; rfl
      simp only [RegD.cells, List.cons_append, List.nil_append] at h3'
      simp only [go_sem, Nat.reduceLT, Nat.reduceEqDiff, ↓reduceIte, Nat.reduceAdd, Nat.zero_add, Nat.add_zero, Nat.reduceLeDiff, Int.reduceEq, Nat.reduceMul, List.take_zero, List.drop_succ_cons, List.drop_zero, List.nil_append, List.append_nil, List.drop_nil, List.take_succ_cons, List.take_nil, List.cons_append, Int.toNat_natCast, Int.toNat_zero, Int.toNat_one, t1, t4, t5, t21, t22, xb, hd, hXl, hA, hB, hC, c1, q26, h3', i0, i1, hbl, get_dels1, hnp, hnb, AHeap.next_dels]
      refine codeW_forget (fun τ Z => ∃ s, tget τ 4 = .int .i64 k ∧ tget τ 5 = s ∧ tget τ 9 = .slice none 0 0 ∧ tget τ 88 = .slice ra bytes.length ca ∧ tget τ 89 = .int .i64 bytes.length ∧ tget τ 90 = .int .i64 0 ∧ Keeps [] H Z ∧ H.next < Z.next ∧ RowL Z H.next H.next s k 9 ((finRegs k arr).flatMap RegD.cells)) ⟨_, ?_, rfl, ?_, ?_, ?_, ?_, ?_, ?_, ?_⟩ ?_
      · simp only [go_sem, Nat.reduceLT, Nat.reduceEqDiff, ↓reduceIte, Nat.reduceAdd, Nat.zero_add, Nat.add_zero, Nat.reduceLeDiff, Int.reduceEq, Nat.reduceMul, t4]
      · simp only [go_sem, Nat.reduceLT, Nat.reduceEqDiff, ↓reduceIte, Nat.reduceAdd, Nat.zero_add, Nat.add_zero, Nat.reduceLeDiff, Int.reduceEq, Nat.reduceMul]
      · simp only [go_sem, Nat.reduceLT, Nat.reduceEqDiff, ↓reduceIte, Nat.reduceAdd, Nat.zero_add, Nat.add_zero, Nat.reduceLeDiff, Int.reduceEq, Nat.reduceMul]
      · simp only [go_sem, Nat.reduceLT, Nat.reduceEqDiff, ↓reduceIte, Nat.reduceAdd, Nat.zero_add, Nat.add_zero, Nat.reduceLeDiff, Int.reduceEq, Nat.reduceMul]
      · simp only [go_sem, Nat.reduceLT, Nat.reduceEqDiff, ↓reduceIte, Nat.reduceAdd, Nat.zero_add, Nat.add_zero, Nat.reduceLeDiff, Int.reduceEq, Nat.reduceMul]
      · refine ⟨by simp; omega, fun j hj _ => ?_⟩
        have a1 : j ∉ par := fun h => by have := (h6 _ h).1; omega
        rw [get_set_ne _ (by omega) (by simpa using hbl), get_dels1 a1, hK.old j hj (by simp)]
      · simpa using hXl
      · refine .inr ⟨b, [], h1, ?_, ?_, h4, h5, by simp⟩
        · simp only [go_sem, Nat.reduceLT, Nat.reduceEqDiff, ↓reduceIte, Nat.reduceAdd, Nat.zero_add, Nat.add_zero, Nat.reduceLeDiff, Int.reduceEq, Nat.reduceMul, t5]
        · rw [AHeap.get_set _ _ _ _ (by simpa using hbl), if_pos rfl, e4]; rfl
      clear t1 t4 t5 t21 t22 xb h3' h3 c1 d1 e3 e4 d2
      clear hXl hA hB hC hbl hK i0 i1 hd hnp hnb hmany h4 h5 h6 par b
      rintro τ X ⟨s, t4, t5, t9, t88, t89, t90, hK, hXl, hr⟩
      refine codeW_loop (fun nn τ X => ∃ j acc s2, nn = bytes.length - j ∧ j ≤ bytes.length ∧ tget τ 4 = .int .i64 k ∧ tget τ 5 = s ∧ tget τ 9 = s2 ∧ tget τ 88 = .slice ra bytes.length ca ∧ tget τ 89 = .int .i64 bytes.length ∧ tget τ 90 = .int .i64 (j : Nat) ∧ Keeps [] H X ∧ H.next < X.next ∧
        RowL X H.next H.next s k 9 ((finRegs k arr).flatMap RegD.cells) ∧ RowL X H.next H.next s2 acc.length 2 (acc.flatMap mkC) ∧ marksOf k bytes 0 [] = marksOf k (bytes.drop j) j acc ∧ acc.length ≤ j ∧ acc.length ≤ 9) (n := bytes.length) ⟨0, [], _, rfl, Nat.zero_le _, t4, t5, t9, t88, t89, by rw [t90]; rfl, hK, hXl, hr, .inl ⟨rfl, rfl, rfl⟩, rfl, Nat.le_refl _, by simp⟩ ?_
      clear t4 t5 t9 t88 t89 t90 hK hXl hr
      rintro nn τ X ⟨j, acc, s2, rfl, hj, t4, t5, t9, t88, t89, t90, hK, hXl, hr, hr2, hE, ha1, ha2⟩
      have hw : IntKind.wrap .i64 ((j : Int) + 1) = ((j + 1 : Nat) : Int) := by rw [wrap64] <;> omega
      by_cases hlt : j < bytes.length
      · rcases hs with ⟨h, _⟩ | ⟨ib, cb, rowb, rob, parb, gsb, e0, hrowb, helb⟩
        · rw [h] at hlt; simp at hlt
        injection e0 with e1 _ e3
        subst e1; subst e3
        obtain ⟨x, hx⟩ : ∃ x, bytes[j]? = some x := ⟨_, List.getElem?_eq_getElem hlt⟩
        obtain ⟨x0, x1⟩ := hbb x (List.mem_of_getElem? hx)
        have hrx : rowb[j]? = some (.int .u8 x) := by
          have h := congrArg (fun l => l[0]?) (helb j x hx).1
          simpa [List.getElem?_take, List.getElem?_drop] using h
        have xib : X.get ib = some (.cells rowb rob parb gsb) := hK.get hrowb (by simp)
        have hz : (0 : Int) ≤ (j : Int) := by omega
        have hd : (j : Int) < (bytes.length : Int) := by omega
        have wk : IntKind.wrap .u8 (k : Int) = k := by rw [IntKind.wrap_u8]; omega
        have hk0 : ¬ ((k : Int) = 0) := by omega
        have x8 : x.tdiv 8 = x / 8 := Int.tdiv_eq_ediv_of_nonneg x0
        have x84 : (x.tdiv 8).tmod 4 = (x / 8) % 4 := by rw [x8, Int.tmod_eq_emod_of_nonneg (by omega)]
        have wq : IntKind.wrap .u8 (x.tdiv 8) = x.tdiv 8 := by rw [IntKind.wrap_u8, x8]; omega
        have wr : IntKind.wrap .u16 ((x.tdiv 8).tmod 4) = (x.tdiv 8).tmod 4 := by rw [w16, x84]; omega
        have ws : IntKind.wrap .u16 (4 + (x.tdiv 8).tmod 4) = 4 + (x.tdiv 8).tmod 4 := by rw [w16, x84]; omega
        obtain ⟨rs, cs2, hs2⟩ : ∃ rs cs2, s2 = .slice rs acc.length cs2 := by
          rcases hr2 with ⟨h, rfl, _⟩ | ⟨b, par, _, rfl, _⟩
          · rw [h]; exact ⟨_, _, rfl⟩
          · exact ⟨_, _, rfl⟩
        subst hs2
        simp only [go_sem, Nat.reduceLT, Nat.reduceEqDiff, ↓reduceIte, Nat.reduceAdd, Nat.zero_add, Nat.add_zero, Nat.reduceLeDiff, Int.reduceEq, Nat.reduceMul, List.take_zero, List.drop_succ_cons, List.drop_zero, List.nil_append, List.append_nil, List.drop_nil, List.take_succ_cons, List.take_nil, List.cons_append, Int.toNat_natCast, Int.toNat_zero, Int.toNat_one, t4, t5, t9, t88, t89, t90, xib, hz, hd, hrx, wk, hk0, wq, wr, ws, Nat.mul_one]
        refine codeW_loop (fun nn τ Y => ∃ i, nn = acc.length - i ∧ i ≤ acc.length ∧ tget τ 4 = .int .i64 k ∧ tget τ 5 = s ∧ tget τ 9 = .slice rs acc.length cs2 ∧ tget τ 12 = .pointer (some ⟨X.next, 0, none⟩) ∧ tget τ 13 = .bool (decide ((8 : Int) < (j : Int)) || (acc.take i).any fun y => (y.1 == (markOf k x).1) && (y.2 == (markOf k x).2)) ∧
          tget τ 88 = .slice (some ⟨ib, 0, none⟩) bytes.length ca ∧ tget τ 89 = .int .i64 bytes.length ∧ tget τ 90 = .int .i64 (j : Nat) ∧ tget τ 107 = .slice rs acc.length cs2 ∧ tget τ 108 = .int .i64 acc.length ∧ tget τ 109 = .int .i64 (i : Nat) ∧ Keeps [] X Y ∧
          Y.get X.next = some (.cells [.int .u8 (x.tmod k), .int .u16 (4 + (x.tdiv 8).tmod 4)] false [] 0)) (n := acc.length) ⟨0, rfl, Nat.zero_le _, ?_, ?_, ?_, ?_, ?_, ?_, ?_, ?_, ?_, ?_, ?_, ((Keeps.refl [] X).new' _).set' (Nat.le_refl _) (by simp), ?_⟩ ?_
        · simp only [go_sem, Nat.reduceLT, Nat.reduceEqDiff, ↓reduceIte, Nat.reduceAdd, Nat.zero_add, Nat.add_zero, Nat.reduceLeDiff, Int.reduceEq, Nat.reduceMul, t4]
        · simp only [go_sem, Nat.reduceLT, Nat.reduceEqDiff, ↓reduceIte, Nat.reduceAdd, Nat.zero_add, Nat.add_zero, Nat.reduceLeDiff, Int.reduceEq, Nat.reduceMul, t5]
        · simp only [go_sem, Nat.reduceLT, Nat.reduceEqDiff, ↓reduceIte, Nat.reduceAdd, Nat.zero_add, Nat.add_zero, Nat.reduceLeDiff, Int.reduceEq, Nat.reduceMul, t9]
        · simp only [go_sem, Nat.reduceLT, Nat.reduceEqDiff, ↓reduceIte, Nat.reduceAdd, Nat.zero_add, Nat.add_zero, Nat.reduceLeDiff, Int.reduceEq, Nat.reduceMul]
        · simp only [go_sem, Nat.reduceLT, Nat.reduceEqDiff, ↓reduceIte, Nat.reduceAdd, Nat.zero_add, Nat.add_zero, Nat.reduceLeDiff, Int.reduceEq, Nat.reduceMul, List.take_zero, List.any_nil]
        · simp only [go_sem, Nat.reduceLT, Nat.reduceEqDiff, ↓reduceIte, Nat.reduceAdd, Nat.zero_add, Nat.add_zero, Nat.reduceLeDiff, Int.reduceEq, Nat.reduceMul, t88]
        · simp only [go_sem, Nat.reduceLT, Nat.reduceEqDiff, ↓reduceIte, Nat.reduceAdd, Nat.zero_add, Nat.add_zero, Nat.reduceLeDiff, Int.reduceEq, Nat.reduceMul, t89]
        · simp only [go_sem, Nat.reduceLT, Nat.reduceEqDiff, ↓reduceIte, Nat.reduceAdd, Nat.zero_add, Nat.add_zero, Nat.reduceLeDiff, Int.reduceEq, Nat.reduceMul, t90]
        · simp only [go_sem, Nat.reduceLT, Nat.reduceEqDiff, ↓reduceIte, Nat.reduceAdd, Nat.zero_add, Nat.add_zero, Nat.reduceLeDiff, Int.reduceEq, Nat.reduceMul]
        · simp only [go_sem, Nat.reduceLT, Nat.reduceEqDiff, ↓reduceIte, Nat.reduceAdd, Nat.zero_add, Nat.add_zero, Nat.reduceLeDiff, Int.reduceEq, Nat.reduceMul]
        · simp only [go_sem, Nat.reduceLT, Nat.reduceEqDiff, ↓reduceIte, Nat.reduceAdd, Nat.zero_add, Nat.add_zero, Nat.reduceLeDiff, Int.reduceEq, Nat.reduceMul]; rfl
        · simp only [go_sem, Nat.reduceLT, Nat.reduceEqDiff, ↓reduceIte, Nat.reduceAdd, Nat.zero_add, Nat.add_zero, Nat.reduceLeDiff, Int.reduceEq, Nat.reduceMul]
        clear t4 t5 t9 t88 t89 t90
        rintro nn τ Y ⟨i, rfl, hi, t4, t5, t9, t12, t13, t88, t89, t90, t107, t108, t109, hXY, yx⟩
        have hwi : IntKind.wrap .i64 ((i : Int) + 1) = ((i + 1 : Nat) : Int) := by rw [wrap64] <;> omega
        have hxl : X.next < Y.next := AHeap.get_lt yx
        have xA : ∀ k, X.next < Y.next + k := fun k => by omega
        have xB : ∀ k, X.next ≠ Y.next + k := fun k => by omega
        have xC : X.next ≠ Y.next := by omega
        by_cases hlt2 : i < acc.length
        · rcases hr2 with ⟨h, _⟩ | ⟨b2, par2, g1, g2, g3, g4⟩
          · omega
          injection g2 with g2 _ g5
          subst g2; subst g5
          have yb := hXY.get g3 (by simp)
          have hbY : b2 < Y.next := AHeap.get_lt yb
          have bA : ∀ k, b2 < Y.next + k := fun k => by omega
          have bB : ∀ k, b2 ≠ Y.next + k := fun k => by omega
          have bC : b2 ≠ Y.next := by omega
          obtain ⟨m, hm⟩ : ∃ m, acc[i]? = some m := ⟨_, List.getElem?_eq_getElem hlt2⟩
          obtain ⟨f1, f2⟩ := flat_at (f := mkC) (n := 2) (fun _ => rfl) acc i m hm
          have hzi : (0 : Int) ≤ (i : Int) := by omega
          have hdi : (i : Int) < (acc.length : Int) := by omega
          have hany : ((acc.take (i + 1)).any fun y => (y.1 == (markOf k x).1) && (y.2 == (markOf k x).2)) = ((acc.take i).any (fun y => (y.1 == (markOf k x).1) && (y.2 == (markOf k x).2)) || ((m.1 == x.tmod k) && (m.2 == 4 + (x.tdiv 8).tmod 4))) := by
            rw [List.take_add_one, hm, List.any_append]; simp [markOf]
          have k1 : ∀ o o2, Keeps [] X ((Y.new o).set Y.next o2) := fun o o2 => (hXY.new' _).set' (by omega) (by simp)
          cases c1 : (decide ((8 : Int) < (j : Int)) || (acc.take i).any fun y => (y.1 == (markOf k x).1) && (y.2 == (markOf k x).2))
          · rw [c1] at t13
            simp only [go_sem, Nat.reduceLT, Nat.reduceEqDiff, ↓reduceIte, Nat.reduceAdd, Nat.zero_add, Nat.add_zero, Nat.reduceLeDiff, Int.reduceEq, Nat.reduceMul, List.take_zero, List.drop_succ_cons, List.drop_zero, List.nil_append, List.append_nil, List.drop_nil, List.take_succ_cons, List.take_nil, List.cons_append, Int.toNat_natCast, Int.toNat_zero, Int.toNat_one, t4, t5, t9, t12, t13, t88, t89, t90, t107, t108, t109, yx, yb, hbY, bA, bB, bC, hxl, xA, xB, xC, hzi, hdi, f1, f2, mkC, hwi]
            exact ⟨acc.length - (i + 1), by omega, i + 1, rfl, hlt2, by rw [hany, ← Bool.or_assoc, c1, Bool.false_or], rfl, k1 _ _⟩
          · rw [c1] at t13
            simp only [go_sem, Nat.reduceLT, Nat.reduceEqDiff, ↓reduceIte, Nat.reduceAdd, Nat.zero_add, Nat.add_zero, Nat.reduceLeDiff, Int.reduceEq, Nat.reduceMul, List.take_zero, List.drop_succ_cons, List.drop_zero, List.nil_append, List.append_nil, List.drop_nil, List.take_succ_cons, List.take_nil, List.cons_append, Int.toNat_natCast, Int.toNat_zero, Int.toNat_one, t4, t5, t9, t12, t13, t88, t89, t90, t107, t108, t109, yx, yb, hbY, bA, bB, bC, hxl, xA, xB, xC, hzi, hdi, f1, f2, mkC, hwi]
            exact ⟨acc.length - (i + 1), by omega, i + 1, rfl, hlt2, by rw [hany, ← Bool.or_assoc, c1, Bool.true_or], rfl, k1 _ _⟩
        · obtain rfl : i = acc.length := by omega
          have hd2 : ¬ ((acc.length : Int) < (acc.length : Int)) := by omega
          rw [List.take_length] at t13
          have hKY : Keeps [] H Y := hK.trans hXY
          have hs : marksOf k (bytes.drop j) j acc = marksOf k (x :: bytes.drop (j + 1)) j acc := by rw [drop_at hx]
          have hnl : H.next ≤ Y.next := by omega
          cases c2 : (decide ((8 : Int) < (j : Int)) || acc.any fun y => (y.1 == (markOf k x).1) && (y.2 == (markOf k x).2))
          · rw [c2] at t13
            simp only [Bool.or_eq_false_iff] at c2
            have d8 := of_decide_eq_false c2.1
            have hs2 : marksOf k (bytes.drop j) j acc = marksOf k (bytes.drop (j + 1)) (j + 1) (acc ++ [markOf k x]) := by
              rw [hs]; simp only [marksOf]; rw [if_neg (by rw [c2.2]; simp; omega)]
            obtain ⟨s', U, q1, q2, q3, q4⟩ := app_row (H := Y.new (.cells [.int .u8 (x.tmod k), .int .u16 (4 + (x.tdiv 8).tmod 4)] false [] 2)) (by_ := 4) (vs := [.int .u8 (x.tmod k), .int .u16 (4 + (x.tdiv 8).tmod 4)]) (hr2.keeps (hXY.new' _)) ((flat_len (f := mkC) (fun _ => rfl) _).symm) rfl (by omega) (by unfold grow; omega) (by simp; omega) (by simp; omega)
            have hbl : ∀ b cs par, Y.get b = some (.cells cs false par 9) → U.get b = Y.get b := fun b cs par hg => by
              have hb := AHeap.get_lt hg
              rw [q4 b (by simp; omega) (.inr (.inr fun cs par h => by rw [get_new_old _ hb, hg] at h; injection h with h; injection h with _ _ _ h; omega)), get_new_old _ hb]
            have hr3 : RowL U H.next H.next s k 9 ((finRegs k arr).flatMap RegD.cells) := by
              rcases hr.keeps hXY with h | ⟨b, par, o1, o2, o3, o4⟩
              · exact .inl h
              · exact .inr ⟨b, par, o1, o2, (hbl _ _ _ o3).trans o3, o4⟩
            have hKU : Keeps [] H U := ⟨by simp at q3; omega, fun j hj _ => by rw [q4 j (by simp; omega) (.inl hj), get_new_old _ (by omega), hKY.old j hj (by simp)]⟩
            simp only [go_sem, Nat.reduceLT, Nat.reduceEqDiff, ↓reduceIte, Nat.reduceAdd, Nat.zero_add, Nat.add_zero, Nat.reduceLeDiff, Int.reduceEq, Nat.reduceMul, List.take_zero, List.drop_succ_cons, List.drop_zero, List.nil_append, List.append_nil, List.drop_nil, List.take_succ_cons, List.take_nil, List.cons_append, Int.toNat_natCast, Int.toNat_zero, Int.toNat_one, t4, t5, t9, t12, t13, t88, t89, t90, t107, t108, t109, yx, hxl, xA, xB, xC, hd2, q1, hw]
            exact ⟨bytes.length - (j + 1), by omega, j + 1, acc ++ [markOf k x], _, rfl, hlt, rfl, rfl, hKU, by simp at q3; omega, hr3, by simpa [mkC, markOf] using q2, by rw [hE, hs2], by simp; omega, by simp; omega⟩
          · rw [c2] at t13
            have hs2 : marksOf k (bytes.drop j) j acc = marksOf k (bytes.drop (j + 1)) (j + 1) acc := by
              rw [hs]; simp only [marksOf]; rw [if_pos]
              rcases Bool.or_eq_true _ _ ▸ c2 with h | h
              · exact .inl (by have := of_decide_eq_true h; omega)
              · exact .inr h
            simp only [go_sem, Nat.reduceLT, Nat.reduceEqDiff, ↓reduceIte, Nat.reduceAdd, Nat.zero_add, Nat.add_zero, Nat.reduceLeDiff, Int.reduceEq, Nat.reduceMul, List.take_zero, List.drop_succ_cons, List.drop_zero, List.nil_append, List.append_nil, List.drop_nil, List.take_succ_cons, List.take_nil, List.cons_append, Int.toNat_natCast, Int.toNat_zero, Int.toNat_one, t4, t5, t9, t12, t13, t88, t89, t90, t107, t108, t109, yx, hxl, xA, xB, xC, hd2, hw]
            exact ⟨bytes.length - (j + 1), by omega, j + 1, acc, _, rfl, hlt, rfl, rfl, hKY, by omega, hr.keeps hXY, hr2.keeps hXY, by rw [hE, hs2], by omega, ha2⟩
      · obtain rfl : j = bytes.length := by omega
        have hd : ¬ ((bytes.length : Int) < (bytes.length : Int)) := by omega
        rw [List.drop_length] at hE
        have hm : marksOf k bytes 0 [] = acc := by rw [hE]; rfl
        have hnl : (finRegs k arr).length = k := by simp [finRegs]
        simp only [go_sem, Nat.reduceLT, Nat.reduceEqDiff, ↓reduceIte, Nat.reduceAdd, Nat.zero_add, Nat.add_zero, Nat.reduceLeDiff, Int.reduceEq, Nat.reduceMul, List.take_zero, List.drop_succ_cons, List.drop_zero, List.nil_append, List.append_nil, List.drop_nil, List.take_succ_cons, List.take_nil, List.cons_append, Int.toNat_natCast, Int.toNat_zero, Int.toNat_one, t4, t5, t9, t88, t89, t90, hd, hm]
        exact ⟨hK, _, _, rfl, by rw [hnl]; exact hr, hr2⟩
theorem regs_c {H : AHeap} {a : Int} {arr bytes : List Int} {sl : Value} (ha : 0 ≤ a ∧ a ≤ 255) (h25 : arr.length = 25) (hb : ∀ x ∈ arr, 0 ≤ x ∧ x ≤ 255) (hs : SlcE H sl (fun x => [Value.int .u8 x]) 1 bytes) (hbb : ∀ x ∈ bytes, 0 ≤ x ∧ x ≤ 255) (hlen : bytes.length < 4611686018427387904) :
    ACalls Tryd.prog 4 19 [.agg (sizeCells a arr sl).toArray] H fun v H' => Keeps [] H H' ∧ ∃ sr sm, v = .tuple #[sr, sm] ∧ SlcE H' sr RegD.cells 9 (finRegs (2 + a.tmod 4).toNat arr) ∧ SlcE H' sm mkC 2 (marksOf (2 + a.tmod 4) bytes 0 []) :=
  (regs_cL ha h25 hb hs hbb hlen).mono fun v H' ⟨hK, sr, sm, hv, h1, h2⟩ => ⟨hK, sr, sm, hv, RowL.slc h1 RegD.cells_length, RowL.slc h2 fun _ => rfl⟩
end Go.Proofs.YtkjclebafpomhaaDoor
set_option linter.unusedVariables false
set_option linter.unusedSimpArgs false
namespace Go.Eng
open Go
theorem bytes_beq (a b : ByteArray) : (a == b) = decide (a = b) := by
  cases a with | mk x => cases b with | mk y =>
  have : ((⟨x⟩ : ByteArray) == ⟨y⟩) = (x == y) := id rfl
  rw [this, Bool.eq_iff_iff]
  simp
theorem toList_beq (s u : ByteArray) : (s.toList == u.toList) = (s == u) := by
  rw [ByteArray.toList_eq, ByteArray.toList_eq, bytes_beq, Bool.eq_iff_iff]
  simp only [beq_iff_eq, decide_eq_true_eq]
  exact ⟨fun h => by cases s; cases u; simp_all, fun h => by rw [h]⟩
section
variable (P : Program) (T : Tb) (t : TypeId) (ox oy : Operand) (k k' : IntKind) (a b : Int) (H : AHeap) (s u : ByteArray)
def andI (k : IntKind) (a b : Int) : Int := k.wrap (BitVec.ofInt k.bits a &&& BitVec.ofInt k.bits b).toNat
def orI (k : IntKind) (a b : Int) : Int := k.wrap (BitVec.ofInt k.bits a ||| BitVec.ofInt k.bits b).toNat
def xorI (k : IntKind) (a b : Int) : Int := k.wrap (BitVec.ofInt k.bits a ^^^ BitVec.ofInt k.bits b).toNat
def shrI (k : IntKind) (a b : Int) : Int := a.fdiv (2 ^ (min b.toNat k.bits))
def shlI (k : IntKind) (a b : Int) : Int := k.wrap (a * 2 ^ (min b.toNat k.bits))
@[go_sem] theorem aBinF_and : aBinF P T .and t ox oy (.int k a) (.int k b) H = some (.int k (andI k a b)) := aBinF_int _ _ _ _ _ _ _ _ _ _ (by simp) (by simp) rfl (by simp [binOp, Op.intBits, andI])
@[go_sem] theorem aBinF_or : aBinF P T .or t ox oy (.int k a) (.int k b) H = some (.int k (orI k a b)) := aBinF_int _ _ _ _ _ _ _ _ _ _ (by simp) (by simp) rfl (by simp [binOp, Op.intBits, orI])
@[go_sem] theorem aBinF_xor : aBinF P T .xor t ox oy (.int k a) (.int k b) H = some (.int k (xorI k a b)) := aBinF_int _ _ _ _ _ _ _ _ _ _ (by simp) (by simp) rfl (by simp [binOp, Op.intBits, xorI])
theorem aBinF_any {op : BinOp} {x y : Value} (f : Value) (hx : flat 2 x = true) (hy : flat 2 y = true) (h0 : eqGuard op t ox oy x y = pure ()) (hf : flat 1 f = true) (h : prun P (binOp op t x y) = some f) : aBinF P T op t ox oy x y H = some f := by
  have e : prun P (do eqGuard op t ox oy x y; binOp op t x y) = some f := by rw [h0]; exact h
  unfold aBinF aBin
  rw [if_pos (by rw [hx, hy]; rfl), e]
  simp [hf]
@[go_sem] theorem aBinF_shr (h : 0 ≤ b) : aBinF P T .shr t ox oy (.int k a) (.int k' b) H = some (.int k (shrI k a b)) := by
  refine aBinF_any P T t ox oy H _ rfl rfl rfl rfl ?_
  show prun P (Op.shift .shr k a k' b) = _
  unfold Op.shift
  rw [if_neg (by omega)]
  rfl
@[go_sem] theorem aBinF_shl (h : 0 ≤ b) : aBinF P T .shl t ox oy (.int k a) (.int k' b) H = some (.int k (shlI k a b)) := by
  refine aBinF_any P T t ox oy H _ rfl rfl rfl rfl ?_
  show prun P (Op.shift .shl k a k' b) = _
  unfold Op.shift
  rw [if_neg (by omega)]
  rfl
@[go_sem] theorem aBinF_eqlS : aBinF P T .eql t ox oy (.string s) (.string u) H = some (.bool (s == u)) := by
  refine aBinF_any P T t ox oy H _ rfl rfl rfl rfl ?_
  show prun P (Op.stringOp .eql s u) = _
  unfold Op.stringOp
  rw [← toList_beq]
  rfl
@[go_sem] theorem aBinF_neqS : aBinF P T .neq t ox oy (.string s) (.string u) H = some (.bool (!(s == u))) := by
  refine aBinF_any P T t ox oy H _ rfl rfl rfl rfl ?_
  show prun P (Op.stringOp .neq s u) = _
  unfold Op.stringOp
  rw [← toList_beq]
  rfl
@[go_sem] theorem aBinF_addS (h : s.size + u.size < 9223372036854775808) : aBinF P T .add t ox oy (.string s) (.string u) H = some (.string (s ++ u)) := by
  refine aBinF_any P T t ox oy H _ rfl rfl rfl rfl ?_
  show prun P (Op.stringOp .add s u) = _
  unfold Op.stringOp
  simp only
  rw [if_neg (by have : IntKind.i64.max = 9223372036854775807 := by decide
                 rw [this]; omega)]
  rfl
end
end Go.Eng
set_option linter.unusedVariables false
set_option linter.unusedSimpArgs false
set_option maxRecDepth 100000
namespace Go.Proofs.YtkjclebafpomhaaDoor
open Go Go.Eng
@[go_sem] theorem al_117 (H : AHeap) : aAlloc tb 117 H = some (.pointer (some ⟨H.next, 0, none⟩), H.new (.cells [.int .i64 0, .int .i64 0, .int .i64 0, .int .i64 0, .int .i64 0, .int .i64 0] false [] 0)) := by exact id (by kernel_rfl)
@[go_sem] theorem al_125 (H : AHeap) : aAlloc tb 125 H = some (.pointer (some ⟨H.next, 0, none⟩), H.new (.cells [.string ⟨#[]⟩, .string ⟨#[]⟩] false [] 0)) := by exact id (by kernel_rfl)
@[go_sem] theorem al_129 (H : AHeap) : aAlloc tb 129 H = some (.pointer (some ⟨H.next, 0, none⟩), H.new (.cells [.int .i64 0, .int .i64 0, .int .i64 0, .int .i64 0, .int .i64 0] false [] 0)) := by exact id (by kernel_rfl)
@[go_sem] theorem al_134 (H : AHeap) : aAlloc tb 134 H = some (.pointer (some ⟨H.next, 0, none⟩), H.new (.cells [.pointer none, .slice none 0 0] false [] 0)) := by exact id (by kernel_rfl)
@[go_sem] theorem al_148 (H : AHeap) : aAlloc tb 148 H = some (.pointer (some ⟨H.next, 0, none⟩), H.new (.cells [.int .i64 0, .slice none 0 0] false [] 0)) := by exact id (by kernel_rfl)
@[go_sem] theorem al_214 (H : AHeap) : aAlloc tb 214 H = some (.pointer (some ⟨H.next, 0, none⟩), H.new (.cells [.string ⟨#[]⟩, .string ⟨#[]⟩, .string ⟨#[]⟩, .string ⟨#[]⟩, .string ⟨#[]⟩, .string ⟨#[]⟩, .string ⟨#[]⟩, .string ⟨#[]⟩, .string ⟨#[]⟩, .string ⟨#[]⟩, .string ⟨#[]⟩, .string ⟨#[]⟩, .string ⟨#[]⟩, .string ⟨#[]⟩, .string ⟨#[]⟩, .string ⟨#[]⟩, .string ⟨#[]⟩, .string ⟨#[]⟩, .string ⟨#[]⟩, .string ⟨#[]⟩, .string ⟨#[]⟩, .string ⟨#[]⟩, .string ⟨#[]⟩, .string ⟨#[]⟩, .string ⟨#[]⟩, .string ⟨#[]⟩, .string ⟨#[]⟩, .string ⟨#[]⟩, .string ⟨#[]⟩, .string ⟨#[]⟩, .string ⟨#[]⟩, .string ⟨#[]⟩, .string ⟨#[]⟩, .string ⟨#[]⟩, .string ⟨#[]⟩, .string ⟨#[]⟩, .string ⟨#[]⟩, .string ⟨#[]⟩, .string ⟨#[]⟩, .string ⟨#[]⟩] false [] 0)) := by exact id (by kernel_rfl)
@[go_sem] theorem al_220 (H : AHeap) : aAlloc tb 220 H = some (.pointer (some ⟨H.next, 0, none⟩), H.new (.cells [.int .i64 0, .int .i64 0] false [] 0)) := by exact id (by kernel_rfl)
@[go_sem] theorem al_231 (H : AHeap) : aAlloc tb 231 H = some (.pointer (some ⟨H.next, 0, none⟩), H.new (.cells [.int .u8 0, .int .u8 0, .int .u8 0] false [] 0)) := by exact id (by kernel_rfl)
@[go_sem] theorem al_238 (H : AHeap) : aAlloc tb 238 H = some (.pointer (some ⟨H.next, 0, none⟩), H.new (.cells [.int .u8 0, .int .u8 0] false [] 0)) := by exact id (by kernel_rfl)
@[go_sem] theorem al_36 (H : AHeap) : aAlloc tb 36 H = some (.pointer (some ⟨H.next, 0, none⟩), H.new (.cells [.int .u8 0, .int .u16 0] false [] 0)) := by exact id (by kernel_rfl)
@[go_sem] theorem al_69 (H : AHeap) : aAlloc tb 69 H = some (.pointer (some ⟨H.next, 0, none⟩), H.new (.cells [.int .u8 0, .slice none 0 0] false [] 0)) := by exact id (by kernel_rfl)
@[go_sem] theorem al_77 (H : AHeap) : aAlloc tb 77 H = some (.pointer (some ⟨H.next, 0, none⟩), H.new (.cells [.int .u8 0, .int .u8 0, .int .u8 0, .int .u8 0] false [] 0)) := by exact id (by kernel_rfl)
@[go_sem] theorem al_79 (H : AHeap) : aAlloc tb 79 H = some (.pointer (some ⟨H.next, 0, none⟩), H.new (.cells [.int .u8 0, .int .u8 0, .int .u8 0, .int .u8 0] false [] 0)) := by exact id (by kernel_rfl)
@[go_sem] theorem ap_108_108 (P : Program) (s x : Value) (H : AHeap) : aBuiltin P tb .append #[108, 108] [s, x] H = appW 6 48 s (srcOf H 6 x) H := aAppend_app (T := tb) (t := 108) (xt := 108) (sz := 6) (by_ := 48) (by kernel_rfl) s x H
@[go_sem] theorem ap_119_119 (P : Program) (s x : Value) (H : AHeap) : aBuiltin P tb .append #[119, 119] [s, x] H = appW 2 32 s (srcOf H 2 x) H := aAppend_app (T := tb) (t := 119) (xt := 119) (sz := 2) (by_ := 32) (by kernel_rfl) s x H
@[go_sem] theorem ap_120_120 (P : Program) (s x : Value) (H : AHeap) : aBuiltin P tb .append #[120, 120] [s, x] H = appW 1 8 s (srcOf H 1 x) H := aAppend_app (T := tb) (t := 120) (xt := 120) (sz := 1) (by_ := 8) (by kernel_rfl) s x H
@[go_sem] theorem ap_126_126 (P : Program) (s x : Value) (H : AHeap) : aBuiltin P tb .append #[126, 126] [s, x] H = appW 1 24 s (srcOf H 1 x) H := aAppend_app (T := tb) (t := 126) (xt := 126) (sz := 1) (by_ := 24) (by kernel_rfl) s x H
@[go_sem] theorem ap_144_144 (P : Program) (s x : Value) (H : AHeap) : aBuiltin P tb .append #[144, 144] [s, x] H = appW 2 32 s (srcOf H 2 x) H := aAppend_app (T := tb) (t := 144) (xt := 144) (sz := 2) (by_ := 32) (by kernel_rfl) s x H
@[go_sem] theorem ap_154_154 (P : Program) (s x : Value) (H : AHeap) : aBuiltin P tb .append #[154, 154] [s, x] H = appW 2 24 s (srcOf H 2 x) H := aAppend_app (T := tb) (t := 154) (xt := 154) (sz := 2) (by_ := 24) (by kernel_rfl) s x H
@[go_sem] theorem ap_155_155 (P : Program) (s x : Value) (H : AHeap) : aBuiltin P tb .append #[155, 155] [s, x] H = appW 2 32 s (srcOf H 2 x) H := aAppend_app (T := tb) (t := 155) (xt := 155) (sz := 2) (by_ := 32) (by kernel_rfl) s x H
@[go_sem] theorem ap_218_218 (P : Program) (s x : Value) (H : AHeap) : aBuiltin P tb .append #[218, 218] [s, x] H = appW 2 16 s (srcOf H 2 x) H := aAppend_app (T := tb) (t := 218) (xt := 218) (sz := 2) (by_ := 16) (by kernel_rfl) s x H
@[go_sem] theorem ap_24_24 (P : Program) (s x : Value) (H : AHeap) : aBuiltin P tb .append #[24, 24] [s, x] H = appW 1 1 s (srcOf H 1 x) H := aAppend_app (T := tb) (t := 24) (xt := 24) (sz := 1) (by_ := 1) (by kernel_rfl) s x H
@[go_sem] theorem ap_24_9 (P : Program) (s x : Value) (H : AHeap) : aBuiltin P tb .append #[24, 9] [s, x] H = appW 1 1 s (srcOf H 1 x) H := aAppend_app (T := tb) (t := 24) (xt := 9) (sz := 1) (by_ := 1) (by kernel_rfl) s x H
@[go_sem] theorem ap_60_60 (P : Program) (s x : Value) (H : AHeap) : aBuiltin P tb .append #[60, 60] [s, x] H = appW 1 16 s (srcOf H 1 x) H := aAppend_app (T := tb) (t := 60) (xt := 60) (sz := 1) (by_ := 16) (by kernel_rfl) s x H
@[go_sem] theorem bl_117 (ps : List (Nat × Value)) : aBuild tb 117 ps = (afill (fun i => ([(0, 1), (1, 1), (2, 1), (3, 1), (4, 1), (5, 1)] : List (Nat × Nat))[i]?) [.int .i64 0, .int .i64 0, .int .i64 0, .int .i64 0, .int .i64 0, .int .i64 0] ps).map fun cs => .agg cs.toArray := by exact id (by kernel_rfl)
@[go_sem] theorem bl_125 (ps : List (Nat × Value)) : aBuild tb 125 ps = (afill (fun k => some (k * 1, 1)) [.string ⟨#[]⟩, .string ⟨#[]⟩] ps).map fun cs => .agg cs.toArray := by exact id (by kernel_rfl)
@[go_sem] theorem bl_146 (ps : List (Nat × Value)) : aBuild tb 146 ps = (afill (fun i => ([(0, 1), (1, 1), (2, 1), (3, 1)] : List (Nat × Nat))[i]?) [.slice none 0 0, .map none, .int .u8 0, .int .i64 0] ps).map fun cs => .agg cs.toArray := by exact id (by kernel_rfl)
@[go_sem] theorem bl_148 (ps : List (Nat × Value)) : aBuild tb 148 ps = (afill (fun i => ([(0, 1), (1, 1)] : List (Nat × Nat))[i]?) [.int .i64 0, .slice none 0 0] ps).map fun cs => .agg cs.toArray := by exact id (by kernel_rfl)
@[go_sem] theorem bl_158 (ps : List (Nat × Value)) : aBuild tb 158 ps = (afill (fun i => ([(0, 1), (1, 1)] : List (Nat × Nat))[i]?) [.string ⟨#[]⟩, .int .i64 0] ps).map fun cs => .agg cs.toArray := by exact id (by kernel_rfl)
@[go_sem] theorem bl_162 (ps : List (Nat × Value)) : aBuild tb 162 ps = (afill (fun i => ([(0, 1), (1, 1)] : List (Nat × Nat))[i]?) [.int .i64 0, .slice none 0 0] ps).map fun cs => .agg cs.toArray := by exact id (by kernel_rfl)
@[go_sem] theorem bl_214 (ps : List (Nat × Value)) : aBuild tb 214 ps = (afill (fun k => some (k * 1, 1)) [.string ⟨#[]⟩, .string ⟨#[]⟩, .string ⟨#[]⟩, .string ⟨#[]⟩, .string ⟨#[]⟩, .string ⟨#[]⟩, .string ⟨#[]⟩, .string ⟨#[]⟩, .string ⟨#[]⟩, .string ⟨#[]⟩, .string ⟨#[]⟩, .string ⟨#[]⟩, .string ⟨#[]⟩, .string ⟨#[]⟩, .string ⟨#[]⟩, .string ⟨#[]⟩, .string ⟨#[]⟩, .string ⟨#[]⟩, .string ⟨#[]⟩, .string ⟨#[]⟩, .string ⟨#[]⟩, .string ⟨#[]⟩, .string ⟨#[]⟩, .string ⟨#[]⟩, .string ⟨#[]⟩, .string ⟨#[]⟩, .string ⟨#[]⟩, .string ⟨#[]⟩, .string ⟨#[]⟩, .string ⟨#[]⟩, .string ⟨#[]⟩, .string ⟨#[]⟩, .string ⟨#[]⟩, .string ⟨#[]⟩, .string ⟨#[]⟩, .string ⟨#[]⟩, .string ⟨#[]⟩, .string ⟨#[]⟩, .string ⟨#[]⟩, .string ⟨#[]⟩] ps).map fun cs => .agg cs.toArray := by exact id (by kernel_rfl)
@[go_sem] theorem bl_220 (ps : List (Nat × Value)) : aBuild tb 220 ps = (afill (fun i => ([(0, 1), (1, 1)] : List (Nat × Nat))[i]?) [.int .i64 0, .int .i64 0] ps).map fun cs => .agg cs.toArray := by exact id (by kernel_rfl)
@[go_sem] theorem bl_231 (ps : List (Nat × Value)) : aBuild tb 231 ps = (afill (fun k => some (k * 1, 1)) [.int .u8 0, .int .u8 0, .int .u8 0] ps).map fun cs => .agg cs.toArray := by exact id (by kernel_rfl)
@[go_sem] theorem bl_69 (ps : List (Nat × Value)) : aBuild tb 69 ps = (afill (fun i => ([(0, 1), (1, 1)] : List (Nat × Nat))[i]?) [.int .u8 0, .slice none 0 0] ps).map fun cs => .agg cs.toArray := by exact id (by kernel_rfl)
@[go_sem] theorem bl_77 (ps : List (Nat × Value)) : aBuild tb 77 ps = (afill (fun i => ([(0, 1), (1, 1), (2, 1), (3, 1)] : List (Nat × Nat))[i]?) [.int .u8 0, .int .u8 0, .int .u8 0, .int .u8 0] ps).map fun cs => .agg cs.toArray := by exact id (by kernel_rfl)
@[go_sem] theorem bl_79 (ps : List (Nat × Value)) : aBuild tb 79 ps = (afill (fun k => some (k * 1, 1)) [.int .u8 0, .int .u8 0, .int .u8 0, .int .u8 0] ps).map fun cs => .agg cs.toArray := by exact id (by kernel_rfl)
@[go_sem] theorem bs_108_1 (ps : List (Nat × Value)) (H : AHeap) : aBuildSlice tb 108 1 ps H = (afill (fun k => some (k * 6, 6)) [.int .i64 0, .int .i64 0, .int .i64 0, .int .i64 0, .int .i64 0, .int .i64 0] ps).bind fun cs => (aNew cs 6 H).map fun r => (.slice (some ⟨H.next, 0, none⟩) 1 1, r.2) := by exact id (by kernel_rfl)
@[go_sem] theorem bs_119_1 (ps : List (Nat × Value)) (H : AHeap) : aBuildSlice tb 119 1 ps H = (afill (fun k => some (k * 2, 2)) [.string ⟨#[]⟩, .string ⟨#[]⟩] ps).bind fun cs => (aNew cs 2 H).map fun r => (.slice (some ⟨H.next, 0, none⟩) 1 1, r.2) := by exact id (by kernel_rfl)
@[go_sem] theorem bs_120_1 (ps : List (Nat × Value)) (H : AHeap) : aBuildSlice tb 120 1 ps H = (afill (fun k => some (k * 1, 1)) [.int .i64 0] ps).bind fun cs => (aNew cs 1 H).map fun r => (.slice (some ⟨H.next, 0, none⟩) 1 1, r.2) := by exact id (by kernel_rfl)
@[go_sem] theorem bs_120_3 (ps : List (Nat × Value)) (H : AHeap) : aBuildSlice tb 120 3 ps H = (afill (fun k => some (k * 1, 1)) [.int .i64 0, .int .i64 0, .int .i64 0] ps).bind fun cs => (aNew cs 1 H).map fun r => (.slice (some ⟨H.next, 0, none⟩) 3 3, r.2) := by exact id (by kernel_rfl)
@[go_sem] theorem bs_120_5 (ps : List (Nat × Value)) (H : AHeap) : aBuildSlice tb 120 5 ps H = (afill (fun k => some (k * 1, 1)) [.int .i64 0, .int .i64 0, .int .i64 0, .int .i64 0, .int .i64 0] ps).bind fun cs => (aNew cs 1 H).map fun r => (.slice (some ⟨H.next, 0, none⟩) 5 5, r.2) := by exact id (by kernel_rfl)
@[go_sem] theorem bs_120_9 (ps : List (Nat × Value)) (H : AHeap) : aBuildSlice tb 120 9 ps H = (afill (fun k => some (k * 1, 1)) [.int .i64 0, .int .i64 0, .int .i64 0, .int .i64 0, .int .i64 0, .int .i64 0, .int .i64 0, .int .i64 0, .int .i64 0] ps).bind fun cs => (aNew cs 1 H).map fun r => (.slice (some ⟨H.next, 0, none⟩) 9 9, r.2) := by exact id (by kernel_rfl)
@[go_sem] theorem bs_126_1 (ps : List (Nat × Value)) (H : AHeap) : aBuildSlice tb 126 1 ps H = (afill (fun k => some (k * 1, 1)) [.slice none 0 0] ps).bind fun cs => (aNew cs 1 H).map fun r => (.slice (some ⟨H.next, 0, none⟩) 1 1, r.2) := by exact id (by kernel_rfl)
@[go_sem] theorem bs_144_1 (ps : List (Nat × Value)) (H : AHeap) : aBuildSlice tb 144 1 ps H = (afill (fun k => some (k * 2, 2)) [.int .i64 0, .slice none 0 0] ps).bind fun cs => (aNew cs 2 H).map fun r => (.slice (some ⟨H.next, 0, none⟩) 1 1, r.2) := by exact id (by kernel_rfl)
@[go_sem] theorem bs_154_1 (ps : List (Nat × Value)) (H : AHeap) : aBuildSlice tb 154 1 ps H = (afill (fun k => some (k * 2, 2)) [.string ⟨#[]⟩, .int .i64 0] ps).bind fun cs => (aNew cs 2 H).map fun r => (.slice (some ⟨H.next, 0, none⟩) 1 1, r.2) := by exact id (by kernel_rfl)
@[go_sem] theorem bs_155_1 (ps : List (Nat × Value)) (H : AHeap) : aBuildSlice tb 155 1 ps H = (afill (fun k => some (k * 2, 2)) [.int .i64 0, .slice none 0 0] ps).bind fun cs => (aNew cs 2 H).map fun r => (.slice (some ⟨H.next, 0, none⟩) 1 1, r.2) := by exact id (by kernel_rfl)
@[go_sem] theorem bs_189_5 (ps : List (Nat × Value)) (H : AHeap) : aBuildSlice tb 189 5 ps H = (afill (fun k => some (k * 1, 1)) [.pointer none, .pointer none, .pointer none, .pointer none, .pointer none] ps).bind fun cs => (aNew cs 1 H).map fun r => (.slice (some ⟨H.next, 0, none⟩) 5 5, r.2) := by exact id (by kernel_rfl)
@[go_sem] theorem bs_205_3 (ps : List (Nat × Value)) (H : AHeap) : aBuildSlice tb 205 3 ps H = (afill (fun k => some (k * 1, 1)) [.pointer none, .pointer none, .pointer none] ps).bind fun cs => (aNew cs 1 H).map fun r => (.slice (some ⟨H.next, 0, none⟩) 3 3, r.2) := by exact id (by kernel_rfl)
@[go_sem] theorem bs_218_1 (ps : List (Nat × Value)) (H : AHeap) : aBuildSlice tb 218 1 ps H = (afill (fun k => some (k * 2, 2)) [.int .i64 0, .int .i64 0] ps).bind fun cs => (aNew cs 2 H).map fun r => (.slice (some ⟨H.next, 0, none⟩) 1 1, r.2) := by exact id (by kernel_rfl)
@[go_sem] theorem bs_24_1 (ps : List (Nat × Value)) (H : AHeap) : aBuildSlice tb 24 1 ps H = (afill (fun k => some (k * 1, 1)) [.int .u8 0] ps).bind fun cs => (aNew cs 1 H).map fun r => (.slice (some ⟨H.next, 0, none⟩) 1 1, r.2) := by exact id (by kernel_rfl)
@[go_sem] theorem bs_24_3 (ps : List (Nat × Value)) (H : AHeap) : aBuildSlice tb 24 3 ps H = (afill (fun k => some (k * 1, 1)) [.int .u8 0, .int .u8 0, .int .u8 0] ps).bind fun cs => (aNew cs 1 H).map fun r => (.slice (some ⟨H.next, 0, none⟩) 3 3, r.2) := by exact id (by kernel_rfl)
@[go_sem] theorem bs_24_4 (ps : List (Nat × Value)) (H : AHeap) : aBuildSlice tb 24 4 ps H = (afill (fun k => some (k * 1, 1)) [.int .u8 0, .int .u8 0, .int .u8 0, .int .u8 0] ps).bind fun cs => (aNew cs 1 H).map fun r => (.slice (some ⟨H.next, 0, none⟩) 4 4, r.2) := by exact id (by kernel_rfl)
@[go_sem] theorem bs_24_8 (ps : List (Nat × Value)) (H : AHeap) : aBuildSlice tb 24 8 ps H = (afill (fun k => some (k * 1, 1)) [.int .u8 0, .int .u8 0, .int .u8 0, .int .u8 0, .int .u8 0, .int .u8 0, .int .u8 0, .int .u8 0] ps).bind fun cs => (aNew cs 1 H).map fun r => (.slice (some ⟨H.next, 0, none⟩) 8 8, r.2) := by exact id (by kernel_rfl)
@[go_sem] theorem bs_51_4 (ps : List (Nat × Value)) (H : AHeap) : aBuildSlice tb 51 4 ps H = (afill (fun k => some (k * 1, 1)) [.slice none 0 0, .slice none 0 0, .slice none 0 0, .slice none 0 0] ps).bind fun cs => (aNew cs 1 H).map fun r => (.slice (some ⟨H.next, 0, none⟩) 4 4, r.2) := by exact id (by kernel_rfl)
@[go_sem] theorem bs_52_3 (ps : List (Nat × Value)) (H : AHeap) : aBuildSlice tb 52 3 ps H = (afill (fun k => some (k * 1, 1)) [.slice none 0 0, .slice none 0 0, .slice none 0 0] ps).bind fun cs => (aNew cs 1 H).map fun r => (.slice (some ⟨H.next, 0, none⟩) 3 3, r.2) := by exact id (by kernel_rfl)
@[go_sem] theorem bs_60_1 (ps : List (Nat × Value)) (H : AHeap) : aBuildSlice tb 60 1 ps H = (afill (fun k => some (k * 1, 1)) [.string ⟨#[]⟩] ps).bind fun cs => (aNew cs 1 H).map fun r => (.slice (some ⟨H.next, 0, none⟩) 1 1, r.2) := by exact id (by kernel_rfl)
@[go_sem] theorem bs_60_14 (ps : List (Nat × Value)) (H : AHeap) : aBuildSlice tb 60 14 ps H = (afill (fun k => some (k * 1, 1)) [.string ⟨#[]⟩, .string ⟨#[]⟩, .string ⟨#[]⟩, .string ⟨#[]⟩, .string ⟨#[]⟩, .string ⟨#[]⟩, .string ⟨#[]⟩, .string ⟨#[]⟩, .string ⟨#[]⟩, .string ⟨#[]⟩, .string ⟨#[]⟩, .string ⟨#[]⟩, .string ⟨#[]⟩, .string ⟨#[]⟩] ps).bind fun cs => (aNew cs 1 H).map fun r => (.slice (some ⟨H.next, 0, none⟩) 14 14, r.2) := by exact id (by kernel_rfl)
@[go_sem] theorem bs_60_2 (ps : List (Nat × Value)) (H : AHeap) : aBuildSlice tb 60 2 ps H = (afill (fun k => some (k * 1, 1)) [.string ⟨#[]⟩, .string ⟨#[]⟩] ps).bind fun cs => (aNew cs 1 H).map fun r => (.slice (some ⟨H.next, 0, none⟩) 2 2, r.2) := by exact id (by kernel_rfl)
@[go_sem] theorem bs_60_3 (ps : List (Nat × Value)) (H : AHeap) : aBuildSlice tb 60 3 ps H = (afill (fun k => some (k * 1, 1)) [.string ⟨#[]⟩, .string ⟨#[]⟩, .string ⟨#[]⟩] ps).bind fun cs => (aNew cs 1 H).map fun r => (.slice (some ⟨H.next, 0, none⟩) 3 3, r.2) := by exact id (by kernel_rfl)
@[go_sem] theorem bs_60_39 (ps : List (Nat × Value)) (H : AHeap) : aBuildSlice tb 60 39 ps H = (afill (fun k => some (k * 1, 1)) [.string ⟨#[]⟩, .string ⟨#[]⟩, .string ⟨#[]⟩, .string ⟨#[]⟩, .string ⟨#[]⟩, .string ⟨#[]⟩, .string ⟨#[]⟩, .string ⟨#[]⟩, .string ⟨#[]⟩, .string ⟨#[]⟩, .string ⟨#[]⟩, .string ⟨#[]⟩, .string ⟨#[]⟩, .string ⟨#[]⟩, .string ⟨#[]⟩, .string ⟨#[]⟩, .string ⟨#[]⟩, .string ⟨#[]⟩, .string ⟨#[]⟩, .string ⟨#[]⟩, .string ⟨#[]⟩, .string ⟨#[]⟩, .string ⟨#[]⟩, .string ⟨#[]⟩, .string ⟨#[]⟩, .string ⟨#[]⟩, .string ⟨#[]⟩, .string ⟨#[]⟩, .string ⟨#[]⟩, .string ⟨#[]⟩, .string ⟨#[]⟩, .string ⟨#[]⟩, .string ⟨#[]⟩, .string ⟨#[]⟩, .string ⟨#[]⟩, .string ⟨#[]⟩, .string ⟨#[]⟩, .string ⟨#[]⟩, .string ⟨#[]⟩] ps).bind fun cs => (aNew cs 1 H).map fun r => (.slice (some ⟨H.next, 0, none⟩) 39 39, r.2) := by exact id (by kernel_rfl)
@[go_sem] theorem bs_60_40 (ps : List (Nat × Value)) (H : AHeap) : aBuildSlice tb 60 40 ps H = (afill (fun k => some (k * 1, 1)) [.string ⟨#[]⟩, .string ⟨#[]⟩, .string ⟨#[]⟩, .string ⟨#[]⟩, .string ⟨#[]⟩, .string ⟨#[]⟩, .string ⟨#[]⟩, .string ⟨#[]⟩, .string ⟨#[]⟩, .string ⟨#[]⟩, .string ⟨#[]⟩, .string ⟨#[]⟩, .string ⟨#[]⟩, .string ⟨#[]⟩, .string ⟨#[]⟩, .string ⟨#[]⟩, .string ⟨#[]⟩, .string ⟨#[]⟩, .string ⟨#[]⟩, .string ⟨#[]⟩, .string ⟨#[]⟩, .string ⟨#[]⟩, .string ⟨#[]⟩, .string ⟨#[]⟩, .string ⟨#[]⟩, .string ⟨#[]⟩, .string ⟨#[]⟩, .string ⟨#[]⟩, .string ⟨#[]⟩, .string ⟨#[]⟩, .string ⟨#[]⟩, .string ⟨#[]⟩, .string ⟨#[]⟩, .string ⟨#[]⟩, .string ⟨#[]⟩, .string ⟨#[]⟩, .string ⟨#[]⟩, .string ⟨#[]⟩, .string ⟨#[]⟩, .string ⟨#[]⟩] ps).bind fun cs => (aNew cs 1 H).map fun r => (.slice (some ⟨H.next, 0, none⟩) 40 40, r.2) := by exact id (by kernel_rfl)
@[go_sem] theorem bs_82_7 (ps : List (Nat × Value)) (H : AHeap) : aBuildSlice tb 82 7 ps H = (afill (fun k => some (k * 4, 4)) [.int .u8 0, .int .u8 0, .int .u8 0, .int .u8 0, .int .u8 0, .int .u8 0, .int .u8 0, .int .u8 0, .int .u8 0, .int .u8 0, .int .u8 0, .int .u8 0, .int .u8 0, .int .u8 0, .int .u8 0, .int .u8 0, .int .u8 0, .int .u8 0, .int .u8 0, .int .u8 0, .int .u8 0, .int .u8 0, .int .u8 0, .int .u8 0, .int .u8 0, .int .u8 0, .int .u8 0, .int .u8 0] ps).bind fun cs => (aNew cs 4 H).map fun r => (.slice (some ⟨H.next, 0, none⟩) 7 7, r.2) := by exact id (by kernel_rfl)
@[go_sem] theorem cv_111_5 (k : IntKind) (n : Int) (H : AHeap) : aConv tb 111 5 (.int k n) H = some (.int .u8 (IntKind.wrap .u8 n), H) := by exact id (by kernel_rfl)
@[go_sem] theorem cv_165_3 (k : IntKind) (n : Int) (H : AHeap) : aConv tb 165 3 (.int k n) H = some (.int .i64 (IntKind.wrap .i64 n), H) := by exact id (by kernel_rfl)
@[go_sem] theorem cv_165_34 (k : IntKind) (n : Int) (H : AHeap) : aConv tb 165 34 (.int k n) H = some (.int .u16 (IntKind.wrap .u16 n), H) := by exact id (by kernel_rfl)
@[go_sem] theorem cv_215_21 (k : IntKind) (n : Int) (H : AHeap) : aConv tb 215 21 (.int k n) H = some (.int .i32 (IntKind.wrap .i32 n), H) := by exact id (by kernel_rfl)
@[go_sem] theorem cv_21_111 (k : IntKind) (n : Int) (H : AHeap) : aConv tb 21 111 (.int k n) H = some (.int .u32 (IntKind.wrap .u32 n), H) := by exact id (by kernel_rfl)
@[go_sem] theorem cv_21_3 (k : IntKind) (n : Int) (H : AHeap) : aConv tb 21 3 (.int k n) H = some (.int .i64 (IntKind.wrap .i64 n), H) := by exact id (by kernel_rfl)
@[go_sem] theorem cv_27_111 (k : IntKind) (n : Int) (H : AHeap) : aConv tb 27 111 (.int k n) H = some (.int .u32 (IntKind.wrap .u32 n), H) := by exact id (by kernel_rfl)
@[go_sem] theorem cv_2_5 (k : IntKind) (n : Int) (H : AHeap) : aConv tb 2 5 (.int k n) H = some (.int .u8 (IntKind.wrap .u8 n), H) := by exact id (by kernel_rfl)
@[go_sem] theorem cv_34_111 (k : IntKind) (n : Int) (H : AHeap) : aConv tb 34 111 (.int k n) H = some (.int .u32 (IntKind.wrap .u32 n), H) := by exact id (by kernel_rfl)
@[go_sem] theorem cv_34_165 (k : IntKind) (n : Int) (H : AHeap) : aConv tb 34 165 (.int k n) H = some (.int .i16 (IntKind.wrap .i16 n), H) := by exact id (by kernel_rfl)
@[go_sem] theorem cv_34_5 (k : IntKind) (n : Int) (H : AHeap) : aConv tb 34 5 (.int k n) H = some (.int .u8 (IntKind.wrap .u8 n), H) := by exact id (by kernel_rfl)
@[go_sem] theorem cv_3_111 (k : IntKind) (n : Int) (H : AHeap) : aConv tb 3 111 (.int k n) H = some (.int .u32 (IntKind.wrap .u32 n), H) := by exact id (by kernel_rfl)
@[go_sem] theorem cv_3_165 (k : IntKind) (n : Int) (H : AHeap) : aConv tb 3 165 (.int k n) H = some (.int .i16 (IntKind.wrap .i16 n), H) := by exact id (by kernel_rfl)
@[go_sem] theorem cv_3_21 (k : IntKind) (n : Int) (H : AHeap) : aConv tb 3 21 (.int k n) H = some (.int .i32 (IntKind.wrap .i32 n), H) := by exact id (by kernel_rfl)
@[go_sem] theorem cv_3_34 (k : IntKind) (n : Int) (H : AHeap) : aConv tb 3 34 (.int k n) H = some (.int .u16 (IntKind.wrap .u16 n), H) := by exact id (by kernel_rfl)
@[go_sem] theorem cv_5_111 (k : IntKind) (n : Int) (H : AHeap) : aConv tb 5 111 (.int k n) H = some (.int .u32 (IntKind.wrap .u32 n), H) := by exact id (by kernel_rfl)
@[go_sem] theorem cv_5_21 (k : IntKind) (n : Int) (H : AHeap) : aConv tb 5 21 (.int k n) H = some (.int .i32 (IntKind.wrap .i32 n), H) := by exact id (by kernel_rfl)
@[go_sem] theorem cv_5_215 (k : IntKind) (n : Int) (H : AHeap) : aConv tb 5 215 (.int k n) H = some (.int .i8 (IntKind.wrap .i8 n), H) := by exact id (by kernel_rfl)
@[go_sem] theorem cv_75_3 (k : IntKind) (n : Int) (H : AHeap) : aConv tb 75 3 (.int k n) H = some (.int .i64 (IntKind.wrap .i64 n), H) := by exact id (by kernel_rfl)
@[go_sem] theorem fa_117_0 (b o : Nat) (sp : Option Nat) : aFieldAddr tb 117 (.pointer (some ⟨b, o, sp⟩)) 0 = some (.pointer (some ⟨b, o + 0, none⟩)) := by exact id (by kernel_rfl)
@[go_sem] theorem fa_117_1 (b o : Nat) (sp : Option Nat) : aFieldAddr tb 117 (.pointer (some ⟨b, o, sp⟩)) 1 = some (.pointer (some ⟨b, o + 1, none⟩)) := by exact id (by kernel_rfl)
@[go_sem] theorem fa_117_2 (b o : Nat) (sp : Option Nat) : aFieldAddr tb 117 (.pointer (some ⟨b, o, sp⟩)) 2 = some (.pointer (some ⟨b, o + 2, none⟩)) := by exact id (by kernel_rfl)
@[go_sem] theorem fa_117_3 (b o : Nat) (sp : Option Nat) : aFieldAddr tb 117 (.pointer (some ⟨b, o, sp⟩)) 3 = some (.pointer (some ⟨b, o + 3, none⟩)) := by exact id (by kernel_rfl)
@[go_sem] theorem fa_117_4 (b o : Nat) (sp : Option Nat) : aFieldAddr tb 117 (.pointer (some ⟨b, o, sp⟩)) 4 = some (.pointer (some ⟨b, o + 4, none⟩)) := by exact id (by kernel_rfl)
@[go_sem] theorem fa_117_5 (b o : Nat) (sp : Option Nat) : aFieldAddr tb 117 (.pointer (some ⟨b, o, sp⟩)) 5 = some (.pointer (some ⟨b, o + 5, none⟩)) := by exact id (by kernel_rfl)
@[go_sem] theorem fa_134_0 (b o : Nat) (sp : Option Nat) : aFieldAddr tb 134 (.pointer (some ⟨b, o, sp⟩)) 0 = some (.pointer (some ⟨b, o + 0, none⟩)) := by exact id (by kernel_rfl)
@[go_sem] theorem fa_134_1 (b o : Nat) (sp : Option Nat) : aFieldAddr tb 134 (.pointer (some ⟨b, o, sp⟩)) 1 = some (.pointer (some ⟨b, o + 1, none⟩)) := by exact id (by kernel_rfl)
@[go_sem] theorem fa_146_0 (b o : Nat) (sp : Option Nat) : aFieldAddr tb 146 (.pointer (some ⟨b, o, sp⟩)) 0 = some (.pointer (some ⟨b, o + 0, none⟩)) := by exact id (by kernel_rfl)
@[go_sem] theorem fa_146_1 (b o : Nat) (sp : Option Nat) : aFieldAddr tb 146 (.pointer (some ⟨b, o, sp⟩)) 1 = some (.pointer (some ⟨b, o + 1, none⟩)) := by exact id (by kernel_rfl)
@[go_sem] theorem fa_146_2 (b o : Nat) (sp : Option Nat) : aFieldAddr tb 146 (.pointer (some ⟨b, o, sp⟩)) 2 = some (.pointer (some ⟨b, o + 2, none⟩)) := by exact id (by kernel_rfl)
@[go_sem] theorem fa_146_3 (b o : Nat) (sp : Option Nat) : aFieldAddr tb 146 (.pointer (some ⟨b, o, sp⟩)) 3 = some (.pointer (some ⟨b, o + 3, none⟩)) := by exact id (by kernel_rfl)
@[go_sem] theorem fa_148_0 (b o : Nat) (sp : Option Nat) : aFieldAddr tb 148 (.pointer (some ⟨b, o, sp⟩)) 0 = some (.pointer (some ⟨b, o + 0, none⟩)) := by exact id (by kernel_rfl)
@[go_sem] theorem fa_148_1 (b o : Nat) (sp : Option Nat) : aFieldAddr tb 148 (.pointer (some ⟨b, o, sp⟩)) 1 = some (.pointer (some ⟨b, o + 1, none⟩)) := by exact id (by kernel_rfl)
@[go_sem] theorem fa_158_0 (b o : Nat) (sp : Option Nat) : aFieldAddr tb 158 (.pointer (some ⟨b, o, sp⟩)) 0 = some (.pointer (some ⟨b, o + 0, none⟩)) := by exact id (by kernel_rfl)
@[go_sem] theorem fa_158_1 (b o : Nat) (sp : Option Nat) : aFieldAddr tb 158 (.pointer (some ⟨b, o, sp⟩)) 1 = some (.pointer (some ⟨b, o + 1, none⟩)) := by exact id (by kernel_rfl)
@[go_sem] theorem fa_162_0 (b o : Nat) (sp : Option Nat) : aFieldAddr tb 162 (.pointer (some ⟨b, o, sp⟩)) 0 = some (.pointer (some ⟨b, o + 0, none⟩)) := by exact id (by kernel_rfl)
@[go_sem] theorem fa_162_1 (b o : Nat) (sp : Option Nat) : aFieldAddr tb 162 (.pointer (some ⟨b, o, sp⟩)) 1 = some (.pointer (some ⟨b, o + 1, none⟩)) := by exact id (by kernel_rfl)
@[go_sem] theorem fa_220_0 (b o : Nat) (sp : Option Nat) : aFieldAddr tb 220 (.pointer (some ⟨b, o, sp⟩)) 0 = some (.pointer (some ⟨b, o + 0, none⟩)) := by exact id (by kernel_rfl)
@[go_sem] theorem fa_220_1 (b o : Nat) (sp : Option Nat) : aFieldAddr tb 220 (.pointer (some ⟨b, o, sp⟩)) 1 = some (.pointer (some ⟨b, o + 1, none⟩)) := by exact id (by kernel_rfl)
@[go_sem] theorem fa_238_0 (b o : Nat) (sp : Option Nat) : aFieldAddr tb 238 (.pointer (some ⟨b, o, sp⟩)) 0 = some (.pointer (some ⟨b, o + 0, none⟩)) := by exact id (by kernel_rfl)
@[go_sem] theorem fa_238_1 (b o : Nat) (sp : Option Nat) : aFieldAddr tb 238 (.pointer (some ⟨b, o, sp⟩)) 1 = some (.pointer (some ⟨b, o + 1, none⟩)) := by exact id (by kernel_rfl)
@[go_sem] theorem fa_69_0 (b o : Nat) (sp : Option Nat) : aFieldAddr tb 69 (.pointer (some ⟨b, o, sp⟩)) 0 = some (.pointer (some ⟨b, o + 0, none⟩)) := by exact id (by kernel_rfl)
@[go_sem] theorem fa_69_1 (b o : Nat) (sp : Option Nat) : aFieldAddr tb 69 (.pointer (some ⟨b, o, sp⟩)) 1 = some (.pointer (some ⟨b, o + 1, none⟩)) := by exact id (by kernel_rfl)
@[go_sem] theorem fa_77_0 (b o : Nat) (sp : Option Nat) : aFieldAddr tb 77 (.pointer (some ⟨b, o, sp⟩)) 0 = some (.pointer (some ⟨b, o + 0, none⟩)) := by exact id (by kernel_rfl)
@[go_sem] theorem fa_77_1 (b o : Nat) (sp : Option Nat) : aFieldAddr tb 77 (.pointer (some ⟨b, o, sp⟩)) 1 = some (.pointer (some ⟨b, o + 1, none⟩)) := by exact id (by kernel_rfl)
@[go_sem] theorem fa_77_2 (b o : Nat) (sp : Option Nat) : aFieldAddr tb 77 (.pointer (some ⟨b, o, sp⟩)) 2 = some (.pointer (some ⟨b, o + 2, none⟩)) := by exact id (by kernel_rfl)
@[go_sem] theorem fa_77_3 (b o : Nat) (sp : Option Nat) : aFieldAddr tb 77 (.pointer (some ⟨b, o, sp⟩)) 3 = some (.pointer (some ⟨b, o + 3, none⟩)) := by exact id (by kernel_rfl)
@[go_sem] theorem fa_93_5 (b o : Nat) (sp : Option Nat) : aFieldAddr tb 93 (.pointer (some ⟨b, o, sp⟩)) 5 = some (.pointer (some ⟨b, o + 5, none⟩)) := by exact id (by kernel_rfl)
@[go_sem] theorem in_9 (s : ByteArray) (k : IntKind) (i : Int) : aIndex tb 9 (.string s) (.int k i) = if 0 ≤ i then (s.data.toList[i.toNat]?).map fun b => .int .u8 b.toNat else none := by exact id (by kernel_rfl)
@[go_sem] theorem ix_108 (b o l c : Nat) (sp : Option Nat) (k : IntKind) (i : Int) : aIndexAddr tb 108 (.slice (some ⟨b, o, sp⟩) l c) (.int k i) = if 0 ≤ i ∧ i < l then some (.pointer (some ⟨b, o + i.toNat * 6, none⟩)) else none := aIndexAddr_slice (by kernel_rfl) b o l c sp k i
@[go_sem] theorem ix_119 (b o l c : Nat) (sp : Option Nat) (k : IntKind) (i : Int) : aIndexAddr tb 119 (.slice (some ⟨b, o, sp⟩) l c) (.int k i) = if 0 ≤ i ∧ i < l then some (.pointer (some ⟨b, o + i.toNat * 2, none⟩)) else none := aIndexAddr_slice (by kernel_rfl) b o l c sp k i
@[go_sem] theorem ix_120 (b o l c : Nat) (sp : Option Nat) (k : IntKind) (i : Int) : aIndexAddr tb 120 (.slice (some ⟨b, o, sp⟩) l c) (.int k i) = if 0 ≤ i ∧ i < l then some (.pointer (some ⟨b, o + i.toNat * 1, none⟩)) else none := aIndexAddr_slice (by kernel_rfl) b o l c sp k i
@[go_sem] theorem ix_125 (b o : Nat) (sp : Option Nat) (k : IntKind) (i : Int) : aIndexAddr tb 125 (.pointer (some ⟨b, o, sp⟩)) (.int k i) = if 0 ≤ i ∧ i < (2 : Nat) then some (.pointer (some ⟨b, o + i.toNat * 1, none⟩)) else none := aIndexAddr_array (by kernel_rfl) b o sp k i
@[go_sem] theorem ix_126 (b o l c : Nat) (sp : Option Nat) (k : IntKind) (i : Int) : aIndexAddr tb 126 (.slice (some ⟨b, o, sp⟩) l c) (.int k i) = if 0 ≤ i ∧ i < l then some (.pointer (some ⟨b, o + i.toNat * 1, none⟩)) else none := aIndexAddr_slice (by kernel_rfl) b o l c sp k i
@[go_sem] theorem ix_129 (b o : Nat) (sp : Option Nat) (k : IntKind) (i : Int) : aIndexAddr tb 129 (.pointer (some ⟨b, o, sp⟩)) (.int k i) = if 0 ≤ i ∧ i < (5 : Nat) then some (.pointer (some ⟨b, o + i.toNat * 1, none⟩)) else none := aIndexAddr_array (by kernel_rfl) b o sp k i
@[go_sem] theorem ix_144 (b o l c : Nat) (sp : Option Nat) (k : IntKind) (i : Int) : aIndexAddr tb 144 (.slice (some ⟨b, o, sp⟩) l c) (.int k i) = if 0 ≤ i ∧ i < l then some (.pointer (some ⟨b, o + i.toNat * 2, none⟩)) else none := aIndexAddr_slice (by kernel_rfl) b o l c sp k i
@[go_sem] theorem ix_154 (b o l c : Nat) (sp : Option Nat) (k : IntKind) (i : Int) : aIndexAddr tb 154 (.slice (some ⟨b, o, sp⟩) l c) (.int k i) = if 0 ≤ i ∧ i < l then some (.pointer (some ⟨b, o + i.toNat * 2, none⟩)) else none := aIndexAddr_slice (by kernel_rfl) b o l c sp k i
@[go_sem] theorem ix_155 (b o l c : Nat) (sp : Option Nat) (k : IntKind) (i : Int) : aIndexAddr tb 155 (.slice (some ⟨b, o, sp⟩) l c) (.int k i) = if 0 ≤ i ∧ i < l then some (.pointer (some ⟨b, o + i.toNat * 2, none⟩)) else none := aIndexAddr_slice (by kernel_rfl) b o l c sp k i
@[go_sem] theorem ix_189 (b o l c : Nat) (sp : Option Nat) (k : IntKind) (i : Int) : aIndexAddr tb 189 (.slice (some ⟨b, o, sp⟩) l c) (.int k i) = if 0 ≤ i ∧ i < l then some (.pointer (some ⟨b, o + i.toNat * 1, none⟩)) else none := aIndexAddr_slice (by kernel_rfl) b o l c sp k i
@[go_sem] theorem ix_205 (b o l c : Nat) (sp : Option Nat) (k : IntKind) (i : Int) : aIndexAddr tb 205 (.slice (some ⟨b, o, sp⟩) l c) (.int k i) = if 0 ≤ i ∧ i < l then some (.pointer (some ⟨b, o + i.toNat * 1, none⟩)) else none := aIndexAddr_slice (by kernel_rfl) b o l c sp k i
@[go_sem] theorem ix_214 (b o : Nat) (sp : Option Nat) (k : IntKind) (i : Int) : aIndexAddr tb 214 (.pointer (some ⟨b, o, sp⟩)) (.int k i) = if 0 ≤ i ∧ i < (40 : Nat) then some (.pointer (some ⟨b, o + i.toNat * 1, none⟩)) else none := aIndexAddr_array (by kernel_rfl) b o sp k i
@[go_sem] theorem ix_218 (b o l c : Nat) (sp : Option Nat) (k : IntKind) (i : Int) : aIndexAddr tb 218 (.slice (some ⟨b, o, sp⟩) l c) (.int k i) = if 0 ≤ i ∧ i < l then some (.pointer (some ⟨b, o + i.toNat * 2, none⟩)) else none := aIndexAddr_slice (by kernel_rfl) b o l c sp k i
@[go_sem] theorem ix_231 (b o : Nat) (sp : Option Nat) (k : IntKind) (i : Int) : aIndexAddr tb 231 (.pointer (some ⟨b, o, sp⟩)) (.int k i) = if 0 ≤ i ∧ i < (3 : Nat) then some (.pointer (some ⟨b, o + i.toNat * 1, none⟩)) else none := aIndexAddr_array (by kernel_rfl) b o sp k i
@[go_sem] theorem ix_235 (b o : Nat) (sp : Option Nat) (k : IntKind) (i : Int) : aIndexAddr tb 235 (.pointer (some ⟨b, o, sp⟩)) (.int k i) = if 0 ≤ i ∧ i < (32 : Nat) then some (.pointer (some ⟨b, o + i.toNat * 1, none⟩)) else none := aIndexAddr_array (by kernel_rfl) b o sp k i
@[go_sem] theorem ix_236 (b o : Nat) (sp : Option Nat) (k : IntKind) (i : Int) : aIndexAddr tb 236 (.pointer (some ⟨b, o, sp⟩)) (.int k i) = if 0 ≤ i ∧ i < (256 : Nat) then some (.pointer (some ⟨b, o + i.toNat * 1, none⟩)) else none := aIndexAddr_array (by kernel_rfl) b o sp k i
@[go_sem] theorem ix_239 (b o : Nat) (sp : Option Nat) (k : IntKind) (i : Int) : aIndexAddr tb 239 (.pointer (some ⟨b, o, sp⟩)) (.int k i) = if 0 ≤ i ∧ i < (16 : Nat) then some (.pointer (some ⟨b, o + i.toNat * 2, none⟩)) else none := aIndexAddr_array (by kernel_rfl) b o sp k i
@[go_sem] theorem ix_51 (b o l c : Nat) (sp : Option Nat) (k : IntKind) (i : Int) : aIndexAddr tb 51 (.slice (some ⟨b, o, sp⟩) l c) (.int k i) = if 0 ≤ i ∧ i < l then some (.pointer (some ⟨b, o + i.toNat * 1, none⟩)) else none := aIndexAddr_slice (by kernel_rfl) b o l c sp k i
@[go_sem] theorem ix_52 (b o l c : Nat) (sp : Option Nat) (k : IntKind) (i : Int) : aIndexAddr tb 52 (.slice (some ⟨b, o, sp⟩) l c) (.int k i) = if 0 ≤ i ∧ i < l then some (.pointer (some ⟨b, o + i.toNat * 1, none⟩)) else none := aIndexAddr_slice (by kernel_rfl) b o l c sp k i
@[go_sem] theorem ix_79 (b o : Nat) (sp : Option Nat) (k : IntKind) (i : Int) : aIndexAddr tb 79 (.pointer (some ⟨b, o, sp⟩)) (.int k i) = if 0 ≤ i ∧ i < (4 : Nat) then some (.pointer (some ⟨b, o + i.toNat * 1, none⟩)) else none := aIndexAddr_array (by kernel_rfl) b o sp k i
@[go_sem] theorem ix_82 (b o l c : Nat) (sp : Option Nat) (k : IntKind) (i : Int) : aIndexAddr tb 82 (.slice (some ⟨b, o, sp⟩) l c) (.int k i) = if 0 ≤ i ∧ i < l then some (.pointer (some ⟨b, o + i.toNat * 4, none⟩)) else none := aIndexAddr_slice (by kernel_rfl) b o l c sp k i
@[go_sem] theorem ld_117 (b o : Nat) (sp : Option Nat) (H : AHeap) : aLoad tb 117 (.pointer (some ⟨b, o, sp⟩)) H = (ldN (H.get b) o 6).map fun vs => (.agg vs.toArray, H) := aLoad_agg (by kernel_rfl) b o sp H
@[go_sem] theorem ld_125 (b o : Nat) (sp : Option Nat) (H : AHeap) : aLoad tb 125 (.pointer (some ⟨b, o, sp⟩)) H = (ldN (H.get b) o 2).map fun vs => (.agg vs.toArray, H) := aLoad_agg (by kernel_rfl) b o sp H
@[go_sem] theorem ld_132 (b o : Nat) (sp : Option Nat) (H : AHeap) : aLoad tb 132 (.pointer (some ⟨b, o, sp⟩)) H = (ld1 (H.get b) o).map (·, H) := aLoad_one (by kernel_rfl) b o sp H
@[go_sem] theorem ld_144 (b o : Nat) (sp : Option Nat) (H : AHeap) : aLoad tb 144 (.pointer (some ⟨b, o, sp⟩)) H = (ld1 (H.get b) o).map (·, H) := aLoad_one (by kernel_rfl) b o sp H
@[go_sem] theorem ld_148 (b o : Nat) (sp : Option Nat) (H : AHeap) : aLoad tb 148 (.pointer (some ⟨b, o, sp⟩)) H = (ldN (H.get b) o 2).map fun vs => (.agg vs.toArray, H) := aLoad_agg (by kernel_rfl) b o sp H
@[go_sem] theorem ld_188 (b o : Nat) (sp : Option Nat) (H : AHeap) : aLoad tb 188 (.pointer (some ⟨b, o, sp⟩)) H = (ld1 (H.get b) o).map (·, H) := aLoad_one (by kernel_rfl) b o sp H
@[go_sem] theorem ld_195 (b o : Nat) (sp : Option Nat) (H : AHeap) : aLoad tb 195 (.pointer (some ⟨b, o, sp⟩)) H = (ld1 (H.get b) o).map (·, H) := aLoad_one (by kernel_rfl) b o sp H
@[go_sem] theorem ld_220 (b o : Nat) (sp : Option Nat) (H : AHeap) : aLoad tb 220 (.pointer (some ⟨b, o, sp⟩)) H = (ldN (H.get b) o 2).map fun vs => (.agg vs.toArray, H) := aLoad_agg (by kernel_rfl) b o sp H
@[go_sem] theorem ld_238 (b o : Nat) (sp : Option Nat) (H : AHeap) : aLoad tb 238 (.pointer (some ⟨b, o, sp⟩)) H = (ldN (H.get b) o 2).map fun vs => (.agg vs.toArray, H) := aLoad_agg (by kernel_rfl) b o sp H
@[go_sem] theorem ld_60 (b o : Nat) (sp : Option Nat) (H : AHeap) : aLoad tb 60 (.pointer (some ⟨b, o, sp⟩)) H = (ld1 (H.get b) o).map (·, H) := aLoad_one (by kernel_rfl) b o sp H
@[go_sem] theorem ld_69 (b o : Nat) (sp : Option Nat) (H : AHeap) : aLoad tb 69 (.pointer (some ⟨b, o, sp⟩)) H = (ldN (H.get b) o 2).map fun vs => (.agg vs.toArray, H) := aLoad_agg (by kernel_rfl) b o sp H
@[go_sem] theorem ld_75 (b o : Nat) (sp : Option Nat) (H : AHeap) : aLoad tb 75 (.pointer (some ⟨b, o, sp⟩)) H = (ld1 (H.get b) o).map (·, H) := aLoad_one (by kernel_rfl) b o sp H
@[go_sem] theorem ld_77 (b o : Nat) (sp : Option Nat) (H : AHeap) : aLoad tb 77 (.pointer (some ⟨b, o, sp⟩)) H = (ldN (H.get b) o 4).map fun vs => (.agg vs.toArray, H) := aLoad_agg (by kernel_rfl) b o sp H
@[go_sem] theorem ld_79 (b o : Nat) (sp : Option Nat) (H : AHeap) : aLoad tb 79 (.pointer (some ⟨b, o, sp⟩)) H = (ldN (H.get b) o 4).map fun vs => (.agg vs.toArray, H) := aLoad_agg (by kernel_rfl) b o sp H
@[go_sem] theorem ln_108 (P : Program) (a : Option Addr) (n c : Nat) (H : AHeap) : aBuiltin P tb .len #[108] [.slice a n c] H = some (.int .i64 n, H) := by exact id (by kernel_rfl)
@[go_sem] theorem ln_119 (P : Program) (a : Option Addr) (n c : Nat) (H : AHeap) : aBuiltin P tb .len #[119] [.slice a n c] H = some (.int .i64 n, H) := by exact id (by kernel_rfl)
@[go_sem] theorem ln_120 (P : Program) (a : Option Addr) (n c : Nat) (H : AHeap) : aBuiltin P tb .len #[120] [.slice a n c] H = some (.int .i64 n, H) := by exact id (by kernel_rfl)
@[go_sem] theorem ln_126 (P : Program) (a : Option Addr) (n c : Nat) (H : AHeap) : aBuiltin P tb .len #[126] [.slice a n c] H = some (.int .i64 n, H) := by exact id (by kernel_rfl)
@[go_sem] theorem ln_144 (P : Program) (a : Option Addr) (n c : Nat) (H : AHeap) : aBuiltin P tb .len #[144] [.slice a n c] H = some (.int .i64 n, H) := by exact id (by kernel_rfl)
@[go_sem] theorem ln_154 (P : Program) (a : Option Addr) (n c : Nat) (H : AHeap) : aBuiltin P tb .len #[154] [.slice a n c] H = some (.int .i64 n, H) := by exact id (by kernel_rfl)
@[go_sem] theorem ln_155 (P : Program) (a : Option Addr) (n c : Nat) (H : AHeap) : aBuiltin P tb .len #[155] [.slice a n c] H = some (.int .i64 n, H) := by exact id (by kernel_rfl)
@[go_sem] theorem ln_189 (P : Program) (a : Option Addr) (n c : Nat) (H : AHeap) : aBuiltin P tb .len #[189] [.slice a n c] H = some (.int .i64 n, H) := by exact id (by kernel_rfl)
@[go_sem] theorem ln_218 (P : Program) (a : Option Addr) (n c : Nat) (H : AHeap) : aBuiltin P tb .len #[218] [.slice a n c] H = some (.int .i64 n, H) := by exact id (by kernel_rfl)
@[go_sem] theorem ln_51 (P : Program) (a : Option Addr) (n c : Nat) (H : AHeap) : aBuiltin P tb .len #[51] [.slice a n c] H = some (.int .i64 n, H) := by exact id (by kernel_rfl)
@[go_sem] theorem ln_52 (P : Program) (a : Option Addr) (n c : Nat) (H : AHeap) : aBuiltin P tb .len #[52] [.slice a n c] H = some (.int .i64 n, H) := by exact id (by kernel_rfl)
@[go_sem] theorem ln_60 (P : Program) (a : Option Addr) (n c : Nat) (H : AHeap) : aBuiltin P tb .len #[60] [.slice a n c] H = some (.int .i64 n, H) := by exact id (by kernel_rfl)
@[go_sem] theorem ln_82 (P : Program) (a : Option Addr) (n c : Nat) (H : AHeap) : aBuiltin P tb .len #[82] [.slice a n c] H = some (.int .i64 n, H) := by exact id (by kernel_rfl)
@[go_sem] theorem ln_99 (P : Program) (a : Option Addr) (n c : Nat) (H : AHeap) : aBuiltin P tb .len #[99] [.slice a n c] H = some (.int .i64 n, H) := by exact id (by kernel_rfl)
@[go_sem] theorem mm_206 : mapOK tb 206 = true := by exact id (by kernel_rfl)
@[go_sem] theorem pn_eql_132 (ox oy : Operand) (H : AHeap) : aBinF Tryd.prog tb .eql 132 ox oy (.pointer none) (.pointer none) H = some (.bool true) := by exact id (by kernel_rfl)
@[go_sem] theorem pn_neq_132 (ox oy : Operand) (H : AHeap) : aBinF Tryd.prog tb .neq 132 ox oy (.pointer none) (.pointer none) H = some (.bool false) := by exact id (by kernel_rfl)
@[go_sem] theorem pn_neq_29 (ox oy : Operand) (H : AHeap) : aBinF Tryd.prog tb .neq 29 ox oy (.pointer none) (.pointer none) H = some (.bool false) := by exact id (by kernel_rfl)
@[go_sem] theorem pp_eql_132 (a : Addr) (ox oy : Operand) (H : AHeap) : aBinF Tryd.prog tb .eql 132 ox oy (.pointer (some a)) (.pointer none) H = some (.bool false) := by exact id (by kernel_rfl)
@[go_sem] theorem pp_neq_132 (a : Addr) (ox oy : Operand) (H : AHeap) : aBinF Tryd.prog tb .neq 132 ox oy (.pointer (some a)) (.pointer none) H = some (.bool true) := by exact id (by kernel_rfl)
@[go_sem] theorem pp_neq_29 (a : Addr) (ox oy : Operand) (H : AHeap) : aBinF Tryd.prog tb .neq 29 ox oy (.pointer (some a)) (.pointer none) H = some (.bool true) := by exact id (by kernel_rfl)
@[go_sem] theorem st_117 (b o : Nat) (sp : Option Nat) (v : Value) (H : AHeap) : aStore tb 117 (.pointer (some ⟨b, o, sp⟩)) v H = stW (H.get b) b o 6 v H := aStore_siz (by kernel_rfl) b o sp v H
@[go_sem] theorem st_125 (b o : Nat) (sp : Option Nat) (v : Value) (H : AHeap) : aStore tb 125 (.pointer (some ⟨b, o, sp⟩)) v H = stW (H.get b) b o 2 v H := aStore_siz (by kernel_rfl) b o sp v H
@[go_sem] theorem st_132 (b o : Nat) (sp : Option Nat) (v : Value) (H : AHeap) : aStore tb 132 (.pointer (some ⟨b, o, sp⟩)) v H = stW (H.get b) b o 1 v H := aStore_siz (by kernel_rfl) b o sp v H
@[go_sem] theorem st_144 (b o : Nat) (sp : Option Nat) (v : Value) (H : AHeap) : aStore tb 144 (.pointer (some ⟨b, o, sp⟩)) v H = stW (H.get b) b o 1 v H := aStore_siz (by kernel_rfl) b o sp v H
@[go_sem] theorem st_148 (b o : Nat) (sp : Option Nat) (v : Value) (H : AHeap) : aStore tb 148 (.pointer (some ⟨b, o, sp⟩)) v H = stW (H.get b) b o 2 v H := aStore_siz (by kernel_rfl) b o sp v H
@[go_sem] theorem st_214 (b o : Nat) (sp : Option Nat) (v : Value) (H : AHeap) : aStore tb 214 (.pointer (some ⟨b, o, sp⟩)) v H = stW (H.get b) b o 40 v H := aStore_siz (by kernel_rfl) b o sp v H
@[go_sem] theorem st_220 (b o : Nat) (sp : Option Nat) (v : Value) (H : AHeap) : aStore tb 220 (.pointer (some ⟨b, o, sp⟩)) v H = stW (H.get b) b o 2 v H := aStore_siz (by kernel_rfl) b o sp v H
@[go_sem] theorem st_231 (b o : Nat) (sp : Option Nat) (v : Value) (H : AHeap) : aStore tb 231 (.pointer (some ⟨b, o, sp⟩)) v H = stW (H.get b) b o 3 v H := aStore_siz (by kernel_rfl) b o sp v H
@[go_sem] theorem st_238 (b o : Nat) (sp : Option Nat) (v : Value) (H : AHeap) : aStore tb 238 (.pointer (some ⟨b, o, sp⟩)) v H = stW (H.get b) b o 2 v H := aStore_siz (by kernel_rfl) b o sp v H
@[go_sem] theorem st_24 (b o : Nat) (sp : Option Nat) (v : Value) (H : AHeap) : aStore tb 24 (.pointer (some ⟨b, o, sp⟩)) v H = stW (H.get b) b o 1 v H := aStore_siz (by kernel_rfl) b o sp v H
@[go_sem] theorem st_34 (b o : Nat) (sp : Option Nat) (v : Value) (H : AHeap) : aStore tb 34 (.pointer (some ⟨b, o, sp⟩)) v H = stW (H.get b) b o 1 v H := aStore_siz (by kernel_rfl) b o sp v H
@[go_sem] theorem st_36 (b o : Nat) (sp : Option Nat) (v : Value) (H : AHeap) : aStore tb 36 (.pointer (some ⟨b, o, sp⟩)) v H = stW (H.get b) b o 2 v H := aStore_siz (by kernel_rfl) b o sp v H
@[go_sem] theorem st_5 (b o : Nat) (sp : Option Nat) (v : Value) (H : AHeap) : aStore tb 5 (.pointer (some ⟨b, o, sp⟩)) v H = stW (H.get b) b o 1 v H := aStore_siz (by kernel_rfl) b o sp v H
@[go_sem] theorem st_69 (b o : Nat) (sp : Option Nat) (v : Value) (H : AHeap) : aStore tb 69 (.pointer (some ⟨b, o, sp⟩)) v H = stW (H.get b) b o 2 v H := aStore_siz (by kernel_rfl) b o sp v H
@[go_sem] theorem st_75 (b o : Nat) (sp : Option Nat) (v : Value) (H : AHeap) : aStore tb 75 (.pointer (some ⟨b, o, sp⟩)) v H = stW (H.get b) b o 1 v H := aStore_siz (by kernel_rfl) b o sp v H
@[go_sem] theorem st_77 (b o : Nat) (sp : Option Nat) (v : Value) (H : AHeap) : aStore tb 77 (.pointer (some ⟨b, o, sp⟩)) v H = stW (H.get b) b o 4 v H := aStore_siz (by kernel_rfl) b o sp v H
@[go_sem] theorem st_79 (b o : Nat) (sp : Option Nat) (v : Value) (H : AHeap) : aStore tb 79 (.pointer (some ⟨b, o, sp⟩)) v H = stW (H.get b) b o 4 v H := aStore_siz (by kernel_rfl) b o sp v H
@[go_sem] theorem st_9 (b o : Nat) (sp : Option Nat) (v : Value) (H : AHeap) : aStore tb 9 (.pointer (some ⟨b, o, sp⟩)) v H = stW (H.get b) b o 1 v H := aStore_siz (by kernel_rfl) b o sp v H
end Go.Proofs.YtkjclebafpomhaaDoor
set_option linter.unusedVariables false
set_option linter.unusedSimpArgs false
set_option maxRecDepth 100000
namespace Go.Proofs.YtkjclebafpomhaaDoor
open Go Go.Eng

/-! ### Has -/
def hasB (b c : Int) : Bool := decide (0 ≤ c) && decide (c < 16) && decide ((IntKind.wrap .i64 b / 2 ^ c.toNat) % 2 = 1)
def F95 : Spec := fun vs H => match vs with
  | [.agg ⟨[.int .u8 a, .int .u16 b]⟩, .int .i64 c] => if 0 ≤ b ∧ b ≤ 65535 then some (.bool (hasB b c), H) else none
  | _ => none
theorem F95_eq {a b : Int} (c : Int) (H : AHeap) (hb : 0 ≤ b ∧ b ≤ 65535) : F95 [.agg ⟨[.int .u8 a, .int .u16 b]⟩, .int .i64 c] H = some (.bool (hasB b c), H) := by unfold F95; simp only [hb, and_self, if_true]
theorem sp95 : SpOK 95 F95 := by
  refine .of (fn := Tryd.f95) (by kernel_rfl) (by kernel_rfl) ?_
  intro vs H v H' h
  unfold F95 at h
  split at h
  · rename_i a b c
    split at h
    case isFalse => cases h
    rename_i hb
    injection h with h; injection h with h1 h2; subst h1; subst h2
    refine ACalls.trim1 rfl ?_
    refine walk sp0_ok (fn := Tryd.f95) (by kernel_rfl) (c := Tryd.f95.body.get (by kernel_rfl)) (by kernel_rfl) (by simp [Tryd.f95]) ?_
    simp only [Tryd.f95, Option.get, hasB]
    have n2 : ¬ ((2 : Int) = 0) := by omega
    cases h1 : decide (0 ≤ c)
    · simp only [go_sem, Nat.reduceLT, Nat.reduceEqDiff, ↓reduceIte, Nat.reduceAdd, Nat.zero_add, Nat.add_zero, Nat.reduceLeDiff, Int.reduceEq, Nat.reduceMul, h1]
    have h1' := of_decide_eq_true h1
    cases h2 : decide (c < 16)
    · simp only [go_sem, Nat.reduceLT, Nat.reduceEqDiff, ↓reduceIte, Nat.reduceAdd, Nat.zero_add, Nat.add_zero, Nat.reduceLeDiff, Int.reduceEq, Nat.reduceMul, h1, h2]
    have h2' := of_decide_eq_true h2
    have hw : IntKind.wrap .i64 b = b := by rw [wrap64] <;> omega
    have hs : shrI .i64 b c = b / 2 ^ c.toNat := by
      unfold shrI
      rw [Nat.min_eq_left (by show c.toNat ≤ 64; omega), Int.fdiv_eq_ediv_of_nonneg]
      exact Int.pow_nonneg (by omega)
    have hp : (0 : Int) < 2 ^ c.toNat := Int.pow_pos (by omega)
    have hm : (b / 2 ^ c.toNat).tmod 2 = (b / 2 ^ c.toNat) % 2 := Int.tmod_eq_emod_of_nonneg (Int.ediv_nonneg hb.1 (Int.le_of_lt hp))
    simp only [go_sem, Nat.reduceLT, Nat.reduceEqDiff, ↓reduceIte, Nat.reduceAdd, Nat.zero_add, Nat.add_zero, Nat.reduceLeDiff, Int.reduceEq, Nat.reduceMul, h1, h2, h1', n2, hs, hm, hw]
  · cases h
def s95 : Specs := spAdd sp0 95 F95
theorem s95_95 : s95 95 = some F95 := id rfl
theorem s95_ok : SpsOK s95 := spAdd_ok sp0_ok sp95

/-! ### Leq -/
def refLeq (a b c d : Int) : Bool := decide (a ≤ c) && (List.range 16).all fun k => !(hasB b k) || hasB d k
def F47 : Spec := fun vs H => match vs with
  | [.agg ⟨[.int .u8 a, .int .u16 b]⟩, .agg ⟨[.int .u8 c, .int .u16 d]⟩] => if (0 ≤ b ∧ b ≤ 65535) ∧ 0 ≤ d ∧ d ≤ 65535 then some (.bool (refLeq a b c d), H) else none
  | _ => none
theorem sp47 : SpOK 47 F47 := by
  refine .of (fn := Tryd.f47) (by kernel_rfl) (by kernel_rfl) ?_
  intro vs H v H' h
  unfold F47 at h
  split at h
  · rename_i a b c d
    split at h
    case isFalse => cases h
    rename_i hbd
    obtain ⟨hb, hd⟩ := hbd
    injection h with h; injection h with h1 h2; subst h1; subst h2
    refine ACalls.trim1 rfl ?_
    refine walk s95_ok (fn := Tryd.f47) (by kernel_rfl) (c := Tryd.f47.body.get (by kernel_rfl)) (by kernel_rfl) (by simp [Tryd.f47]) ?_
    simp only [Tryd.f47, Option.get]
    by_cases c1 : c < a
    · have hv : refLeq a b c d = false := by unfold refLeq; rw [decide_eq_false (by omega)]; rfl
      simp only [go_sem, Nat.reduceLT, Nat.reduceEqDiff, ↓reduceIte, Nat.reduceAdd, Nat.zero_add, Nat.add_zero, Nat.reduceLeDiff, Int.reduceEq, Nat.reduceMul, c1, hv]
    simp only [go_sem, Nat.reduceLT, Nat.reduceEqDiff, ↓reduceIte, Nat.reduceAdd, Nat.zero_add, Nat.add_zero, Nat.reduceLeDiff, Int.reduceEq, Nat.reduceMul, c1]
    refine codeW_loop (fun nn τ X => ∃ k : Nat, nn = 16 - k ∧ k ≤ 16 ∧ tget τ 2 = .pointer (some ⟨H.next, 0, none⟩) ∧ tget τ 3 = .pointer (some ⟨H.next + 1, 0, none⟩) ∧ tget τ 5 = .int .i64 (k : Nat) ∧ X = (H.new (.cells [.int .u8 a, .int .u16 b] false [] 0)).new (.cells [.int .u8 c, .int .u16 d] false [] 0) ∧
      ∀ j < k, (!(hasB b j) || hasB d j) = true) (n := 16) ⟨0, rfl, by omega, ?_, ?_, ?_, rfl, fun j hj => by omega⟩ ?_
    · simp only [go_sem, Nat.reduceLT, Nat.reduceEqDiff, ↓reduceIte, Nat.reduceAdd, Nat.zero_add, Nat.add_zero, Nat.reduceLeDiff, Int.reduceEq, Nat.reduceMul]
    · simp only [go_sem, Nat.reduceLT, Nat.reduceEqDiff, ↓reduceIte, Nat.reduceAdd, Nat.zero_add, Nat.add_zero, Nat.reduceLeDiff, Int.reduceEq, Nat.reduceMul]
    · simp only [go_sem, Nat.reduceLT, Nat.reduceEqDiff, ↓reduceIte, Nat.reduceAdd, Nat.zero_add, Nat.add_zero, Nat.reduceLeDiff, Int.reduceEq, Nat.reduceMul]; rfl
    rintro nn τ X ⟨k, rfl, hk, t2, t3, t5, rfl, hall⟩
    by_cases hlt : k < 16
    · have hd16 : (k : Int) < 16 := by omega
      have hw : IntKind.wrap .i64 ((k : Int) + 1) = ((k + 1 : Nat) : Int) := by rw [wrap64] <;> omega
      cases q1 : hasB b k
      · simp only [go_sem, Nat.reduceLT, Nat.reduceEqDiff, ↓reduceIte, Nat.reduceAdd, Nat.zero_add, Nat.add_zero, Nat.reduceLeDiff, Int.reduceEq, Nat.reduceMul, List.take_zero, List.drop_succ_cons, List.drop_zero, List.nil_append, List.append_nil, List.drop_nil, List.take_succ_cons, List.take_nil, List.cons_append, Int.toNat_natCast, Int.toNat_zero, Int.toNat_one, t2, t3, t5, hd16, s95_95, fn_ex, F95_eq _ _ hb, F95_eq _ _ hd, q1, hw]
        refine ⟨16 - (k + 1), by omega, k + 1, rfl, hlt, rfl, fun j hj => ?_⟩
        rcases Nat.lt_or_ge j k with h | h
        · exact hall j h
        · obtain rfl : j = k := by omega
          rw [q1]; rfl
      · cases q2 : hasB d k
        · have hv : refLeq a b c d = false := by
            unfold refLeq
            rw [Bool.and_eq_false_iff]
            right
            rw [List.all_eq_false]
            exact ⟨k, List.mem_range.2 hlt, by rw [q1, q2]; simp⟩
          simp only [go_sem, Nat.reduceLT, Nat.reduceEqDiff, ↓reduceIte, Nat.reduceAdd, Nat.zero_add, Nat.add_zero, Nat.reduceLeDiff, Int.reduceEq, Nat.reduceMul, List.take_zero, List.drop_succ_cons, List.drop_zero, List.nil_append, List.append_nil, List.drop_nil, List.take_succ_cons, List.take_nil, List.cons_append, Int.toNat_natCast, Int.toNat_zero, Int.toNat_one, t2, t3, t5, hd16, s95_95, fn_ex, F95_eq _ _ hb, F95_eq _ _ hd, q1, q2, hw, hv]
        · simp only [go_sem, Nat.reduceLT, Nat.reduceEqDiff, ↓reduceIte, Nat.reduceAdd, Nat.zero_add, Nat.add_zero, Nat.reduceLeDiff, Int.reduceEq, Nat.reduceMul, List.take_zero, List.drop_succ_cons, List.drop_zero, List.nil_append, List.append_nil, List.drop_nil, List.take_succ_cons, List.take_nil, List.cons_append, Int.toNat_natCast, Int.toNat_zero, Int.toNat_one, t2, t3, t5, hd16, s95_95, fn_ex, F95_eq _ _ hb, F95_eq _ _ hd, q1, q2, hw]
          refine ⟨16 - (k + 1), by omega, k + 1, rfl, hlt, rfl, fun j hj => ?_⟩
          rcases Nat.lt_or_ge j k with h | h
          · exact hall j h
          · obtain rfl : j = k := by omega
            rw [q2]; simp
    · obtain rfl : k = 16 := by omega
      have hd16 : ¬ (((16 : Nat) : Int) < 16) := by omega
      have hv : refLeq a b c d = true := by
        unfold refLeq
        rw [decide_eq_true (by omega), Bool.true_and, List.all_eq_true]
        intro j hj
        exact hall j (List.mem_range.1 hj)
      simp only [go_sem, Nat.reduceLT, Nat.reduceEqDiff, ↓reduceIte, Nat.reduceAdd, Nat.zero_add, Nat.add_zero, Nat.reduceLeDiff, Int.reduceEq, Nat.reduceMul, List.take_zero, List.drop_succ_cons, List.drop_zero, List.nil_append, List.append_nil, List.drop_nil, List.take_succ_cons, List.take_nil, List.cons_append, Int.toNat_natCast, Int.toNat_zero, Int.toNat_one, t2, t3, t5, hd16, hv]
  · cases h

/-! ### Name -/
def F46 : Spec := fun vs H => match vs with
  | [.string s] => some (.bool (nameB s), H)
  | _ => none
theorem F46_eq (s : ByteArray) (H : AHeap) : F46 [.string s] H = some (.bool (nameB s), H) := id rfl
theorem sp46 : SpOK 46 F46 := by
  refine .of (fn := Tryd.f46) (by kernel_rfl) (by kernel_rfl) ?_
  intro vs H v H' h
  unfold F46 at h
  split at h
  · rename_i s
    injection h with h; injection h with h1 h2; subst h1; subst h2
    refine ACalls.trim1 rfl ?_
    refine walk sp0_ok (fn := Tryd.f46) (by kernel_rfl) (c := Tryd.f46.body.get (by kernel_rfl)) (by kernel_rfl) (by simp [Tryd.f46]) ?_
    simp only [Tryd.f46, Option.get]
    by_cases c1 : (s.size : Int) = 0
    · have hv : nameB s = false := by unfold nameB; rw [decide_eq_false (by omega)]; rfl
      simp only [go_sem, Nat.reduceLT, Nat.reduceEqDiff, ↓reduceIte, Nat.reduceAdd, Nat.zero_add, Nat.add_zero, Nat.reduceLeDiff, Int.reduceEq, Nat.reduceMul, c1, hv]
    by_cases c2 : 8 < (s.size : Int)
    · have hv : nameB s = false := by unfold nameB; rw [decide_eq_false (p := s.size ≤ 8) (by omega)]; simp
      simp only [go_sem, Nat.reduceLT, Nat.reduceEqDiff, ↓reduceIte, Nat.reduceAdd, Nat.zero_add, Nat.add_zero, Nat.reduceLeDiff, Int.reduceEq, Nat.reduceMul, c1, c2, hv]
    simp only [go_sem, Nat.reduceLT, Nat.reduceEqDiff, ↓reduceIte, Nat.reduceAdd, Nat.zero_add, Nat.add_zero, Nat.reduceLeDiff, Int.reduceEq, Nat.reduceMul, c1, c2]
    refine codeW_loop (fun nn τ X => ∃ k : Nat, nn = s.size - k ∧ k ≤ s.size ∧ tget τ 0 = .string s ∧ tget τ 3 = .int .i64 (k : Nat) ∧ X = H ∧ ∀ j < k, ∃ b : UInt8, s.data.toList[j]? = some b ∧ 97 ≤ b.toNat ∧ b.toNat ≤ 122) (n := s.size) ⟨0, rfl, by omega, ?_, ?_, rfl, fun j hj => by omega⟩ ?_
    · simp only [go_sem, Nat.reduceLT, Nat.reduceEqDiff, ↓reduceIte, Nat.reduceAdd, Nat.zero_add, Nat.add_zero, Nat.reduceLeDiff, Int.reduceEq, Nat.reduceMul]
    · simp only [go_sem, Nat.reduceLT, Nat.reduceEqDiff, ↓reduceIte, Nat.reduceAdd, Nat.zero_add, Nat.add_zero, Nat.reduceLeDiff, Int.reduceEq, Nat.reduceMul]; rfl
    rintro nn τ X ⟨k, rfl, hk, t0, t3, rfl, hall⟩
    by_cases hlt : k < s.size
    · have hd : (k : Int) < (s.size : Int) := by omega
      have hz : (0 : Int) ≤ (k : Int) := by omega
      have hw : IntKind.wrap .i64 ((k : Int) + 1) = ((k + 1 : Nat) : Int) := by rw [wrap64] <;> omega
      obtain ⟨b, hb⟩ : ∃ b, s.data.toList[k]? = some b := ⟨_, List.getElem?_eq_getElem (show k < s.data.toList.length from hlt)⟩
      have bad : ¬ (97 ≤ b.toNat ∧ b.toNat ≤ 122) → nameB s = false := by
        intro hn
        unfold nameB
        have : (s.data.toList.all fun b => decide (97 ≤ b.toNat) && decide (b.toNat ≤ 122)) = false := by
          rw [List.all_eq_false]
          exact ⟨b, List.mem_of_getElem? hb, by simpa using hn⟩
        rw [this, Bool.and_false]
      by_cases c3 : (b.toNat : Int) < 97
      · have hv := bad (by omega)
        simp only [go_sem, Nat.reduceLT, Nat.reduceEqDiff, ↓reduceIte, Nat.reduceAdd, Nat.zero_add, Nat.add_zero, Nat.reduceLeDiff, Int.reduceEq, Nat.reduceMul, List.take_zero, List.drop_succ_cons, List.drop_zero, List.nil_append, List.append_nil, List.drop_nil, List.take_succ_cons, List.take_nil, List.cons_append, Int.toNat_natCast, Int.toNat_zero, Int.toNat_one, t0, t3, hd, hz, hb, c3, hv]
      by_cases c4 : 122 < (b.toNat : Int)
      · have hv := bad (by omega)
        simp only [go_sem, Nat.reduceLT, Nat.reduceEqDiff, ↓reduceIte, Nat.reduceAdd, Nat.zero_add, Nat.add_zero, Nat.reduceLeDiff, Int.reduceEq, Nat.reduceMul, List.take_zero, List.drop_succ_cons, List.drop_zero, List.nil_append, List.append_nil, List.drop_nil, List.take_succ_cons, List.take_nil, List.cons_append, Int.toNat_natCast, Int.toNat_zero, Int.toNat_one, t0, t3, hd, hz, hb, c3, c4, hv]
      simp only [go_sem, Nat.reduceLT, Nat.reduceEqDiff, ↓reduceIte, Nat.reduceAdd, Nat.zero_add, Nat.add_zero, Nat.reduceLeDiff, Int.reduceEq, Nat.reduceMul, List.take_zero, List.drop_succ_cons, List.drop_zero, List.nil_append, List.append_nil, List.drop_nil, List.take_succ_cons, List.take_nil, List.cons_append, Int.toNat_natCast, Int.toNat_zero, Int.toNat_one, t0, t3, hd, hz, hb, c3, c4, hw]
      refine ⟨s.size - (k + 1), by omega, k + 1, rfl, hlt, rfl, fun j hj => ?_⟩
      rcases Nat.lt_or_ge j k with h | h
      · exact hall j h
      · obtain rfl : j = k := by omega
        exact ⟨b, hb, by omega, by omega⟩
    · obtain rfl : k = s.size := by omega
      have hd : ¬ ((s.size : Int) < (s.size : Int)) := by omega
      have hv : nameB s = true := by
        unfold nameB
        rw [decide_eq_true (by omega), decide_eq_true (by omega), Bool.true_and, Bool.true_and, List.all_eq_true]
        intro b hb
        obtain ⟨j, hj⟩ := List.mem_iff_getElem?.1 hb
        have hjl : j < s.data.toList.length := (List.getElem?_eq_some_iff.1 hj).1
        obtain ⟨b', h1, h2, h3⟩ := hall j (by rw [size_list] at hjl; omega)
        rw [hj] at h1; injection h1 with h1; subst h1
        simp [h2, h3]
      simp only [go_sem, Nat.reduceLT, Nat.reduceEqDiff, ↓reduceIte, Nat.reduceAdd, Nat.zero_add, Nat.add_zero, Nat.reduceLeDiff, Int.reduceEq, Nat.reduceMul, t0, t3, hd, hv]
  · cases h
end Go.Proofs.YtkjclebafpomhaaDoor
set_option linter.unusedVariables false
set_option linter.unusedSimpArgs false
set_option maxRecDepth 100000
namespace Go.Proofs.YtkjclebafpomhaaDoor
open Go Go.Eng
def inf52_3 : Info := [([0], [], false), ([11], [], false), ([12], [], false), ([13], [], false), ([3], [0, 1, 2, 3], false), ([14, 15], [], false), ([16], [], false), ([10], [], false), ([10], [7], false), ([17], [8], false), ([18], [], false)]
def inf53_1 : Info := [([0], [], false), ([5], [], false), ([6], [], false), ([0, 7], [], false), ([8, 7], [], false), ([9, 7], [], false), ([10, 7], [], false), ([3, 7], [3, 4, 5, 6], false), ([11, 12, 7], [], false), ([7, 13], [], false), ([14], [], false)]

def zeroGeo : GeoD := ⟨0, 0, 0, 0, 0, 0⟩
def geoV (geos : List GeoD) (k : Int) : Value := if 0 ≤ k ∧ k < geos.length then .tuple #[.agg (geos.getD k.toNat zeroGeo).cells.toArray, .bool true] else .tuple #[.agg zeroGeo.cells.toArray, .bool false]
theorem geo_c {H : AHeap} {i ir ig : Nat} {regs : List RegD} {geos : List GeoD} {total : Int} (hC : IsConf H i ir ig regs geos total) (k : Int) :
    ACalls Tryd.prog 4 40 [.pointer (some ⟨i, 0, none⟩), .int .i64 k] H fun v H' => v = geoV geos k ∧ H' = H := by
  refine ACalls.trimD (d := 2) (by unfold geoV; split <;> rfl) ?_
  refine walk s3_ok (fn := Tryd.f40) (by kernel_rfl) (c := Tryd.f40.body.get (by kernel_rfl)) (by kernel_rfl) (by simp [Tryd.f40]) ?_
  simp only [Tryd.f40, Option.get]
  obtain ⟨cr, t, m, n, l, cg, ro, par, gs, hrow⟩ := hC.row
  obtain ⟨ro2, par2, gs2, hgeo⟩ := hC.rgeos
  have hi : i < H.next := AHeap.get_lt hrow
  have hig : ig < H.next := AHeap.get_lt hgeo
  have hs := hC.same
  have hh : ∀ o, F41 [.pointer (some ⟨i, 0, none⟩), .int .i64 k] (H.new o) = some (.bool (decide (0 ≤ k) && decide (k < regs.length)), H.new o) := fun o => (hC.keeps (Keeps.new _ _ _)).has k
  by_cases hk : 0 ≤ k ∧ k < geos.length
  · obtain ⟨j, rfl⟩ : ∃ j : Nat, k = j := ⟨k.toNat, by omega⟩
    have hj : j < geos.length := by omega
    obtain ⟨r, hr⟩ : ∃ r, geos[j]? = some r := ⟨_, List.getElem?_eq_getElem hj⟩
    obtain ⟨e1, e2⟩ := flat_at GeoD.cells_length geos j r hr
    have hb : (decide (0 ≤ (j : Int)) && decide ((j : Int) < (regs.length : Int))) = true := by simp; omega
    have hix : (0 ≤ (j : Int) ∧ (j : Int) < (geos.length : Int)) = True := by simp; omega
    have hv : geoV geos (j : Int) = .tuple #[.agg r.cells.toArray, .bool true] := by
      unfold geoV; rw [if_pos (by omega)]; simp [List.getD_eq_getElem?_getD, hr]
    rw [hv]
    simp only [go_sem, Nat.reduceLT, Nat.reduceEqDiff, ↓reduceIte, Nat.reduceAdd, Nat.zero_add, Nat.add_zero, Nat.reduceLeDiff, Int.reduceEq, Nat.reduceMul, List.take_zero, List.drop_succ_cons, List.drop_zero, List.nil_append, List.append_nil, List.drop_nil, List.take_succ_cons, List.take_nil, List.cons_append, Int.toNat_natCast, Int.toNat_zero, Int.toNat_one, s3_41, fn_ex, hh, hb, hrow, hgeo, hix, e1, e2, GeoD.cells, hi, hig]
  · have hb : (decide (0 ≤ k) && decide (k < (regs.length : Int))) = false := by
      rw [Bool.eq_false_iff]; intro h; simp at h; omega
    have hv : geoV geos k = .tuple #[.agg zeroGeo.cells.toArray, .bool false] := by unfold geoV; rw [if_neg hk]
    rw [hv]
    simp only [go_sem, Nat.reduceLT, Nat.reduceEqDiff, ↓reduceIte, Nat.reduceAdd, Nat.zero_add, Nat.add_zero, Nat.reduceLeDiff, Int.reduceEq, Nat.reduceMul, List.take_zero, List.drop_succ_cons, List.drop_zero, List.nil_append, List.append_nil, List.drop_nil, List.take_succ_cons, List.take_nil, List.cons_append, Int.toNat_natCast, Int.toNat_zero, Int.toNat_one, s3_41, fn_ex, hh, hb, GeoD.cells, zeroGeo]

def spotV (r : Option Nat) : Value := match r with
  | some j => .tuple #[.int .i64 j, .bool true]
  | none => .tuple #[.int .i64 0, .bool false]
theorem look97v {H : AHeap} {r ck : Nat} {ro : Bool} {l : List ByteArray} (hg : H.get r = some (.map (ents .string l) ck ro)) (s : ByteArray) : aLookup Tryd.prog tb 97 (.map (some r)) (.string s) true H = some (spotV (spot (fun x => s == x) l 0)) := by
  have hz : zeroT tb 3 = some (.int .i64 0) := by kernel_rfl
  unfold aLookup
  simp only [und97, hg, chk9, find97]
  rw [if_pos (show flat 2 (.string s) = true from rfl)]
  cases h : spot (fun x => s == x) l 0 with
  | none => simp only [hz, Option.map_some, if_true]; rfl
  | some j =>
    obtain ⟨_, x, hx, _⟩ := spot_some l 0 j h
    have he : (ents Value.string l)[j]? = some { key := .string x, val := .int .i64 j, born := j } := by
      unfold ents
      rw [List.getElem?_map, List.getElem?_zipIdx]
      rw [Nat.sub_zero] at hx
      simp [hx]
    simp only [if_true, List.getD_eq_getElem?_getD, he, Option.getD_some]
    rfl
theorem look98v {H : AHeap} {r ck : Nat} {ro : Bool} {l : List (Int × Int)} (hg : H.get r = some (.map (ents labV l) ck ro)) (a b : Int) : aLookup Tryd.prog tb 98 (.map (some r)) (.agg #[.int .u8 a, .int .u16 b]) true H = some (spotV (spot (fun x : Int × Int => (a == x.1) && (b == x.2)) l 0)) := by
  have hz : zeroT tb 3 = some (.int .i64 0) := by kernel_rfl
  have hf := find98 a b l
  unfold labV at hf
  unfold aLookup
  simp only [und98, hg, chk36]
  have hf : aFind Tryd.prog tb 36 (.agg #[.int .u8 a, .int .u16 b]) (ents labV l) = _ := hf
  rw [if_pos (show flat 2 (.agg #[.int .u8 a, .int .u16 b]) = true from rfl), hf]
  cases h : spot (fun x : Int × Int => (a == x.1) && (b == x.2)) l 0 with
  | none => simp only [hz, Option.map_some, if_true]; rfl
  | some j =>
    obtain ⟨_, x, hx, _⟩ := spot_some l 0 j h
    have he : (ents labV l)[j]? = some { key := labV x, val := .int .i64 j, born := j } := by
      unfold ents
      rw [List.getElem?_map, List.getElem?_zipIdx]
      rw [Nat.sub_zero] at hx
      simp [hx]
    simp only [if_true, List.getD_eq_getElem?_getD, he, Option.getD_some]
    rfl

theorem named_c {H : AHeap} {lo i : Nat} {regs : List RegD} {geos : List GeoD} {total : Int} {marks : List (Int × Int)} (hM : ConfM H lo i regs geos total marks) (s : ByteArray) :
    ACalls Tryd.prog 4 51 [.pointer (some ⟨i, 0, none⟩), .string s] H fun v H' => v = spotV (spot (fun x => s == x) (regs.map (·.name)) 0) ∧ H' = H := by
  obtain ⟨it, inn, il, sr, sm, sg, hrow, hit, hin, hil, _⟩ := hM.all
  refine walk sp0_ok (fn := Tryd.f51) (by kernel_rfl) (c := Tryd.f51.body.get (by kernel_rfl)) (by kernel_rfl) (by simp [Tryd.f51]) ?_
  simp only [Tryd.f51, Option.get]
  have hl := look97v hin s
  cases hs : spot (fun x => s == x) (regs.map (·.name)) 0 with
  | none =>
    rw [hs] at hl
    simp only [go_sem, Nat.reduceLT, Nat.reduceEqDiff, ↓reduceIte, Nat.reduceAdd, Nat.zero_add, Nat.add_zero, Nat.reduceLeDiff, Int.reduceEq, Nat.reduceMul, List.take_zero, List.drop_succ_cons, List.drop_zero, List.nil_append, List.append_nil, List.drop_nil, List.take_succ_cons, List.take_nil, List.cons_append, Int.toNat_natCast, Int.toNat_zero, Int.toNat_one, hrow, hl, spotV]
  | some j =>
    rw [hs] at hl
    simp only [go_sem, Nat.reduceLT, Nat.reduceEqDiff, ↓reduceIte, Nat.reduceAdd, Nat.zero_add, Nat.add_zero, Nat.reduceLeDiff, Int.reduceEq, Nat.reduceMul, List.take_zero, List.drop_succ_cons, List.drop_zero, List.nil_append, List.append_nil, List.drop_nil, List.take_succ_cons, List.take_nil, List.cons_append, Int.toNat_natCast, Int.toNat_zero, Int.toNat_one, hrow, hl, spotV]

theorem find_c {H : AHeap} {lo i : Nat} {regs : List RegD} {geos : List GeoD} {total : Int} {marks : List (Int × Int)} (hM : ConfM H lo i regs geos total marks) (a b : Int) :
    ACalls Tryd.prog 4 52 [.pointer (some ⟨i, 0, none⟩), .agg #[.int .u8 a, .int .u16 b]] H fun v H' => v = spotV (spot (fun x : Int × Int => (a == x.1) && (b == x.2)) (regs.map fun r => (r.lev, r.cats)) 0) ∧ H' = H := by
  refine ACalls.trimD (d := 1) (by unfold spotV; split <;> rfl) ?_
  obtain ⟨it, inn, il, sr, sm, sg, hrow, hit, hin, hil, _⟩ := hM.all
  have hi : i < H.next := AHeap.get_lt hrow
  have hx : il < H.next := AHeap.get_lt hil
  refine walk sp0_ok (fn := Tryd.f52) (by kernel_rfl) (c := Tryd.f52.body.get (by kernel_rfl)) (by kernel_rfl) (by simp [Tryd.f52]) ?_
  simp only [Tryd.f52, Option.get]
  have hl : ∀ o, aLookup Tryd.prog tb 98 (.map (some il)) (.agg #[.int .u8 a, .int .u16 b]) true (H.new o) = some (spotV (spot (fun x : Int × Int => (a == x.1) && (b == x.2)) (regs.map fun r => (r.lev, r.cats)) 0)) := fun o => look98v (by rw [get_new_old _ hx]; exact hil) a b
  simp only [go_sem, Nat.reduceLT, Nat.reduceEqDiff, ↓reduceIte, Nat.reduceAdd, Nat.zero_add, Nat.add_zero, Nat.reduceLeDiff, Int.reduceEq, Nat.reduceMul, List.take_zero, List.drop_succ_cons, List.drop_zero, List.nil_append, List.append_nil, List.drop_nil, List.take_succ_cons, List.take_nil, List.cons_append, Int.toNat_natCast, Int.toNat_zero, Int.toNat_one]
  refine codeW_any (cxS_ok sp0_ok) inf52_3 (by kernel_rfl) fun _ => ?_
  cases hs : spot (fun x : Int × Int => (a == x.1) && (b == x.2)) (regs.map fun r => (r.lev, r.cats)) 0 with
  | none =>
    rw [hs] at hl
    simp only [inf52_3, go_sem, Nat.reduceLT, Nat.reduceEqDiff, ↓reduceIte, Nat.reduceAdd, Nat.zero_add, Nat.add_zero, Nat.reduceLeDiff, Int.reduceEq, Nat.reduceMul, List.take_zero, List.drop_succ_cons, List.drop_zero, List.nil_append, List.append_nil, List.drop_nil, List.take_succ_cons, List.take_nil, List.cons_append, Int.toNat_natCast, Int.toNat_zero, Int.toNat_one, hrow, hl, spotV, hi, hx]
  | some j =>
    rw [hs] at hl
    simp only [inf52_3, go_sem, Nat.reduceLT, Nat.reduceEqDiff, ↓reduceIte, Nat.reduceAdd, Nat.zero_add, Nat.add_zero, Nat.reduceLeDiff, Int.reduceEq, Nat.reduceMul, List.take_zero, List.drop_succ_cons, List.drop_zero, List.nil_append, List.append_nil, List.drop_nil, List.take_succ_cons, List.take_nil, List.cons_append, Int.toNat_natCast, Int.toNat_zero, Int.toNat_one, hrow, hl, spotV, hi, hx]

theorem trusted_c {H : AHeap} {lo i : Nat} {regs : List RegD} {geos : List GeoD} {total : Int} {marks : List (Int × Int)} (hM : ConfM H lo i regs geos total marks) (a b : Int) :
    ACalls Tryd.prog 4 53 [.pointer (some ⟨i, 0, none⟩), .agg #[.int .u8 a, .int .u16 b]] H fun v H' => v = .bool (marks.any fun x => (a == x.1) && (b == x.2)) ∧ H' = H := by
  refine ACalls.trim1 rfl ?_
  obtain ⟨it, inn, il, sr, sm, sg, hrow, hit, hin, hil, _⟩ := hM.all
  have hi : i < H.next := AHeap.get_lt hrow
  have hx : it < H.next := AHeap.get_lt hit
  refine walk sp0_ok (fn := Tryd.f53) (by kernel_rfl) (c := Tryd.f53.body.get (by kernel_rfl)) (by kernel_rfl) (by simp [Tryd.f53]) ?_
  simp only [Tryd.f53, Option.get]
  have hl : ∀ o, aLookup Tryd.prog tb 96 (.map (some it)) (.agg #[.int .u8 a, .int .u16 b]) false (H.new o) = some (.bool (marks.any fun x => (a == x.1) && (b == x.2))) := fun o => look96 (by rw [get_new_old _ hx]; exact hit) a b
  simp only [go_sem, Nat.reduceLT, Nat.reduceEqDiff, ↓reduceIte, Nat.reduceAdd, Nat.zero_add, Nat.add_zero, Nat.reduceLeDiff, Int.reduceEq, Nat.reduceMul, List.take_zero, List.drop_succ_cons, List.drop_zero, List.nil_append, List.append_nil, List.drop_nil, List.take_succ_cons, List.take_nil, List.cons_append, Int.toNat_natCast, Int.toNat_zero, Int.toNat_one]
  refine codeW_any (cxS_ok sp0_ok) inf53_1 (by kernel_rfl) fun _ => ?_
  simp only [inf53_1, go_sem, Nat.reduceLT, Nat.reduceEqDiff, ↓reduceIte, Nat.reduceAdd, Nat.zero_add, Nat.add_zero, Nat.reduceLeDiff, Int.reduceEq, Nat.reduceMul, List.take_zero, List.drop_succ_cons, List.drop_zero, List.nil_append, List.append_nil, List.drop_nil, List.take_succ_cons, List.take_nil, List.cons_append, Int.toNat_natCast, Int.toNat_zero, Int.toNat_one, hrow, hl, hi, hx]

def F96 : Spec := fun vs H => match vs with
  | [.pointer none] => some (.slice none 0 0, H)
  | [.pointer (some ⟨i, 0, none⟩)] => match ld1 (H.get i) 5 with
    | some (.slice a l c) => some (.slice a l c, H)
    | _ => none
  | _ => none
theorem F96_ptr {H : AHeap} {i : Nat} {a : Option Addr} {l c : Nat} (h : ld1 (H.get i) 5 = some (.slice a l c)) : F96 [.pointer (some ⟨i, 0, none⟩)] H = some (.slice a l c, H) := by simp only [F96, h]
theorem sp96 : SpOK 96 F96 := by
  refine .of (fn := Tryd.f96) (by kernel_rfl) (by kernel_rfl) ?_
  intro vs H v H' h
  unfold F96 at h
  split at h
  · injection h with h; injection h with h1 h2; subst h1; subst h2
    refine walk sp0_ok (fn := Tryd.f96) (by kernel_rfl) (c := Tryd.f96.body.get (by kernel_rfl)) (by kernel_rfl) (by simp [Tryd.f96]) ?_
    simp only [Tryd.f96, Option.get]
    simp only [go_sem, Nat.reduceLT, Nat.reduceEqDiff, ↓reduceIte, Nat.reduceAdd, Nat.zero_add, Nat.add_zero, Nat.reduceLeDiff, Int.reduceEq, Nat.reduceMul]
  · rename_i i
    split at h
    · rename_i a l c hg
      injection h with h; injection h with h1 h2; subst h1; subst h2
      refine walk sp0_ok (fn := Tryd.f96) (by kernel_rfl) (c := Tryd.f96.body.get (by kernel_rfl)) (by kernel_rfl) (by simp [Tryd.f96]) ?_
      simp only [Tryd.f96, Option.get]
      simp only [go_sem, Nat.reduceLT, Nat.reduceEqDiff, ↓reduceIte, Nat.reduceAdd, Nat.zero_add, Nat.add_zero, Nat.reduceLeDiff, Int.reduceEq, Nat.reduceMul, hg]
    · cases h
  · cases h
end Go.Proofs.YtkjclebafpomhaaDoor
set_option linter.unusedVariables false
set_option linter.unusedSimpArgs false
namespace Go.Eng
open Go
section
variable {cx : Cx} {N : Nat}
theorem bindV_mono {r : Option Value} {K K' : Value → Prop} (h : ∀ v, K v → K' v) (k : bindV r K) : bindV r K' := by cases r with | none => exact k | some v => exact h v k
theorem bindL_mono {r : Option (List Value)} {K K' : List Value → Prop} (h : ∀ v, K v → K' v) (k : bindL r K) : bindL r K' := by cases r with | none => exact k | some v => exact h v k
theorem bindR_mono {r : Option (Value × AHeap)} {K K' : Value → AHeap → Prop} (h : ∀ v H, K v H → K' v H) (k : bindR r K) : bindR r K' := by cases r with | none => exact k | some v => exact h v.1 v.2 k
theorem callW_mono {f : Value} {vs : List Value} {H : AHeap} {K K' : Value → AHeap → Prop} (h : ∀ v H, K v H → K' v H) (k : callW cx f vs H K) : callW cx f vs H K' := by
  unfold callW at k ⊢
  split at k
  · rename_i g first cap
    unfold spW at k ⊢
    split at k
    · exact ⟨k.1, bindR_mono h k.2⟩
    · rcases k with ⟨fn, f1, f2, f3, f4⟩ | ⟨v, f1, f2, f3, f4⟩
      · exact .inl ⟨fn, f1, f2, f3, f4.mono h⟩
      · exact .inr ⟨v, f1, f2, f3, h _ _ f4⟩
  · cases k
theorem opW_mono {op : Op} {τ : Tmps} {H : AHeap} {K K' : Value → AHeap → Prop} (h : ∀ v H, K v H → K' v H) (k : opW cx op τ H K) : opW cx op τ H K' := by
  unfold opW at k ⊢
  split at k
  · exact bindV_mono (fun f => bindL_mono fun vs => callW_mono h) k
  · exact bindR_mono h k
theorem gdW_mono {r : Option Value} {w : Bool} {p p' q q' : Prop} (h1 : p → p') (h2 : q → q') (k : gdW r w p q) : gdW r w p' q' := by
  unfold gdW at k ⊢
  split at k
  · exact ⟨fun e => h1 (k.1 e), fun e => h2 (k.2 e)⟩
  · exact h2 k
  · cases k
theorem opsW_mono {ops : Array Oper} {K K' : Tmps → AHeap → Prop} (h : ∀ τ H, K τ H → K' τ H) : ∀ (l : List Oper) (τ : Tmps) (H : AHeap), opsW cx N ops K l τ H → opsW cx N ops K' l τ H := by
  intro l
  induction l with
  | nil => intro τ H k; exact h τ H k
  | cons o l ih =>
    intro τ H k
    have yes : (opW cx o.op τ H fun v H' => match o.dst with
        | none => opsW cx N ops K l τ H'
        | some d => d < N ∧ opsW cx N ops K l (τ.put d (some v)) H') → opW cx o.op τ H fun v H' => match o.dst with
        | none => opsW cx N ops K' l τ H'
        | some d => d < N ∧ opsW cx N ops K' l (τ.put d (some v)) H' := opW_mono fun v H' k => by
      split at k
      · exact ih _ _ k
      · exact ⟨k.1, ih _ _ k.2⟩
    have no : (match o.dst with
        | none => opsW cx N ops K l τ H
        | some d => d < N ∧ opsW cx N ops K l (τ.put d (some undef)) H) → (match o.dst with
        | none => opsW cx N ops K' l τ H
        | some d => d < N ∧ opsW cx N ops K' l (τ.put d (some undef)) H) := fun k => by
      split at k
      · exact ih _ _ k
      · exact ⟨k.1, ih _ _ k.2⟩
    simp only [opsW] at k ⊢
    split at k
    · exact yes k
    · exact gdW_mono yes no k
theorem codeW_mono : ∀ (c : Code) {Q Q' : PostW}, (∀ e τ H, Q e τ H → Q' e τ H) → ∀ (τ : Tmps) (H : AHeap), codeW cx N c Q τ H → codeW cx N c Q' τ H := by
  intro c
  induction c with
  | skip => intro Q Q' h τ H k; exact h _ _ _ k
  | label l => intro Q Q' h τ H k; exact h _ _ _ k
  | ret => intro Q Q' h τ H k; exact h _ _ _ k
  | exit i => intro Q Q' h τ H k; exact h _ _ _ k
  | seq a b iha ihb =>
    intro Q Q' h τ H k
    refine iha (fun e τ H k => ?_) τ H k
    cases e <;> first | exact ihb h _ _ k | exact h _ _ _ k
  | cond c a b iha ihb =>
    intro Q Q' h τ H k
    simp only [codeW] at k ⊢
    unfold ifW at k ⊢
    split at k
    · exact ⟨fun e => iha h _ _ (k.1 e), fun e => ihb h _ _ (k.2 e)⟩
    · cases k
  | block i c ih =>
    intro Q Q' h τ H k
    refine ih (fun e τ H k => ?_) τ H k
    cases e with
    | exit j =>
      simp only [blkW] at k ⊢
      split at k
      · rename_i e; rw [if_pos e]; exact h _ _ _ k
      · rename_i e; rw [if_neg e]; exact h _ _ _ k
    | _ => exact h _ _ _ k
  | loop c ih =>
    intro Q Q' h τ H k
    obtain ⟨I, n, h1, h2⟩ := k
    refine ⟨I, n, h1, fun n τ H hI => ih (fun e τ H k => ?_) τ H (h2 n τ H hI)⟩
    cases e <;> first | exact k | exact h _ _ _ k
  | region id ops d =>
    intro Q Q' h τ H k
    cases d with
    | false => exact opsW_mono (h .normal) _ _ _ k
    | true => exact (show ACode cx.P cx.G N (.region id ops true) Q τ H from k).mono h
  | _ => intro Q Q' h τ H k; cases k

/-! ### A loop of few rounds, run one by one -/
def loopK (cx : Cx) (N : Nat) (c : Code) (Q : PostW) : Nat → Tmps → AHeap → Prop
  | 0, _, _ => False
  | k + 1, τ, H => codeW cx N c (seqW (fun τ' H' => loopK cx N c Q k τ' H') Q) τ H
theorem loopK_succ (cx : Cx) (N : Nat) (c : Code) (Q : PostW) (k : Nat) (τ : Tmps) (H : AHeap) : loopK cx N c Q (k + 1) τ H = codeW cx N c (seqW (fun τ' H' => loopK cx N c Q k τ' H') Q) τ H := id rfl
@[congr] theorem loopK_congr {c : Code} {Q : PostW} {k : Nat} {τ τ' : Tmps} {H H' : AHeap} (h1 : τ = τ') (h2 : H = H') : loopK cx N c Q k τ H = loopK cx N c Q k τ' H' := by rw [h1, h2]
theorem codeW_unroll {c : Code} {Q : PostW} {τ : Tmps} {H : AHeap} (k : Nat) (h : loopK cx N c Q k τ H) : codeW cx N (.loop c) Q τ H := by
  refine codeW_loop (fun n τ H => loopK cx N c Q n τ H) (n := k) h ?_
  intro n τ H h
  cases n with
  | zero => cases h
  | succ n =>
    refine codeW_mono c (fun e τ H k => ?_) _ _ h
    cases e <;> first | exact ⟨n, by omega, k⟩ | exact k
end
/-! ### Long regions: their lists are put together -/
section
variable (cx : Cx) (N : Nat) (ops : List Oper) (K : Tmps → AHeap → Prop) (o : Oper) (l m : List Oper) (τ : Tmps) (H : AHeap) (j d : Nat) (op : Op) (ty : TypeId) (ps : String) (af : Array Edge) (g : Option (Nat × Bool))
theorem opsL_app : opsL cx N ops K (List.append (o :: l) m) τ H = opsL cx N ops K (o :: List.append l m) τ H := id rfl
theorem opsL_app0 : opsL cx N ops K (List.append [] m) τ H = opsL cx N ops K m τ H := id rfl
theorem dstV_app : dstV (List.append (o :: l) m) (j + 1) τ = dstV (List.append l m) j τ := by simp [dstV]
theorem dstV_app0 : dstV (List.append [] m) j τ = dstV m j τ := id rfl
theorem dstV_appz : dstV (List.append ({ dst := some d, op := op, type := ty, pos := ps, after := af, guard := g } :: l) m) 0 τ = some (tget τ d) := id rfl
end
attribute [go_sem ↓] opsL_app opsL_app0 dstV_app dstV_app0 dstV_appz
attribute [go_sem ↓] loopK_succ
end Go.Eng
set_option linter.unusedVariables false
set_option linter.unusedSimpArgs false
set_option maxRecDepth 100000
namespace Go.Proofs.YtkjclebafpomhaaDoor
open Go Go.Eng

theorem pair_any1 (m : Int × Int) (d : List (Int × Int)) : (d.any fun x => (m.1 == x.1) && (m.2 == x.2)) = true ↔ m ∈ d := by
  rw [List.any_eq_true]
  constructor
  · rintro ⟨x, hx, h⟩
    simp only [Bool.and_eq_true, beq_iff_eq] at h
    have : m = x := Prod.ext h.1 h.2
    rw [this]; exact hx
  · intro h
    exact ⟨m, h, by simp⟩
theorem pair_any2 (m : Int × Int) (d : List (Int × Int)) : (d.any fun y => (y.1 == m.1) && (y.2 == m.2)) = true ↔ m ∈ d := by
  rw [← pair_any1]
  simp only [List.any_eq_true, Bool.and_eq_true, beq_iff_eq]
  constructor <;> rintro ⟨x, hx, h⟩ <;> exact ⟨x, hx, h.1.symm, h.2.symm⟩
theorem marksOf_nodup (many : Int) : ∀ (l : List Int) (k : Nat) (acc : List (Int × Int)), acc.Nodup → (marksOf many l k acc).Nodup := by
  intro l
  induction l with
  | nil => intro k acc h; exact h
  | cons x l ih =>
    intro k acc h
    unfold marksOf
    split
    · exact ih _ _ h
    · rename_i hc
      rw [pair_any2] at hc
      refine ih _ _ (List.nodup_append.2 ⟨h, by simp, ?_⟩)
      intro a ha b hb e
      simp only [List.mem_singleton] at hb
      subst e; subst hb
      exact hc (.inr ha)
theorem marksOf_mem (many : Int) : ∀ (l : List Int) (k : Nat) (acc : List (Int × Int)) (m : Int × Int), m ∈ marksOf many l k acc → m ∈ acc ∨ ∃ x ∈ l, m = markOf many x := by
  intro l
  induction l with
  | nil => intro k acc m h; exact .inl h
  | cons x l ih =>
    intro k acc m h
    unfold marksOf at h
    split at h
    · rcases ih _ _ _ h with h | ⟨y, hy, e⟩
      · exact .inl h
      · exact .inr ⟨y, List.mem_cons_of_mem _ hy, e⟩
    · rcases ih _ _ _ h with h | ⟨y, hy, e⟩
      · rcases List.mem_append.1 h with h | h
        · exact .inl h
        · exact .inr ⟨x, by simp, by simpa using h⟩
      · exact .inr ⟨y, List.mem_cons_of_mem _ hy, e⟩
theorem marksOf_len (many : Int) : ∀ (l : List Int) (k : Nat) (acc : List (Int × Int)), acc.length ≤ k → acc.length ≤ 9 → (marksOf many l k acc).length ≤ 9 := by
  intro l
  induction l with
  | nil => intro k acc _ h; exact h
  | cons x l ih =>
    intro k acc h1 h2
    unfold marksOf
    split
    · exact ih _ _ (by omega) h2
    · rename_i hc
      have : ¬ 8 < k := fun h => hc (.inl h)
      exact ih _ _ (by simp; omega) (by simp; omega)
theorem marksErr_ok (regs : List RegD) : ∀ (l d : List (Int × Int)), (d ++ l).Nodup → (∀ m ∈ l, m.1 < regs.length ∧ 1 ≤ m.2 ∧ m.2 ≤ (regs.getD m.1.toNat zeroReg).nodes) → marksErr regs d l = 0 := by
  intro l
  induction l with
  | nil => intro d _ _; rfl
  | cons m l ih =>
    intro d h1 h2
    obtain ⟨a1, a2, a3⟩ := h2 m (by simp)
    unfold marksErr
    rw [if_neg (by omega), if_neg]
    · refine ih _ (by simpa using h1) fun m' hm' => h2 m' (by simp [hm'])
    · rw [pair_any1]
      intro hm
      have := (List.nodup_append.1 h1).2.2 m hm m (by simp)
      exact this rfl

theorem nm_ne : ∀ k, k < 5 → ∀ j, j < k → (nmB k == nmB j) = false := by decide
theorem lb_ne : ∀ k, k < 5 → ∀ j, j < k → ((lbL k == lbL j) && (lbC k == lbC j)) = false := by decide
theorem nm_ok : ∀ k, k < 5 → nameB (nmB k) = true := by decide
theorem lb_lo : ∀ k, k < 5 → lbL k ≤ 15 := by decide
theorem arr_b {arr : List Int} (h : arr.length = 25) (hb : ∀ x ∈ arr, 0 ≤ x ∧ x ≤ 255) (j : Nat) (hj : j < 25) : 0 ≤ arr.getD j 0 ∧ arr.getD j 0 ≤ 255 := by
  rw [List.getD_eq_getElem?_getD, List.getElem?_eq_getElem (by omega)]
  exact hb _ (List.getElem_mem _)
theorem clr_ok {many k : Nat} (h : 2 ≤ many) (hk : k < many) : 0 ≤ clr many k ∧ clr many k ≤ (many : Int) - 1 := by
  unfold clr clr0
  split
  · omega
  · split
    · omega
    · split <;> omega
theorem fin_sound {arr : List Int} (h : arr.length = 25) (hb : ∀ x ∈ arr, 0 ≤ x ∧ x ≤ 255) {many k : Nat} (hk : k < 5) : (finReg many arr k).sound = true := by
  have t : ∀ (j : Nat) (n : Int), j < 25 → (arr.getD j 0).tmod n = (arr.getD j 0) % n := fun j n hj => Int.tmod_eq_emod_of_nonneg (arr_b h hb j hj).1
  have b0 := arr_b h hb (k * 5) (by omega)
  have b1 := arr_b h hb (k * 5 + 1) (by omega)
  have b2 := arr_b h hb (k * 5 + 2) (by omega)
  have b3 := arr_b h hb (k * 5 + 3) (by omega)
  have b4 := arr_b h hb (k * 5 + 4) (by omega)
  simp only [RegD.sound, Bool.and_eq_true, decide_eq_true_eq]
  simp only [finReg, preReg, mkReg]
  rw [t _ _ (by omega : k * 5 < 25), t _ _ (by omega : k * 5 + 1 < 25), t _ _ (by omega : k * 5 + 2 < 25), t _ _ (by omega : k * 5 + 3 < 25), t _ _ (by omega : k * 5 + 4 < 25)]
  rw [Int.tmod_eq_emod_of_nonneg (by omega)]
  omega
theorem fin_add {arr : List Int} (h : arr.length = 25) (hb : ∀ x ∈ arr, 0 ≤ x ∧ x ≤ 255) {many k : Nat} (h2 : 2 ≤ many) (h5 : many ≤ 5) (hk : k < many) : addErr many ((List.range k).map (finReg many arr)) (finReg many arr k) = 0 := by
  unfold addErr
  have hc := clr_ok h2 hk
  have hw : w64 ((many : Int) - 1) = (many : Int) - 1 := by unfold w64; rw [wrap64] <;> omega
  have e1 : nameB (finReg many arr k).name = true := nm_ok k (by omega)
  have e2 : decide ((finReg many arr k).lev ≤ 15) = true := decide_eq_true (lb_lo k (by omega))
  have e4 : (decide (0 ≤ (finReg many arr k).clear) && decide ((finReg many arr k).clear ≤ w64 ((many : Int) - 1))) = true := by
    rw [hw]
    have : (finReg many arr k).clear = clr many k := rfl
    rw [this]; simp; exact hc
  have e5 : ((((List.range k).map (finReg many arr)).map (·.name)).any fun x => (finReg many arr k).name == x) = false := by
    rw [List.any_eq_false]
    intro x hx
    simp only [List.mem_map, List.mem_range] at hx
    obtain ⟨_, ⟨j, hj, rfl⟩, rfl⟩ := hx
    have := nm_ne k (by omega) j hj
    rw [show ((finReg many arr k).name == (finReg many arr j).name) = (nmB k == nmB j) from rfl, this]; simp
  have e6 : ((((List.range k).map (finReg many arr)).map fun r => (r.lev, r.cats)).any fun x => ((finReg many arr k).lev == x.1) && ((finReg many arr k).cats == x.2)) = false := by
    rw [List.any_eq_false]
    intro x hx
    simp only [List.mem_map, List.mem_range] at hx
    obtain ⟨_, ⟨j, hj, rfl⟩, rfl⟩ := hx
    have := lb_ne k (by omega) j hj
    rw [show (((finReg many arr k).lev == ((finReg many arr j).lev, (finReg many arr j).cats).1) && ((finReg many arr k).cats == ((finReg many arr j).lev, (finReg many arr j).cats).2)) = ((lbL k == lbL j) && (lbC k == lbC j)) from rfl, this]; simp
  rw [e1, e2, fin_sound h hb (by omega), e4, e5, e6]
  rfl
theorem fin_adds {arr : List Int} (h : arr.length = 25) (hb : ∀ x ∈ arr, 0 ≤ x ∧ x ≤ 255) {many : Nat} (h2 : 2 ≤ many) (h5 : many ≤ 5) : ∀ n k, k + n = many → addsErr many ((List.range k).map (finReg many arr)) ((List.range' k n).map (finReg many arr)) = 0 := by
  intro n
  induction n with
  | zero => intro k hk; rfl
  | succ n ih =>
    intro k hk
    rw [List.range'_succ, List.map_cons]
    unfold addsErr
    rw [if_pos (fin_add h hb h2 h5 (by omega))]
    have := ih (k + 1) (by omega)
    rw [List.range_succ, List.map_append] at this
    exact this
theorem fin_at {arr : List Int} {many k : Nat} (hk : k < many) : (finRegs many arr).getD k zeroReg = finReg many arr k := by
  unfold finRegs
  rw [List.getD_eq_getElem?_getD, List.getElem?_map, List.getElem?_range hk]; rfl
theorem fin_len (many : Nat) (arr : List Int) : (finRegs many arr).length = many := by simp [finRegs]
theorem lb_leq : ∀ many, 2 ≤ many → many ≤ 5 → ∀ k, k < many → leqB (lbL k) (lbC k) (lbL (clr many k).toNat) (lbC (clr many k).toNat) = true := by
  intro many h2 h5 k hk
  have : many = 2 ∨ many = 3 ∨ many = 4 ∨ many = 5 := by omega
  rcases this with rfl | rfl | rfl | rfl
  · rcases k with _ | _ | k <;> first | omega | decide +kernel
  · rcases k with _ | _ | _ | k <;> first | omega | decide +kernel
  · rcases k with _ | _ | _ | _ | k <;> first | omega | decide +kernel
  · rcases k with _ | _ | _ | _ | _ | k <;> first | omega | decide +kernel
theorem fin_leq {arr : List Int} {many k : Nat} (h2 : 2 ≤ many) (h5 : many ≤ 5) (hk : k < many) : leqR (finRegs many arr) k (finReg many arr k).clear = true := by
  have hc := clr_ok h2 hk
  have e : (finReg many arr k).clear = clr many k := rfl
  unfold leqR
  rw [e, fin_len, if_pos (by omega), Int.toNat_natCast, fin_at hk, fin_at (by omega)]
  exact lb_leq many h2 h5 k hk
theorem fin_leqs {arr : List Int} {many : Nat} (h2 : 2 ≤ many) (h5 : many ≤ 5) : ∀ n k, k + n = many → leqsFrom (finRegs many arr) ((List.range' k n).map (finReg many arr)) k = true := by
  intro n
  induction n with
  | zero => intro k hk; rfl
  | succ n ih =>
    intro k hk
    rw [List.range'_succ, List.map_cons]
    unfold leqsFrom
    rw [fin_leq h2 h5 (by omega), ih (k + 1) (by omega)]; rfl
theorem mark_ok {many : Nat} (h2 : 2 ≤ many) {x : Int} (hx : 0 ≤ x ∧ x ≤ 255) : 0 ≤ (markOf many x).1 ∧ (markOf many x).1 < many ∧ 4 ≤ (markOf many x).2 ∧ (markOf many x).2 ≤ 7 := by
  unfold markOf
  simp only
  rw [Int.tmod_eq_emod_of_nonneg hx.1, Int.tdiv_eq_ediv_of_nonneg hx.1, Int.tmod_eq_emod_of_nonneg (by omega)]
  have := Int.emod_nonneg x (show (many : Int) ≠ 0 by omega)
  have := Int.emod_lt_of_pos x (show (0 : Int) < many by omega)
  omega
theorem fin_nodes {arr : List Int} (h : arr.length = 25) (hb : ∀ x ∈ arr, 0 ≤ x ∧ x ≤ 255) {many k : Nat} (hk : k < 5) : 8 ≤ (finReg many arr k).nodes := by
  have b1 := arr_b h hb (k * 5 + 1) (by omega)
  show 8 ≤ 8 + 2 * (arr.getD (k * 5 + 1) 0).tmod 12
  rw [Int.tmod_eq_emod_of_nonneg b1.1]; omega
theorem fin_new {arr bytes : List Int} (h : arr.length = 25) (hb : ∀ x ∈ arr, 0 ≤ x ∧ x ≤ 255) (hbb : ∀ x ∈ bytes, 0 ≤ x ∧ x ≤ 255) {many : Nat} (h2 : 2 ≤ many) (h5 : many ≤ 5) : newErr (finRegs many arr) (marksOf many bytes 0 []) = 0 := by
  unfold newErr
  rw [fin_len, if_neg (by omega)]
  have e1 : addsErr many [] (finRegs many arr) = 0 := by
    have := fin_adds h hb h2 h5 many 0 (by omega)
    rw [← List.range_eq_range'] at this
    exact this
  have e2 : leqsFrom (finRegs many arr) (finRegs many arr) 0 = true := by
    have := fin_leqs (arr := arr) h2 h5 many 0 (by omega)
    rw [← List.range_eq_range'] at this
    exact this
  have e3 : (((finRegs many arr).getD 0 zeroReg).lev == 0 && ((finRegs many arr).getD 0 zeroReg).cats == 0) = true := by
    rw [fin_at (by omega)]; rfl
  rw [if_neg (by rw [e1]; simp), if_neg (by rw [e3]; simp), if_neg (by rw [e2]; simp)]
  refine marksErr_ok _ _ _ (by simpa using marksOf_nodup many bytes 0 [] (by simp)) fun m hm => ?_
  rcases marksOf_mem _ _ _ _ _ hm with hm | ⟨x, hx, rfl⟩
  · cases hm
  obtain ⟨a1, a2, a3, a4⟩ := mark_ok h2 (hbb x hx)
  rw [fin_len]
  refine ⟨a2, by omega, ?_⟩
  obtain ⟨p, hp⟩ : ∃ p : Nat, (markOf many x).1 = p := ⟨(markOf many x).1.toNat, by omega⟩
  rw [hp, Int.toNat_natCast, fin_at (by omega)]
  have := fin_nodes h hb (many := many) (k := p) (by omega)
  omega
end Go.Proofs.YtkjclebafpomhaaDoor
set_option linter.unusedVariables false
set_option linter.unusedSimpArgs false
set_option maxRecDepth 100000
namespace Go.Proofs.YtkjclebafpomhaaDoor
open Go Go.Eng
theorem s8_19 : s8 19 = none := id rfl
theorem s8_20 : s8 20 = none := id rfl
theorem size_many {a : Int} (ha : 0 ≤ a ∧ a ≤ 255) : 2 ≤ (2 + a.tmod 4).toNat ∧ (2 + a.tmod 4).toNat ≤ 5 ∧ (((2 + a.tmod 4).toNat : Nat) : Int) = 2 + a.tmod 4 := by
  rw [Int.tmod_eq_emod_of_nonneg ha.1]; omega
theorem conf_c {H : AHeap} {a : Int} {arr bytes : List Int} {sl : Value} (ha : 0 ≤ a ∧ a ≤ 255) (h25 : arr.length = 25) (hb : ∀ x ∈ arr, 0 ≤ x ∧ x ≤ 255) (hs : SlcE H sl (fun x => [Value.int .u8 x]) 1 bytes) (hbb : ∀ x ∈ bytes, 0 ≤ x ∧ x ≤ 255) (hlen : bytes.length < 4611686018427387904) :
    ACalls Tryd.prog 4 13 [.agg (sizeCells a arr sl).toArray] H fun v H' => Keeps [] H H' ∧ ∃ i ir ig, v = .pointer (some ⟨i, 0, none⟩) ∧
      IsConf H' i ir ig (finRegs (2 + a.tmod 4).toNat arr) (geosFrom 32 (finRegs (2 + a.tmod 4).toNat arr)).1 (geosFrom 32 (finRegs (2 + a.tmod 4).toNat arr)).2 := by
  refine walk s8_ok (fn := Tryd.f13) (by kernel_rfl) (c := Tryd.f13.body.get (by kernel_rfl)) (by kernel_rfl) (by simp [Tryd.f13]) ?_
  simp only [Tryd.f13, Option.get]
  have qone : (sizeCells a arr sl).all one = true := by
    have h1 : one sl = true := by
      rcases hs with ⟨_, rfl⟩ | ⟨b, c, row, ro, par, gs, rfl, _⟩
      · exact one_slice ..
      · exact one_slice ..
    simp only [sizeCells, List.all_cons, List.all_append, h1, List.all_nil, Bool.and_true, Bool.and_eq_true, List.all_eq_true, List.mem_map]
    exact ⟨rfl, by rintro x ⟨y, _, rfl⟩; rfl⟩
  have ql : (sizeCells a arr sl).length = 27 := by simp [sizeCells, h25]
  have qt : (sizeCells a arr sl).take 27 = sizeCells a arr sl := List.take_of_length_le (by omega)
  have ql' : 27 ≤ (sizeCells a arr sl).length := by omega
  have hK1 : Keeps [] H (H.new (.cells (sizeCells a arr sl) false [] 0)) := (Keeps.refl [] H).new' _
  have hs1 : SlcE (H.new (.cells (sizeCells a arr sl) false [] 0)) sl (fun x => [Value.int .u8 x]) 1 bytes := by
    rcases hs with h | ⟨b, c, row, ro, par, gs, h1, h2, h3⟩
    · exact .inl h
    · exact .inr ⟨b, c, row, ro, par, gs, h1, hK1.get h2 (by simp), h3⟩
  obtain ⟨m2, m5, me⟩ := size_many ha
  simp only [go_sem, Nat.reduceLT, Nat.reduceEqDiff, ↓reduceIte, Nat.reduceAdd, Nat.zero_add, Nat.add_zero, Nat.reduceLeDiff, Int.reduceEq, Nat.reduceMul, List.take_zero, List.drop_succ_cons, List.drop_zero, List.nil_append, List.append_nil, List.drop_nil, List.take_succ_cons, List.take_nil, List.cons_append, Int.toNat_natCast, Int.toNat_zero, Int.toNat_one, qone, ql', qt, s8_19, s8_20]
  refine callsx_of (cxS_ok s8_ok) (fn := Tryd.f19) (by kernel_rfl) (by kernel_rfl) (regs_c ha h25 hb hs1 hbb hlen) ?_
  rintro v X ⟨hK, sr, sm, rfl, h1, h2⟩
  generalize hmany : (2 + a.tmod 4).toNat = many at *
  rw [← me] at h2
  simp only [go_sem, Nat.reduceLT, Nat.reduceEqDiff, ↓reduceIte, Nat.reduceAdd, Nat.zero_add, Nat.add_zero, Nat.reduceLeDiff, Int.reduceEq, Nat.reduceMul, List.take_zero, List.drop_succ_cons, List.drop_zero, List.nil_append, List.append_nil, List.drop_nil, List.take_succ_cons, List.take_nil, List.cons_append, Int.toNat_natCast, Int.toNat_zero, Int.toNat_one, qone, ql', qt, s8_19, s8_20]
  refine callsx_of (cxS_ok s8_ok) (fn := Tryd.f20) (by kernel_rfl) (by kernel_rfl) (new_c h1 h2 (fun m hm => ?_) ?_) ?_
  · rcases marksOf_mem _ _ _ _ _ hm with hm | ⟨x, hx, rfl⟩
    · cases hm
    · have := mark_ok m2 (hbb x hx); omega
  · have := marksOf_len many bytes 0 [] (by simp) (by simp); omega
  rintro v X2 ⟨hK2, hv⟩
  have h0 := fin_new h25 hb hbb m2 m5
  rcases hv with ⟨hn, _⟩ | ⟨_, i, ir, ig, rfl, hI⟩
  · exact absurd h0 hn
  simp only [go_sem, Nat.reduceLT, Nat.reduceEqDiff, ↓reduceIte, Nat.reduceAdd, Nat.zero_add, Nat.add_zero, Nat.reduceLeDiff, Int.reduceEq, Nat.reduceMul, List.take_zero, List.drop_succ_cons, List.drop_zero, List.nil_append, List.append_nil, List.drop_nil, List.take_succ_cons, List.take_nil, List.cons_append, Int.toNat_natCast, Int.toNat_zero, Int.toNat_one]
  exact ⟨(hK1.trans hK).trans hK2, i, ir, ig, rfl, hI⟩
end Go.Proofs.YtkjclebafpomhaaDoor
