/- Contracts: Size.Regs. -/
import Derived.Test.YtkjclebafpomhaaDoorC8
set_option linter.unusedVariables false
set_option linter.unusedSimpArgs false
set_option maxRecDepth 100000
namespace Go.Proofs.YtkjclebafpomhaaDoor
open Go Go.Eng
def inf19_7 : Info := [([], [], true), ([6], [0], false), ([29, 30], [], false), ([31], [], false), ([], [1, 2, 3], true), ([6], [0, 1, 2, 3, 4], false), ([33, 34], [1, 2, 3], false), ([35], [1, 2, 3], false), ([7], [0, 1, 2, 3, 4, 5, 6, 7], false), ([37], [0, 1, 2, 3, 4, 5, 6, 7], false), ([38], [0, 1, 2, 3, 4, 5, 6, 7], false), ([39], [0, 1, 2, 3, 4, 5, 6, 7], false), ([40], [0, 1, 2, 3, 4, 5, 6, 7], false), ([7], [0, 1, 2, 3, 4, 5, 6, 7, 8, 9, 10, 11, 12], false), ([42], [0, 1, 2, 3, 4, 5, 6, 7, 8, 9, 10, 11, 12], false), ([43], [0, 1, 2, 3, 4, 5, 6, 7, 8, 9, 10, 11, 12], false), ([44], [0, 1, 2, 3, 4, 5, 6, 7, 8, 9, 10, 11, 12], false), ([45], [0, 1, 2, 3, 4, 5, 6, 7, 8, 9, 10, 11, 12], false), ([46], [0, 1, 2, 3, 4, 5, 6, 7, 8, 9, 10, 11, 12], false), ([7], [0, 1, 2, 3, 4, 5, 6, 7, 8, 9, 10, 11, 12, 13, 14, 15, 16, 17, 18], false), ([48], [0, 1, 2, 3, 4, 5, 6, 7, 8, 9, 10, 11, 12, 13, 14, 15, 16, 17, 18], false), ([49], [0, 1, 2, 3, 4, 5, 6, 7, 8, 9, 10, 11, 12, 13, 14, 15, 16, 17, 18], false), ([50], [0, 1, 2, 3, 4, 5, 6, 7, 8, 9, 10, 11, 12, 13, 14, 15, 16, 17, 18], false), ([51], [0, 1, 2, 3, 4, 5, 6, 7, 8, 9, 10, 11, 12, 13, 14, 15, 16, 17, 18], false), ([7], [0, 1, 2, 3, 4, 5, 6, 7, 8, 9, 10, 11, 12, 13, 14, 15, 16, 17, 18, 19, 20, 21, 22, 23], false), ([53], [0, 1, 2, 3, 4, 5, 6, 7, 8, 9, 10, 11, 12, 13, 14, 15, 16, 17, 18, 19, 20, 21, 22, 23], false), ([54], [0, 1, 2, 3, 4, 5, 6, 7, 8, 9, 10, 11, 12, 13, 14, 15, 16, 17, 18, 19, 20, 21, 22, 23], false), ([55], [0, 1, 2, 3, 4, 5, 6, 7, 8, 9, 10, 11, 12, 13, 14, 15, 16, 17, 18, 19, 20, 21, 22, 23], false), ([56], [0, 1, 2, 3, 4, 5, 6, 7, 8, 9, 10, 11, 12, 13, 14, 15, 16, 17, 18, 19, 20, 21, 22, 23], false), ([7], [0, 1, 2, 3, 4, 5, 6, 7, 8, 9, 10, 11, 12, 13, 14, 15, 16, 17, 18, 19, 20, 21, 22, 23, 24, 25, 26, 27, 28], false), ([58], [0, 1, 2, 3, 4, 5, 6, 7, 8, 9, 10, 11, 12, 13, 14, 15, 16, 17, 18, 19, 20, 21, 22, 23, 24, 25, 26, 27, 28], false), ([59], [0, 1, 2, 3, 4, 5, 6, 7, 8, 9, 10, 11, 12, 13, 14, 15, 16, 17, 18, 19, 20, 21, 22, 23, 24, 25, 26, 27, 28], false), ([60], [0, 1, 2, 3, 4, 5, 6, 7, 8, 9, 10, 11, 12, 13, 14, 15, 16, 17, 18, 19, 20, 21, 22, 23, 24, 25, 26, 27, 28], false), ([61], [0, 1, 2, 3, 4, 5, 6, 7, 8, 9, 10, 11, 12, 13, 14, 15, 16, 17, 18, 19, 20, 21, 22, 23, 24, 25, 26, 27, 28], false), ([4], [0, 1, 2, 3, 4, 5, 6, 7, 8, 9, 10, 11, 12, 13, 14, 15, 16, 17, 18, 19, 20, 21, 22, 23, 24, 25, 26, 27, 28, 29, 30, 31, 32, 33], false), ([63], [0, 1, 2, 3, 4, 5, 6, 7, 8, 9, 10, 11, 12, 13, 14, 15, 16, 17, 18, 19, 20, 21, 22, 23, 24, 25, 26, 27, 28, 29, 30, 31, 32, 33], false), ([32, 36, 41, 47, 52, 57, 62, 64], [], false), ([], [0, 1, 2, 3, 4, 5, 6, 7, 8, 9, 10, 11, 12, 13, 14, 15, 16, 17, 18, 19, 20, 21, 22, 23, 24, 25, 26, 27, 28, 29, 30, 31, 32, 33, 34, 35, 36], false), ([8, 65], [], false)]
theorem w16 (n : Int) : IntKind.u16.wrap n = n % 65536 := by simp [IntKind.wrap, IntKind.bits, IntKind.signed]
set_option maxHeartbeats 4000000 in
theorem regs_c {H : AHeap} {a : Int} {arr bytes : List Int} {sl : Value} (ha : 0 ≤ a ∧ a ≤ 255) (h25 : arr.length = 25) (hb : ∀ x ∈ arr, 0 ≤ x ∧ x ≤ 255) (hs : SlcE H sl (fun x => [Value.int .u8 x]) 1 bytes) (hbb : ∀ x ∈ bytes, 0 ≤ x ∧ x ≤ 255) (hlen : bytes.length < 4611686018427387904) :
    ACalls Tryd.prog 4 19 [.agg (sizeCells a arr sl).toArray] H fun v H' => Keeps [] H H' ∧ ∃ sr sm, v = .tuple #[sr, sm] ∧ SlcE H' sr RegD.cells 9 (finRegs (2 + a.tmod 4).toNat arr) ∧ SlcE H' sm mkC 2 (marksOf (2 + a.tmod 4) bytes 0 []) := by
  refine walk s8_ok (fn := Tryd.f19) (by kernel_rfl) (c := Tryd.f19.body.get (by kernel_rfl)) (by kernel_rfl) (by simp [Tryd.f19]) ?_
  simp only [Tryd.f19, Option.get]
  obtain ⟨ra, ca, hsl⟩ : ∃ ra ca, sl = .slice ra bytes.length ca := by
    rcases hs with ⟨rfl, rfl⟩ | ⟨b, c, row, ro, par, gs, rfl, _⟩
    · exact ⟨none, 0, rfl⟩
    · exact ⟨_, _, rfl⟩
  subst hsl
  have q0 : (sizeCells a arr (.slice ra bytes.length ca))[0]? = some (.int .u8 a) := rfl
  have q26 : (sizeCells a arr (.slice ra bytes.length ca))[26]? = some (.slice ra bytes.length ca) := by simp [sizeCells, h25]
  have qone : (sizeCells a arr (.slice ra bytes.length ca)).all one = true := by
    simp only [sizeCells, List.all_cons, List.all_append, one_slice, List.all_nil, Bool.and_true, Bool.and_eq_true, List.all_eq_true, List.mem_map]
    exact ⟨rfl, by rintro x ⟨y, _, rfl⟩; rfl⟩
  obtain ⟨many, hm, hm2, hm5⟩ : ∃ many : Nat, 2 + a.tmod 4 = many ∧ 2 ≤ many ∧ many ≤ 5 := by
    rw [Int.tmod_eq_emod_of_nonneg ha.1]
    exact ⟨(2 + a % 4).toNat, by omega, by omega, by omega⟩
  have w1 : IntKind.wrap .i64 (a.tmod 4) = a.tmod 4 := by rw [wrap64] <;> omega
  have w2 : IntKind.wrap .i64 (2 + a.tmod 4) = many := by rw [hm, wrap64] <;> omega
  rw [hm, Int.toNat_natCast]
  clear hm
  simp only [go_sem, Nat.reduceLT, Nat.reduceEqDiff, ↓reduceIte, Nat.reduceAdd, Nat.zero_add, Nat.add_zero, Nat.reduceLeDiff, Int.reduceEq, Nat.reduceMul, List.take_zero, List.drop_succ_cons, List.drop_zero, List.nil_append, List.append_nil, List.drop_nil, List.take_succ_cons, List.take_nil, List.cons_append, Int.toNat_natCast, Int.toNat_zero, Int.toNat_one, q0, qone, w1, w2]
  have n1 : ¬ ((4 : Int) = 0) := by omega
  refine codeW_loop (fun nn τ X => ∃ k, nn = many - k ∧ k ≤ many ∧ tget τ 1 = .pointer (some ⟨H.next, 0, none⟩) ∧ tget τ 4 = .int .i64 many ∧ tget τ 21 = .int .i64 many ∧ tget τ 22 = .int .i64 (k : Nat) ∧
    Keeps [] H X ∧ X.get H.next = some (.cells (sizeCells a arr (.slice ra bytes.length ca)) false [] 0) ∧ RowL X H.next H.next (tget τ 5) k 9 ((preRegs many arr k).flatMap RegD.cells)) (n := many) ⟨0, rfl, Nat.zero_le _, ?_, ?_, ?_, ?_, ?_, ?_, ?_⟩ ?_
  · simp only [go_sem, Nat.reduceLT, Nat.reduceEqDiff, ↓reduceIte, Nat.reduceAdd, Nat.zero_add, Nat.add_zero, Nat.reduceLeDiff, Int.reduceEq, Nat.reduceMul]
  · simp only [go_sem, Nat.reduceLT, Nat.reduceEqDiff, ↓reduceIte, Nat.reduceAdd, Nat.zero_add, Nat.add_zero, Nat.reduceLeDiff, Int.reduceEq, Nat.reduceMul]
  · simp only [go_sem, Nat.reduceLT, Nat.reduceEqDiff, ↓reduceIte, Nat.reduceAdd, Nat.zero_add, Nat.add_zero, Nat.reduceLeDiff, Int.reduceEq, Nat.reduceMul]
  · simp only [go_sem, Nat.reduceLT, Nat.reduceEqDiff, ↓reduceIte, Nat.reduceAdd, Nat.zero_add, Nat.add_zero, Nat.reduceLeDiff, Int.reduceEq, Nat.reduceMul]; rfl
  · exact (Keeps.refl [] H).new' _
  · simp only [go_sem, Nat.reduceLT, Nat.reduceEqDiff, ↓reduceIte, Nat.reduceAdd, Nat.zero_add, Nat.add_zero, Nat.reduceLeDiff, Int.reduceEq, Nat.reduceMul]
  · simp only [go_sem, Nat.reduceLT, Nat.reduceEqDiff, ↓reduceIte, Nat.reduceAdd, Nat.zero_add, Nat.add_zero, Nat.reduceLeDiff, Int.reduceEq, Nat.reduceMul]; exact .inl ⟨rfl, rfl, rfl⟩
  rintro nn τ X ⟨k, rfl, hk, t1, t4, t21, t22, hK, xb, hr⟩
  have hXl : H.next < X.next := AHeap.get_lt xb
  by_cases hlt : k < many
  · have hd : (k : Int) < (many : Int) := by omega
    obtain ⟨s, t5⟩ : ∃ s, tget τ 5 = s := ⟨_, rfl⟩
    rw [t5] at hr
    obtain ⟨b0, b1, b2, b3, b4, v0, v1, v2, v3, v4, g0, g1, g2, g3, g4, e1, e2⟩ := size_b h25 hb a (.slice ra bytes.length ca) (k := k) (by omega)
    have hz : (0 : Int) ≤ (k : Int) := by omega
    have hk5 : (k : Int) < ((5 : Nat) : Int) := by omega
    have nmk := nm_at (k := k) (by omega)
    obtain ⟨l1, l2⟩ := lb_at (k := k) (by omega)
    have tm : ∀ x n : Int, 0 ≤ x ∧ x ≤ 255 → x.tmod n = x % n := fun x n h => Int.tmod_eq_emod_of_nonneg h.1
    have u0 : IntKind.wrap .i64 (b0.tmod 60) = b0.tmod 60 := by rw [tm _ _ v0, wrap64] <;> omega
    have u1 : IntKind.wrap .i64 (b1.tmod 12) = b1.tmod 12 := by rw [tm _ _ v1, wrap64] <;> omega
    have u2 : IntKind.wrap .i64 (b2.tmod 40) = b2.tmod 40 := by rw [tm _ _ v2, wrap64] <;> omega
    have u3 : IntKind.wrap .i64 (b3.tmod 6) = b3.tmod 6 := by rw [tm _ _ v3, wrap64] <;> omega
    have u4 : IntKind.wrap .i64 (b4.tmod 14) = b4.tmod 14 := by rw [tm _ _ v4, wrap64] <;> omega
    have y0 : IntKind.wrap .i64 (8 + b0.tmod 60) = 8 + b0.tmod 60 := by rw [tm _ _ v0, wrap64] <;> omega
    have y1 : IntKind.wrap .i64 (2 * b1.tmod 12) = 2 * b1.tmod 12 := by rw [tm _ _ v1, wrap64] <;> omega
    have y1' : IntKind.wrap .i64 (8 + 2 * b1.tmod 12) = 8 + 2 * b1.tmod 12 := by rw [tm _ _ v1, wrap64] <;> omega
    have y2 : IntKind.wrap .i64 (4 + b2.tmod 40) = 4 + b2.tmod 40 := by rw [tm _ _ v2, wrap64] <;> omega
    have y3 : IntKind.wrap .i64 (1 + b3.tmod 6) = 1 + b3.tmod 6 := by rw [tm _ _ v3, wrap64] <;> omega
    have y4 : IntKind.wrap .i64 (2 + b4.tmod 14) = 2 + b4.tmod 14 := by rw [tm _ _ v4, wrap64] <;> omega
    have y5 : IntKind.wrap .i64 ((many : Int) - 1) = (many : Int) - 1 := by rw [wrap64] <;> omega
    have hA : ∀ k, H.next < X.next + k := fun k => by omega
    have hB : ∀ k, H.next ≠ X.next + k := fun k => by omega
    have hC : H.next ≠ X.next := by omega
    have e3 : 1 + (k * 5 + 5) ≤ (sizeCells a arr (.slice ra bytes.length ca)).length := by omega
    simp only [go_sem, Nat.reduceLT, Nat.reduceEqDiff, ↓reduceIte, Nat.reduceAdd, Nat.zero_add, Nat.add_zero, Nat.reduceLeDiff, Int.reduceEq, Nat.reduceMul, List.take_zero, List.drop_succ_cons, List.drop_zero, List.nil_append, List.append_nil, List.drop_nil, List.take_succ_cons, List.take_nil, List.cons_append, Int.toNat_natCast, Int.toNat_zero, Int.toNat_one, t1, t4, t5, t21, t22, xb, hd, hXl, hA, hB, hC, hz, hk5, e1, e3, Nat.mul_one]
    have i0 : ((0 : Int) ≤ 0) = True := by simp
    have i5 : (0 : Int) < ((5 : Nat) : Int) ∧ (1 : Int) < ((5 : Nat) : Int) ∧ (2 : Int) < ((5 : Nat) : Int) ∧ (3 : Int) < ((5 : Nat) : Int) ∧ (4 : Int) < ((5 : Nat) : Int) := by omega
    have i1 : (0 : Int) ≤ 1 ∧ (0 : Int) ≤ 2 ∧ (0 : Int) ≤ 3 ∧ (0 : Int) ≤ 4 := by omega
    have i2 : (2 : Int).toNat = 2 ∧ (3 : Int).toNat = 3 ∧ (4 : Int).toNat = 4 := by decide
    have hw : IntKind.wrap .i64 ((k : Int) + 1) = ((k + 1 : Nat) : Int) := by rw [wrap64] <;> omega
    have fin : ∀ (Z : AHeap) (c : Int), c = clr0 many k → Keeps [] X Z → bindR (appW 9 72 s (some (1, [.string (nmB k), .int .u8 (lbL k), .int .u16 (lbC k), .int .i64 (8 + b0.tmod 60), .int .i64 (8 + 2 * b1.tmod 12), .int .i64 (4 + b2.tmod 40), .int .i64 (1 + b3.tmod 6), .int .i64 (2 + b4.tmod 14), .int .i64 c])) Z)
        fun v H' => ∃ m, m < many - k ∧ ∃ k_1, m = many - k_1 ∧ k_1 ≤ many ∧ Value.int .i64 ((k + 1 : Nat) : Int) = .int .i64 ((k_1 : Nat) : Int) ∧ Keeps [] H H' ∧ H'.get H.next = some (.cells (sizeCells a arr (.slice ra bytes.length ca)) false [] 0) ∧ RowL H' H.next H.next v k_1 9 ((preRegs many arr k_1).flatMap RegD.cells) := by
      intro Z c hc hZ
      have hr2 : RowL Z H.next H.next s k 9 ((preRegs many arr k).flatMap RegD.cells) := by
        exact hr.keeps hZ
      have hle := hZ.le
      obtain ⟨s', U, q1, q2, q3, q4⟩ := app_row (by_ := 72) (vs := [.string (nmB k), .int .u8 (lbL k), .int .u16 (lbC k), .int .i64 (8 + b0.tmod 60), .int .i64 (8 + 2 * b1.tmod 12), .int .i64 (4 + b2.tmod 40), .int .i64 (1 + b3.tmod 6), .int .i64 (2 + b4.tmod 14), .int .i64 c]) hr2 (by rw [flat_len RegD.cells_length]; simp [preRegs]) rfl (by omega) (by unfold grow; omega) (by omega) (by omega)
      rw [q1, bindR_some]
      refine ⟨many - (k + 1), by omega, k + 1, rfl, hlt, rfl, ⟨by have := hK.le; omega, fun j hj _ => ?_⟩, ?_, ?_⟩
      · rw [q4 j (by omega) (.inl hj), hZ.old j (by omega) (by simp), hK.old j hj (by simp)]
      · rw [q4 _ (by omega) (.inr (.inl rfl)), hZ.old _ (by omega) (by simp), xb]
      · rw [preRegs_succ, List.flatMap_append]
        subst hc
        have e : (preReg many arr k).cells = [.string (nmB k), .int .u8 (lbL k), .int .u16 (lbC k), .int .i64 (8 + b0.tmod 60), .int .i64 (8 + 2 * b1.tmod 12), .int .i64 (4 + b2.tmod 40), .int .i64 (1 + b3.tmod 6), .int .i64 (2 + b4.tmod 14), .int .i64 (clr0 many k)] := by
          simp only [preReg, mkReg, RegD.cells, g0, g1, g2, g3, g4]
        rw [List.flatMap_cons, List.flatMap_nil, List.append_nil, e]
        exact q2
    refine codeW_any_cut (cxS_ok s8_ok) inf19_7 (by kernel_rfl) (fun τ Y => tget τ 1 = .pointer (some ⟨H.next, 0, none⟩) ∧ tget τ 4 = .int .i64 many ∧ tget τ 5 = s ∧ tget τ 6 = .int .i64 (k : Nat) ∧ tget τ 8 = .pointer (some ⟨X.next + 3, 0, none⟩) ∧ tget τ 21 = .int .i64 many ∧ tget τ 22 = .int .i64 (k : Nat) ∧ Keeps [] X Y ∧
      Y.get (X.next + 3) = some (.cells [.string (nmB k), .int .u8 (lbL k), .int .u16 (lbC k), .int .i64 (8 + b0.tmod 60), .int .i64 (8 + 2 * b1.tmod 12), .int .i64 (4 + b2.tmod 40), .int .i64 (1 + b3.tmod 6), .int .i64 (2 + b4.tmod 14), .int .i64 ((many : Int) - 1)] false [] 0)) (fun _ => ?_) ?_
    · simp only [inf19_7, i0, i5, i1, i2, go_sem, Nat.reduceLT, Nat.reduceEqDiff, ↓reduceIte, Nat.reduceAdd, Nat.zero_add, Nat.add_zero, Nat.reduceLeDiff, Int.reduceEq, Nat.reduceMul, List.take_zero, List.drop_succ_cons, List.drop_zero, List.nil_append, List.append_nil, List.drop_nil, List.take_succ_cons, List.take_nil, List.cons_append, Int.toNat_natCast, Int.toNat_zero, Int.toNat_one, t1, t4, t5, t21, t22, xb, hd, hXl, hA, hB, hC, hz, hk5, nmk, l1, l2, u0, u1, u2, u3, u4, y0, y1, y1', y2, y3, y4, y5, call42, call43, loc42, loc43, Nat.mul_one]
      exact (((((((Keeps.refl [] X).new' _).set' (Nat.le_refl _) (by simp)).new' _).new' _).new' _).set' (i := X.next + 3) (by omega) (by simp only [AHeap.next_new, AHeap.next_set]; omega))
    clear t1 t4 t5 t21 t22
    rintro τ Y ⟨t1, t4, t5, t6, t8, t21, t22, hXY, yr⟩
    have yl : X.next + 3 < Y.next := AHeap.get_lt yr
    have yA : ∀ k, X.next + 3 < Y.next + k := fun k => by omega
    have yB : ∀ k, X.next + 3 ≠ Y.next + k := fun k => by omega
    have yC : X.next + 3 ≠ Y.next := by omega
    have k1 : ∀ o o2, Keeps [] X ((Y.set (X.next + 3) o).new o2) := fun o o2 => (hXY.set' (by omega) yl).new' _
    have k2 : ∀ o o1 o2, Keeps [] X (((Y.set (X.next + 3) o).set (X.next + 3) o1).new o2) := fun o o1 o2 => ((hXY.set' (by omega) yl).set' (by omega) (by simpa using yl)).new' _
    cases c1 : decide ((many : Int) < 4)
    · have d1 := of_decide_eq_false c1
      have c3 : decide ((many : Int) = 2) = false := decide_eq_false (by omega)
      simp only [go_sem, Nat.reduceLT, Nat.reduceEqDiff, ↓reduceIte, Nat.reduceAdd, Nat.zero_add, Nat.add_zero, Nat.reduceLeDiff, Int.reduceEq, Nat.reduceMul, List.take_zero, List.drop_succ_cons, List.drop_zero, List.nil_append, List.append_nil, List.drop_nil, List.take_succ_cons, List.take_nil, List.cons_append, Int.toNat_natCast, Int.toNat_zero, Int.toNat_one, t1, t4, t5, t6, t8, t21, t22, yr, yl, yA, yB, yC, c1, c3, hw]
      exact fin _ _ (by unfold clr0; rw [if_neg (by omega), if_neg (by omega)]) (hXY.new' _)
    · have d1 := of_decide_eq_true c1
      cases c2 : decide ((0 : Int) < (k : Int))
      · have d2 := of_decide_eq_false c2
        cases c3 : decide ((many : Int) = 2)
        · have d3 := of_decide_eq_false c3
          simp only [go_sem, Nat.reduceLT, Nat.reduceEqDiff, ↓reduceIte, Nat.reduceAdd, Nat.zero_add, Nat.add_zero, Nat.reduceLeDiff, Int.reduceEq, Nat.reduceMul, List.take_zero, List.drop_succ_cons, List.drop_zero, List.nil_append, List.append_nil, List.drop_nil, List.take_succ_cons, List.take_nil, List.cons_append, Int.toNat_natCast, Int.toNat_zero, Int.toNat_one, t1, t4, t5, t6, t8, t21, t22, yr, yl, yA, yB, yC, c1, c2, c3, hw]
          exact fin _ _ (by unfold clr0; rw [if_neg (by omega), if_neg (by omega)]) (hXY.new' _)
        · have d3 := of_decide_eq_true c3
          simp only [go_sem, Nat.reduceLT, Nat.reduceEqDiff, ↓reduceIte, Nat.reduceAdd, Nat.zero_add, Nat.add_zero, Nat.reduceLeDiff, Int.reduceEq, Nat.reduceMul, List.take_zero, List.drop_succ_cons, List.drop_zero, List.nil_append, List.append_nil, List.drop_nil, List.take_succ_cons, List.take_nil, List.cons_append, Int.toNat_natCast, Int.toNat_zero, Int.toNat_one, t1, t4, t5, t6, t8, t21, t22, yr, yl, yA, yB, yC, c1, c2, c3, hw]
          exact fin _ _ (by unfold clr0; rw [if_pos (by omega)]) (k1 _ _)
      · have d2 := of_decide_eq_true c2
        cases c3 : decide ((many : Int) = 2)
        · have d3 := of_decide_eq_false c3
          simp only [go_sem, Nat.reduceLT, Nat.reduceEqDiff, ↓reduceIte, Nat.reduceAdd, Nat.zero_add, Nat.add_zero, Nat.reduceLeDiff, Int.reduceEq, Nat.reduceMul, List.take_zero, List.drop_succ_cons, List.drop_zero, List.nil_append, List.append_nil, List.drop_nil, List.take_succ_cons, List.take_nil, List.cons_append, Int.toNat_natCast, Int.toNat_zero, Int.toNat_one, t1, t4, t5, t6, t8, t21, t22, yr, yl, yA, yB, yC, c1, c2, c3, hw]
          exact fin _ _ (by unfold clr0; rw [if_neg (by omega), if_pos (by omega)]) (k1 _ _)
        · have d3 := of_decide_eq_true c3
          simp only [go_sem, Nat.reduceLT, Nat.reduceEqDiff, ↓reduceIte, Nat.reduceAdd, Nat.zero_add, Nat.add_zero, Nat.reduceLeDiff, Int.reduceEq, Nat.reduceMul, List.take_zero, List.drop_succ_cons, List.drop_zero, List.nil_append, List.append_nil, List.drop_nil, List.take_succ_cons, List.take_nil, List.cons_append, Int.toNat_natCast, Int.toNat_zero, Int.toNat_one, t1, t4, t5, t6, t8, t21, t22, yr, yl, yA, yB, yC, c1, c2, c3, hw]
          exact fin _ _ (by unfold clr0; rw [if_pos (by omega)]) (k2 _ _ _)
  · obtain rfl : k = many := by omega
    clear hk hlt
    have hd : ¬ ((k : Int) < (k : Int)) := by omega
    obtain ⟨s, t5⟩ : ∃ s, tget τ 5 = s := ⟨_, rfl⟩
    rw [t5] at hr
    have hA : ∀ k, H.next < X.next + k := fun k => by omega
    have hB : ∀ k, H.next ≠ X.next + k := fun k => by omega
    have hC : H.next ≠ X.next := by omega
    have hlen' : (preRegs k arr k).length = k := by simp [preRegs]
    rcases hr with ⟨h0, _⟩ | ⟨b, par, h1, rfl, h3, h4, h5, h6⟩
    · omega
    have hbl := AHeap.get_lt h3
    have i0 : ((0 : Int) ≤ 0) = True := by simp
    have i1 : (0 : Int) < (k : Int) := by omega
    have hnp : H.next ∉ par := fun h => (h6 _ h).2 rfl
    have hnb : H.next ≠ b := Ne.symm h5
    have hmany : (1 : Int) < (k : Int) := by omega
    cases c1 : decide ((k : Int) = 3)
    · have d1 := of_decide_eq_false c1
      simp only [go_sem, Nat.reduceLT, Nat.reduceEqDiff, ↓reduceIte, Nat.reduceAdd, Nat.zero_add, Nat.add_zero, Nat.reduceLeDiff, Int.reduceEq, Nat.reduceMul, List.take_zero, List.drop_succ_cons, List.drop_zero, List.nil_append, List.append_nil, List.drop_nil, List.take_succ_cons, List.take_nil, List.cons_append, Int.toNat_natCast, Int.toNat_zero, Int.toNat_one, t1, t4, t5, t21, t22, xb, hd, hXl, hA, hB, hC, c1, q26]
      refine codeW_forget (fun τ Z => ∃ s, tget τ 4 = .int .i64 k ∧ tget τ 5 = s ∧ tget τ 9 = .slice none 0 0 ∧ tget τ 88 = .slice ra bytes.length ca ∧ tget τ 89 = .int .i64 bytes.length ∧ tget τ 90 = .int .i64 0 ∧ Keeps [] H Z ∧ H.next < Z.next ∧ RowL Z H.next H.next s k 9 ((finRegs k arr).flatMap RegD.cells)) ⟨_, ?_, rfl, ?_, ?_, ?_, ?_, hK, hXl, ?_⟩ ?_
      · simp only [go_sem, Nat.reduceLT, Nat.reduceEqDiff, ↓reduceIte, Nat.reduceAdd, Nat.zero_add, Nat.add_zero, Nat.reduceLeDiff, Int.reduceEq, Nat.reduceMul, t4]
      · simp only [go_sem, Nat.reduceLT, Nat.reduceEqDiff, ↓reduceIte, Nat.reduceAdd, Nat.zero_add, Nat.add_zero, Nat.reduceLeDiff, Int.reduceEq, Nat.reduceMul]
      · simp only [go_sem, Nat.reduceLT, Nat.reduceEqDiff, ↓reduceIte, Nat.reduceAdd, Nat.zero_add, Nat.add_zero, Nat.reduceLeDiff, Int.reduceEq, Nat.reduceMul]
      · simp only [go_sem, Nat.reduceLT, Nat.reduceEqDiff, ↓reduceIte, Nat.reduceAdd, Nat.zero_add, Nat.add_zero, Nat.reduceLeDiff, Int.reduceEq, Nat.reduceMul]
      · simp only [go_sem, Nat.reduceLT, Nat.reduceEqDiff, ↓reduceIte, Nat.reduceAdd, Nat.zero_add, Nat.add_zero, Nat.reduceLeDiff, Int.reduceEq, Nat.reduceMul]
      · rw [finRegs_ne arr (by omega)]
        refine .inr ⟨b, par, h1, ?_, h3, h4, h5, h6⟩
        simp only [go_sem, Nat.reduceLT, Nat.reduceEqDiff, ↓reduceIte, Nat.reduceAdd, Nat.zero_add, Nat.add_zero, Nat.reduceLeDiff, Int.reduceEq, Nat.reduceMul, t5]
      clear t1 t4 t5 t21 t22 xb h3 c1 d1
      clear hXl hA hB hC hbl hK i0 i1 hd hnp hnb hmany h4 h5 h6 par b
      rintro τ X ⟨s, t4, t5, t9, t88, t89, t90, hK, hXl, hr⟩
      refine codeW_loop (fun nn τ X => ∃ j acc s2, nn = bytes.length - j ∧ j ≤ bytes.length ∧ tget τ 4 = .int .i64 k ∧ tget τ 5 = s ∧ tget τ 9 = s2 ∧ tget τ 88 = .slice ra bytes.length ca ∧ tget τ 89 = .int .i64 bytes.length ∧ tget τ 90 = .int .i64 (j : Nat) ∧ Keeps [] H X ∧ H.next < X.next ∧
        RowL X H.next H.next s k 9 ((finRegs k arr).flatMap RegD.cells) ∧ RowL X H.next H.next s2 acc.length 2 (acc.flatMap mkC) ∧ marksOf k bytes 0 [] = marksOf k (bytes.drop j) j acc ∧ acc.length ≤ j ∧ acc.length ≤ 9) (n := bytes.length) ⟨0, [], _, rfl, Nat.zero_le _, t4, t5, t9, t88, t89, by rw [t90]; rfl, hK, hXl, hr, .inl ⟨rfl, rfl, rfl⟩, rfl, Nat.le_refl _, by simp⟩ ?_
      clear t4 t5 t9 t88 t89 t90 hK hXl hr
      rintro nn τ X ⟨j, acc, s2, rfl, hj, t4, t5, t9, t88, t89, t90, hK, hXl, hr, hr2, hE, ha1, ha2⟩
      have hw : IntKind.wrap .i64 ((j : Int) + 1) = ((j + 1 : Nat) : Int) := by rw [wrap64] <;> omega
      by_cases hlt : j < bytes.length
      · rcases hs with ⟨h, _⟩ | ⟨ib, cb, rowb, rob, parb, gsb, e0, hrowb, helb⟩
        · rw [h] at hlt; simp at hlt
        injection e0 with e1 _ e3
        subst e1; subst e3
        obtain ⟨x, hx⟩ : ∃ x, bytes[j]? = some x := ⟨_, List.getElem?_eq_getElem hlt⟩
        obtain ⟨x0, x1⟩ := hbb x (List.mem_of_getElem? hx)
        have hrx : rowb[j]? = some (.int .u8 x) := by
          have h := congrArg (fun l => l[0]?) (helb j x hx).1
          simpa [List.getElem?_take, List.getElem?_drop] using h
        have xib : X.get ib = some (.cells rowb rob parb gsb) := hK.get hrowb (by simp)
        have hz : (0 : Int) ≤ (j : Int) := by omega
        have hd : (j : Int) < (bytes.length : Int) := by omega
        have wk : IntKind.wrap .u8 (k : Int) = k := by rw [IntKind.wrap_u8]; omega
        have hk0 : ¬ ((k : Int) = 0) := by omega
        have x8 : x.tdiv 8 = x / 8 := Int.tdiv_eq_ediv_of_nonneg x0
        have x84 : (x.tdiv 8).tmod 4 = (x / 8) % 4 := by rw [x8, Int.tmod_eq_emod_of_nonneg (by omega)]
        have wq : IntKind.wrap .u8 (x.tdiv 8) = x.tdiv 8 := by rw [IntKind.wrap_u8, x8]; omega
        have wr : IntKind.wrap .u16 ((x.tdiv 8).tmod 4) = (x.tdiv 8).tmod 4 := by rw [w16, x84]; omega
        have ws : IntKind.wrap .u16 (4 + (x.tdiv 8).tmod 4) = 4 + (x.tdiv 8).tmod 4 := by rw [w16, x84]; omega
        obtain ⟨rs, cs2, hs2⟩ : ∃ rs cs2, s2 = .slice rs acc.length cs2 := by
          rcases hr2 with ⟨h, rfl, _⟩ | ⟨b, par, _, rfl, _⟩
          · rw [h]; exact ⟨_, _, rfl⟩
          · exact ⟨_, _, rfl⟩
        subst hs2
        simp only [go_sem, Nat.reduceLT, Nat.reduceEqDiff, ↓reduceIte, Nat.reduceAdd, Nat.zero_add, Nat.add_zero, Nat.reduceLeDiff, Int.reduceEq, Nat.reduceMul, List.take_zero, List.drop_succ_cons, List.drop_zero, List.nil_append, List.append_nil, List.drop_nil, List.take_succ_cons, List.take_nil, List.cons_append, Int.toNat_natCast, Int.toNat_zero, Int.toNat_one, t4, t5, t9, t88, t89, t90, xib, hz, hd, hrx, wk, hk0, wq, wr, ws, Nat.mul_one]
        refine codeW_loop (fun nn τ Y => ∃ i, nn = acc.length - i ∧ i ≤ acc.length ∧ tget τ 4 = .int .i64 k ∧ tget τ 5 = s ∧ tget τ 9 = .slice rs acc.length cs2 ∧ tget τ 12 = .pointer (some ⟨X.next, 0, none⟩) ∧ tget τ 13 = .bool (decide ((8 : Int) < (j : Int)) || (acc.take i).any fun y => (y.1 == (markOf k x).1) && (y.2 == (markOf k x).2)) ∧
          tget τ 88 = .slice (some ⟨ib, 0, none⟩) bytes.length ca ∧ tget τ 89 = .int .i64 bytes.length ∧ tget τ 90 = .int .i64 (j : Nat) ∧ tget τ 107 = .slice rs acc.length cs2 ∧ tget τ 108 = .int .i64 acc.length ∧ tget τ 109 = .int .i64 (i : Nat) ∧ Keeps [] X Y ∧
          Y.get X.next = some (.cells [.int .u8 (x.tmod k), .int .u16 (4 + (x.tdiv 8).tmod 4)] false [] 0)) (n := acc.length) ⟨0, rfl, Nat.zero_le _, ?_, ?_, ?_, ?_, ?_, ?_, ?_, ?_, ?_, ?_, ?_, ((Keeps.refl [] X).new' _).set' (Nat.le_refl _) (by simp), ?_⟩ ?_
        · simp only [go_sem, Nat.reduceLT, Nat.reduceEqDiff, ↓reduceIte, Nat.reduceAdd, Nat.zero_add, Nat.add_zero, Nat.reduceLeDiff, Int.reduceEq, Nat.reduceMul, t4]
        · simp only [go_sem, Nat.reduceLT, Nat.reduceEqDiff, ↓reduceIte, Nat.reduceAdd, Nat.zero_add, Nat.add_zero, Nat.reduceLeDiff, Int.reduceEq, Nat.reduceMul, t5]
        · simp only [go_sem, Nat.reduceLT, Nat.reduceEqDiff, ↓reduceIte, Nat.reduceAdd, Nat.zero_add, Nat.add_zero, Nat.reduceLeDiff, Int.reduceEq, Nat.reduceMul, t9]
        · simp only [go_sem, Nat.reduceLT, Nat.reduceEqDiff, ↓reduceIte, Nat.reduceAdd, Nat.zero_add, Nat.add_zero, Nat.reduceLeDiff, Int.reduceEq, Nat.reduceMul]
        · simp only [go_sem, Nat.reduceLT, Nat.reduceEqDiff, ↓reduceIte, Nat.reduceAdd, Nat.zero_add, Nat.add_zero, Nat.reduceLeDiff, Int.reduceEq, Nat.reduceMul, List.take_zero, List.any_nil]
        · simp only [go_sem, Nat.reduceLT, Nat.reduceEqDiff, ↓reduceIte, Nat.reduceAdd, Nat.zero_add, Nat.add_zero, Nat.reduceLeDiff, Int.reduceEq, Nat.reduceMul, t88]
        · simp only [go_sem, Nat.reduceLT, Nat.reduceEqDiff, ↓reduceIte, Nat.reduceAdd, Nat.zero_add, Nat.add_zero, Nat.reduceLeDiff, Int.reduceEq, Nat.reduceMul, t89]
        · simp only [go_sem, Nat.reduceLT, Nat.reduceEqDiff, ↓reduceIte, Nat.reduceAdd, Nat.zero_add, Nat.add_zero, Nat.reduceLeDiff, Int.reduceEq, Nat.reduceMul, t90]
        · simp only [go_sem, Nat.reduceLT, Nat.reduceEqDiff, ↓reduceIte, Nat.reduceAdd, Nat.zero_add, Nat.add_zero, Nat.reduceLeDiff, Int.reduceEq, Nat.reduceMul]
        · simp only [go_sem, Nat.reduceLT, Nat.reduceEqDiff, ↓reduceIte, Nat.reduceAdd, Nat.zero_add, Nat.add_zero, Nat.reduceLeDiff, Int.reduceEq, Nat.reduceMul]
        · simp only [go_sem, Nat.reduceLT, Nat.reduceEqDiff, ↓reduceIte, Nat.reduceAdd, Nat.zero_add, Nat.add_zero, Nat.reduceLeDiff, Int.reduceEq, Nat.reduceMul]; rfl
        · simp only [go_sem, Nat.reduceLT, Nat.reduceEqDiff, ↓reduceIte, Nat.reduceAdd, Nat.zero_add, Nat.add_zero, Nat.reduceLeDiff, Int.reduceEq, Nat.reduceMul]
        clear t4 t5 t9 t88 t89 t90
        rintro nn τ Y ⟨i, rfl, hi, t4, t5, t9, t12, t13, t88, t89, t90, t107, t108, t109, hXY, yx⟩
        have hwi : IntKind.wrap .i64 ((i : Int) + 1) = ((i + 1 : Nat) : Int) := by rw [wrap64] <;> omega
        have hxl : X.next < Y.next := AHeap.get_lt yx
        have xA : ∀ k, X.next < Y.next + k := fun k => by omega
        have xB : ∀ k, X.next ≠ Y.next + k := fun k => by omega
        have xC : X.next ≠ Y.next := by omega
        by_cases hlt2 : i < acc.length
        · rcases hr2 with ⟨h, _⟩ | ⟨b2, par2, g1, g2, g3, g4⟩
          · omega
          injection g2 with g2 _ g5
          subst g2; subst g5
          have yb := hXY.get g3 (by simp)
          have hbY : b2 < Y.next := AHeap.get_lt yb
          have bA : ∀ k, b2 < Y.next + k := fun k => by omega
          have bB : ∀ k, b2 ≠ Y.next + k := fun k => by omega
          have bC : b2 ≠ Y.next := by omega
          obtain ⟨m, hm⟩ : ∃ m, acc[i]? = some m := ⟨_, List.getElem?_eq_getElem hlt2⟩
          obtain ⟨f1, f2⟩ := flat_at (f := mkC) (n := 2) (fun _ => rfl) acc i m hm
          have hzi : (0 : Int) ≤ (i : Int) := by omega
          have hdi : (i : Int) < (acc.length : Int) := by omega
          have hany : ((acc.take (i + 1)).any fun y => (y.1 == (markOf k x).1) && (y.2 == (markOf k x).2)) = ((acc.take i).any (fun y => (y.1 == (markOf k x).1) && (y.2 == (markOf k x).2)) || ((m.1 == x.tmod k) && (m.2 == 4 + (x.tdiv 8).tmod 4))) := by
            rw [List.take_add_one, hm, List.any_append]; simp [markOf]
          have k1 : ∀ o o2, Keeps [] X ((Y.new o).set Y.next o2) := fun o o2 => (hXY.new' _).set' (by omega) (by simp)
          cases c1 : (decide ((8 : Int) < (j : Int)) || (acc.take i).any fun y => (y.1 == (markOf k x).1) && (y.2 == (markOf k x).2))
          · rw [c1] at t13
            simp only [go_sem, Nat.reduceLT, Nat.reduceEqDiff, ↓reduceIte, Nat.reduceAdd, Nat.zero_add, Nat.add_zero, Nat.reduceLeDiff, Int.reduceEq, Nat.reduceMul, List.take_zero, List.drop_succ_cons, List.drop_zero, List.nil_append, List.append_nil, List.drop_nil, List.take_succ_cons, List.take_nil, List.cons_append, Int.toNat_natCast, Int.toNat_zero, Int.toNat_one, t4, t5, t9, t12, t13, t88, t89, t90, t107, t108, t109, yx, yb, hbY, bA, bB, bC, hxl, xA, xB, xC, hzi, hdi, f1, f2, mkC, hwi]
            exact ⟨acc.length - (i + 1), by omega, i + 1, rfl, hlt2, by rw [hany, ← Bool.or_assoc, c1, Bool.false_or], rfl, k1 _ _⟩
          · rw [c1] at t13
            simp only [go_sem, Nat.reduceLT, Nat.reduceEqDiff, ↓reduceIte, Nat.reduceAdd, Nat.zero_add, Nat.add_zero, Nat.reduceLeDiff, Int.reduceEq, Nat.reduceMul, List.take_zero, List.drop_succ_cons, List.drop_zero, List.nil_append, List.append_nil, List.drop_nil, List.take_succ_cons, List.take_nil, List.cons_append, Int.toNat_natCast, Int.toNat_zero, Int.toNat_one, t4, t5, t9, t12, t13, t88, t89, t90, t107, t108, t109, yx, yb, hbY, bA, bB, bC, hxl, xA, xB, xC, hzi, hdi, f1, f2, mkC, hwi]
            exact ⟨acc.length - (i + 1), by omega, i + 1, rfl, hlt2, by rw [hany, ← Bool.or_assoc, c1, Bool.true_or], rfl, k1 _ _⟩
        · obtain rfl : i = acc.length := by omega
          have hd2 : ¬ ((acc.length : Int) < (acc.length : Int)) := by omega
          rw [List.take_length] at t13
          have hKY : Keeps [] H Y := hK.trans hXY
          have hs : marksOf k (bytes.drop j) j acc = marksOf k (x :: bytes.drop (j + 1)) j acc := by rw [drop_at hx]
          have hnl : H.next ≤ Y.next := by omega
          cases c2 : (decide ((8 : Int) < (j : Int)) || acc.any fun y => (y.1 == (markOf k x).1) && (y.2 == (markOf k x).2))
          · rw [c2] at t13
            simp only [Bool.or_eq_false_iff] at c2
            have d8 := of_decide_eq_false c2.1
            have hs2 : marksOf k (bytes.drop j) j acc = marksOf k (bytes.drop (j + 1)) (j + 1) (acc ++ [markOf k x]) := by
              rw [hs]; simp only [marksOf]; rw [if_neg (by rw [c2.2]; simp; omega)]
            obtain ⟨s', U, q1, q2, q3, q4⟩ := app_row (H := Y.new (.cells [.int .u8 (x.tmod k), .int .u16 (4 + (x.tdiv 8).tmod 4)] false [] 2)) (by_ := 4) (vs := [.int .u8 (x.tmod k), .int .u16 (4 + (x.tdiv 8).tmod 4)]) (hr2.keeps (hXY.new' _)) ((flat_len (f := mkC) (fun _ => rfl) _).symm) rfl (by omega) (by unfold grow; omega) (by simp; omega) (by simp; omega)
            have hbl : ∀ b cs par, Y.get b = some (.cells cs false par 9) → U.get b = Y.get b := fun b cs par hg => by
              have hb := AHeap.get_lt hg
              rw [q4 b (by simp; omega) (.inr (.inr fun cs par h => by rw [get_new_old _ hb, hg] at h; injection h with h; injection h with _ _ _ h; omega)), get_new_old _ hb]
            have hr3 : RowL U H.next H.next s k 9 ((finRegs k arr).flatMap RegD.cells) := by
              rcases hr.keeps hXY with h | ⟨b, par, o1, o2, o3, o4⟩
              · exact .inl h
              · exact .inr ⟨b, par, o1, o2, (hbl _ _ _ o3).trans o3, o4⟩
            have hKU : Keeps [] H U := ⟨by simp at q3; omega, fun j hj _ => by rw [q4 j (by simp; omega) (.inl hj), get_new_old _ (by omega), hKY.old j hj (by simp)]⟩
            simp only [go_sem, Nat.reduceLT, Nat.reduceEqDiff, ↓reduceIte, Nat.reduceAdd, Nat.zero_add, Nat.add_zero, Nat.reduceLeDiff, Int.reduceEq, Nat.reduceMul, List.take_zero, List.drop_succ_cons, List.drop_zero, List.nil_append, List.append_nil, List.drop_nil, List.take_succ_cons, List.take_nil, List.cons_append, Int.toNat_natCast, Int.toNat_zero, Int.toNat_one, t4, t5, t9, t12, t13, t88, t89, t90, t107, t108, t109, yx, hxl, xA, xB, xC, hd2, q1, hw]
            exact ⟨bytes.length - (j + 1), by omega, j + 1, acc ++ [markOf k x], _, rfl, hlt, rfl, rfl, hKU, by simp at q3; omega, hr3, by simpa [mkC, markOf] using q2, by rw [hE, hs2], by simp; omega, by simp; omega⟩
          · rw [c2] at t13
            have hs2 : marksOf k (bytes.drop j) j acc = marksOf k (bytes.drop (j + 1)) (j + 1) acc := by
              rw [hs]; simp only [marksOf]; rw [if_pos]
              rcases Bool.or_eq_true _ _ ▸ c2 with h | h
              · exact .inl (by have := of_decide_eq_true h; omega)
              · exact .inr h
            simp only [go_sem, Nat.reduceLT, Nat.reduceEqDiff, ↓reduceIte, Nat.reduceAdd, Nat.zero_add, Nat.add_zero, Nat.reduceLeDiff, Int.reduceEq, Nat.reduceMul, List.take_zero, List.drop_succ_cons, List.drop_zero, List.nil_append, List.append_nil, List.drop_nil, List.take_succ_cons, List.take_nil, List.cons_append, Int.toNat_natCast, Int.toNat_zero, Int.toNat_one, t4, t5, t9, t12, t13, t88, t89, t90, t107, t108, t109, yx, hxl, xA, xB, xC, hd2, hw]
            exact ⟨bytes.length - (j + 1), by omega, j + 1, acc, _, rfl, hlt, rfl, rfl, hKY, by omega, hr.keeps hXY, hr2.keeps hXY, by rw [hE, hs2], by omega, ha2⟩
      · obtain rfl : j = bytes.length := by omega
        have hd : ¬ ((bytes.length : Int) < (bytes.length : Int)) := by omega
        rw [List.drop_length] at hE
        have hm : marksOf k bytes 0 [] = acc := by rw [hE]; rfl
        have hnl : (finRegs k arr).length = k := by simp [finRegs]
        simp only [go_sem, Nat.reduceLT, Nat.reduceEqDiff, ↓reduceIte, Nat.reduceAdd, Nat.zero_add, Nat.add_zero, Nat.reduceLeDiff, Int.reduceEq, Nat.reduceMul, List.take_zero, List.drop_succ_cons, List.drop_zero, List.nil_append, List.append_nil, List.drop_nil, List.take_succ_cons, List.take_nil, List.cons_append, Int.toNat_natCast, Int.toNat_zero, Int.toNat_one, t4, t5, t9, t88, t89, t90, hd, hm]
        exact ⟨hK, _, _, rfl, RowL.slc (by rw [hnl]; exact hr) RegD.cells_length, RowL.slc hr2 fun _ => rfl⟩
    · have d1 := of_decide_eq_true c1
      have d2 : k = 3 := by omega
      have e3 : preRegs k arr k = [preReg k arr 0, preReg k arr 1, preReg k arr 2] := by rw [d2]; rfl
      have e4 : finRegs k arr = [{ preReg k arr 0 with clear := 1 }, preReg k arr 1, preReg k arr 2] := by rw [d2]; rfl
      have h3' : X.get b = some (.cells ((preReg k arr 0).cells ++ [preReg k arr 1, preReg k arr 2].flatMap RegD.cells) false par 9) := by rw [h3, e3]; rfl
      simp only [RegD.cells, List.cons_append, List.nil_append] at h3'
      simp only [go_sem, Nat.reduceLT, Nat.reduceEqDiff, ↓reduceIte, Nat.reduceAdd, Nat.zero_add, Nat.add_zero, Nat.reduceLeDiff, Int.reduceEq, Nat.reduceMul, List.take_zero, List.drop_succ_cons, List.drop_zero, List.nil_append, List.append_nil, List.drop_nil, List.take_succ_cons, List.take_nil, List.cons_append, Int.toNat_natCast, Int.toNat_zero, Int.toNat_one, t1, t4, t5, t21, t22, xb, hd, hXl, hA, hB, hC, c1, q26, h3', i0, i1, hbl, get_dels1, hnp, hnb, AHeap.next_dels]
      refine codeW_forget (fun τ Z => ∃ s, tget τ 4 = .int .i64 k ∧ tget τ 5 = s ∧ tget τ 9 = .slice none 0 0 ∧ tget τ 88 = .slice ra bytes.length ca ∧ tget τ 89 = .int .i64 bytes.length ∧ tget τ 90 = .int .i64 0 ∧ Keeps [] H Z ∧ H.next < Z.next ∧ RowL Z H.next H.next s k 9 ((finRegs k arr).flatMap RegD.cells)) ⟨_, ?_, rfl, ?_, ?_, ?_, ?_, ?_, ?_, ?_⟩ ?_
      · simp only [go_sem, Nat.reduceLT, Nat.reduceEqDiff, ↓reduceIte, Nat.reduceAdd, Nat.zero_add, Nat.add_zero, Nat.reduceLeDiff, Int.reduceEq, Nat.reduceMul, t4]
      · simp only [go_sem, Nat.reduceLT, Nat.reduceEqDiff, ↓reduceIte, Nat.reduceAdd, Nat.zero_add, Nat.add_zero, Nat.reduceLeDiff, Int.reduceEq, Nat.reduceMul]
      · simp only [go_sem, Nat.reduceLT, Nat.reduceEqDiff, ↓reduceIte, Nat.reduceAdd, Nat.zero_add, Nat.add_zero, Nat.reduceLeDiff, Int.reduceEq, Nat.reduceMul]
      · simp only [go_sem, Nat.reduceLT, Nat.reduceEqDiff, ↓reduceIte, Nat.reduceAdd, Nat.zero_add, Nat.add_zero, Nat.reduceLeDiff, Int.reduceEq, Nat.reduceMul]
      · simp only [go_sem, Nat.reduceLT, Nat.reduceEqDiff, ↓reduceIte, Nat.reduceAdd, Nat.zero_add, Nat.add_zero, Nat.reduceLeDiff, Int.reduceEq, Nat.reduceMul]
      · refine ⟨by simp; omega, fun j hj _ => ?_⟩
        have a1 : j ∉ par := fun h => by have := (h6 _ h).1; omega
        rw [get_set_ne _ (by omega) (by simpa using hbl), get_dels1 a1, hK.old j hj (by simp)]
      · simpa using hXl
      · refine .inr ⟨b, [], h1, ?_, ?_, h4, h5, by simp⟩
        · simp only [go_sem, Nat.reduceLT, Nat.reduceEqDiff, ↓reduceIte, Nat.reduceAdd, Nat.zero_add, Nat.add_zero, Nat.reduceLeDiff, Int.reduceEq, Nat.reduceMul, t5]
        · rw [AHeap.get_set _ _ _ _ (by simpa using hbl), if_pos rfl, e4]; rfl
      clear t1 t4 t5 t21 t22 xb h3' h3 c1 d1 e3 e4 d2
      clear hXl hA hB hC hbl hK i0 i1 hd hnp hnb hmany h4 h5 h6 par b
      rintro τ X ⟨s, t4, t5, t9, t88, t89, t90, hK, hXl, hr⟩
      refine codeW_loop (fun nn τ X => ∃ j acc s2, nn = bytes.length - j ∧ j ≤ bytes.length ∧ tget τ 4 = .int .i64 k ∧ tget τ 5 = s ∧ tget τ 9 = s2 ∧ tget τ 88 = .slice ra bytes.length ca ∧ tget τ 89 = .int .i64 bytes.length ∧ tget τ 90 = .int .i64 (j : Nat) ∧ Keeps [] H X ∧ H.next < X.next ∧
        RowL X H.next H.next s k 9 ((finRegs k arr).flatMap RegD.cells) ∧ RowL X H.next H.next s2 acc.length 2 (acc.flatMap mkC) ∧ marksOf k bytes 0 [] = marksOf k (bytes.drop j) j acc ∧ acc.length ≤ j ∧ acc.length ≤ 9) (n := bytes.length) ⟨0, [], _, rfl, Nat.zero_le _, t4, t5, t9, t88, t89, by rw [t90]; rfl, hK, hXl, hr, .inl ⟨rfl, rfl, rfl⟩, rfl, Nat.le_refl _, by simp⟩ ?_
      clear t4 t5 t9 t88 t89 t90 hK hXl hr
      rintro nn τ X ⟨j, acc, s2, rfl, hj, t4, t5, t9, t88, t89, t90, hK, hXl, hr, hr2, hE, ha1, ha2⟩
      have hw : IntKind.wrap .i64 ((j : Int) + 1) = ((j + 1 : Nat) : Int) := by rw [wrap64] <;> omega
      by_cases hlt : j < bytes.length
      · rcases hs with ⟨h, _⟩ | ⟨ib, cb, rowb, rob, parb, gsb, e0, hrowb, helb⟩
        · rw [h] at hlt; simp at hlt
        injection e0 with e1 _ e3
        subst e1; subst e3
        obtain ⟨x, hx⟩ : ∃ x, bytes[j]? = some x := ⟨_, List.getElem?_eq_getElem hlt⟩
        obtain ⟨x0, x1⟩ := hbb x (List.mem_of_getElem? hx)
        have hrx : rowb[j]? = some (.int .u8 x) := by
          have h := congrArg (fun l => l[0]?) (helb j x hx).1
          simpa [List.getElem?_take, List.getElem?_drop] using h
        have xib : X.get ib = some (.cells rowb rob parb gsb) := hK.get hrowb (by simp)
        have hz : (0 : Int) ≤ (j : Int) := by omega
        have hd : (j : Int) < (bytes.length : Int) := by omega
        have wk : IntKind.wrap .u8 (k : Int) = k := by rw [IntKind.wrap_u8]; omega
        have hk0 : ¬ ((k : Int) = 0) := by omega
        have x8 : x.tdiv 8 = x / 8 := Int.tdiv_eq_ediv_of_nonneg x0
        have x84 : (x.tdiv 8).tmod 4 = (x / 8) % 4 := by rw [x8, Int.tmod_eq_emod_of_nonneg (by omega)]
        have wq : IntKind.wrap .u8 (x.tdiv 8) = x.tdiv 8 := by rw [IntKind.wrap_u8, x8]; omega
        have wr : IntKind.wrap .u16 ((x.tdiv 8).tmod 4) = (x.tdiv 8).tmod 4 := by rw [w16, x84]; omega
        have ws : IntKind.wrap .u16 (4 + (x.tdiv 8).tmod 4) = 4 + (x.tdiv 8).tmod 4 := by rw [w16, x84]; omega
        obtain ⟨rs, cs2, hs2⟩ : ∃ rs cs2, s2 = .slice rs acc.length cs2 := by
          rcases hr2 with ⟨h, rfl, _⟩ | ⟨b, par, _, rfl, _⟩
          · rw [h]; exact ⟨_, _, rfl⟩
          · exact ⟨_, _, rfl⟩
        subst hs2
        simp only [go_sem, Nat.reduceLT, Nat.reduceEqDiff, ↓reduceIte, Nat.reduceAdd, Nat.zero_add, Nat.add_zero, Nat.reduceLeDiff, Int.reduceEq, Nat.reduceMul, List.take_zero, List.drop_succ_cons, List.drop_zero, List.nil_append, List.append_nil, List.drop_nil, List.take_succ_cons, List.take_nil, List.cons_append, Int.toNat_natCast, Int.toNat_zero, Int.toNat_one, t4, t5, t9, t88, t89, t90, xib, hz, hd, hrx, wk, hk0, wq, wr, ws, Nat.mul_one]
        refine codeW_loop (fun nn τ Y => ∃ i, nn = acc.length - i ∧ i ≤ acc.length ∧ tget τ 4 = .int .i64 k ∧ tget τ 5 = s ∧ tget τ 9 = .slice rs acc.length cs2 ∧ tget τ 12 = .pointer (some ⟨X.next, 0, none⟩) ∧ tget τ 13 = .bool (decide ((8 : Int) < (j : Int)) || (acc.take i).any fun y => (y.1 == (markOf k x).1) && (y.2 == (markOf k x).2)) ∧
          tget τ 88 = .slice (some ⟨ib, 0, none⟩) bytes.length ca ∧ tget τ 89 = .int .i64 bytes.length ∧ tget τ 90 = .int .i64 (j : Nat) ∧ tget τ 107 = .slice rs acc.length cs2 ∧ tget τ 108 = .int .i64 acc.length ∧ tget τ 109 = .int .i64 (i : Nat) ∧ Keeps [] X Y ∧
          Y.get X.next = some (.cells [.int .u8 (x.tmod k), .int .u16 (4 + (x.tdiv 8).tmod 4)] false [] 0)) (n := acc.length) ⟨0, rfl, Nat.zero_le _, ?_, ?_, ?_, ?_, ?_, ?_, ?_, ?_, ?_, ?_, ?_, ((Keeps.refl [] X).new' _).set' (Nat.le_refl _) (by simp), ?_⟩ ?_
        · simp only [go_sem, Nat.reduceLT, Nat.reduceEqDiff, ↓reduceIte, Nat.reduceAdd, Nat.zero_add, Nat.add_zero, Nat.reduceLeDiff, Int.reduceEq, Nat.reduceMul, t4]
        · simp only [go_sem, Nat.reduceLT, Nat.reduceEqDiff, ↓reduceIte, Nat.reduceAdd, Nat.zero_add, Nat.add_zero, Nat.reduceLeDiff, Int.reduceEq, Nat.reduceMul, t5]
        · simp only [go_sem, Nat.reduceLT, Nat.reduceEqDiff, ↓reduceIte, Nat.reduceAdd, Nat.zero_add, Nat.add_zero, Nat.reduceLeDiff, Int.reduceEq, Nat.reduceMul, t9]
        · simp only [go_sem, Nat.reduceLT, Nat.reduceEqDiff, ↓reduceIte, Nat.reduceAdd, Nat.zero_add, Nat.add_zero, Nat.reduceLeDiff, Int.reduceEq, Nat.reduceMul]
        · simp only [go_sem, Nat.reduceLT, Nat.reduceEqDiff, ↓reduceIte, Nat.reduceAdd, Nat.zero_add, Nat.add_zero, Nat.reduceLeDiff, Int.reduceEq, Nat.reduceMul, List.take_zero, List.any_nil]
        · simp only [go_sem, Nat.reduceLT, Nat.reduceEqDiff, ↓reduceIte, Nat.reduceAdd, Nat.zero_add, Nat.add_zero, Nat.reduceLeDiff, Int.reduceEq, Nat.reduceMul, t88]
        · simp only [go_sem, Nat.reduceLT, Nat.reduceEqDiff, ↓reduceIte, Nat.reduceAdd, Nat.zero_add, Nat.add_zero, Nat.reduceLeDiff, Int.reduceEq, Nat.reduceMul, t89]
        · simp only [go_sem, Nat.reduceLT, Nat.reduceEqDiff, ↓reduceIte, Nat.reduceAdd, Nat.zero_add, Nat.add_zero, Nat.reduceLeDiff, Int.reduceEq, Nat.reduceMul, t90]
        · simp only [go_sem, Nat.reduceLT, Nat.reduceEqDiff, ↓reduceIte, Nat.reduceAdd, Nat.zero_add, Nat.add_zero, Nat.reduceLeDiff, Int.reduceEq, Nat.reduceMul]
        · simp only [go_sem, Nat.reduceLT, Nat.reduceEqDiff, ↓reduceIte, Nat.reduceAdd, Nat.zero_add, Nat.add_zero, Nat.reduceLeDiff, Int.reduceEq, Nat.reduceMul]
        · simp only [go_sem, Nat.reduceLT, Nat.reduceEqDiff, ↓reduceIte, Nat.reduceAdd, Nat.zero_add, Nat.add_zero, Nat.reduceLeDiff, Int.reduceEq, Nat.reduceMul]; rfl
        · simp only [go_sem, Nat.reduceLT, Nat.reduceEqDiff, ↓reduceIte, Nat.reduceAdd, Nat.zero_add, Nat.add_zero, Nat.reduceLeDiff, Int.reduceEq, Nat.reduceMul]
        clear t4 t5 t9 t88 t89 t90
        rintro nn τ Y ⟨i, rfl, hi, t4, t5, t9, t12, t13, t88, t89, t90, t107, t108, t109, hXY, yx⟩
        have hwi : IntKind.wrap .i64 ((i : Int) + 1) = ((i + 1 : Nat) : Int) := by rw [wrap64] <;> omega
        have hxl : X.next < Y.next := AHeap.get_lt yx
        have xA : ∀ k, X.next < Y.next + k := fun k => by omega
        have xB : ∀ k, X.next ≠ Y.next + k := fun k => by omega
        have xC : X.next ≠ Y.next := by omega
        by_cases hlt2 : i < acc.length
        · rcases hr2 with ⟨h, _⟩ | ⟨b2, par2, g1, g2, g3, g4⟩
          · omega
          injection g2 with g2 _ g5
          subst g2; subst g5
          have yb := hXY.get g3 (by simp)
          have hbY : b2 < Y.next := AHeap.get_lt yb
          have bA : ∀ k, b2 < Y.next + k := fun k => by omega
          have bB : ∀ k, b2 ≠ Y.next + k := fun k => by omega
          have bC : b2 ≠ Y.next := by omega
          obtain ⟨m, hm⟩ : ∃ m, acc[i]? = some m := ⟨_, List.getElem?_eq_getElem hlt2⟩
          obtain ⟨f1, f2⟩ := flat_at (f := mkC) (n := 2) (fun _ => rfl) acc i m hm
          have hzi : (0 : Int) ≤ (i : Int) := by omega
          have hdi : (i : Int) < (acc.length : Int) := by omega
          have hany : ((acc.take (i + 1)).any fun y => (y.1 == (markOf k x).1) && (y.2 == (markOf k x).2)) = ((acc.take i).any (fun y => (y.1 == (markOf k x).1) && (y.2 == (markOf k x).2)) || ((m.1 == x.tmod k) && (m.2 == 4 + (x.tdiv 8).tmod 4))) := by
            rw [List.take_add_one, hm, List.any_append]; simp [markOf]
          have k1 : ∀ o o2, Keeps [] X ((Y.new o).set Y.next o2) := fun o o2 => (hXY.new' _).set' (by omega) (by simp)
          cases c1 : (decide ((8 : Int) < (j : Int)) || (acc.take i).any fun y => (y.1 == (markOf k x).1) && (y.2 == (markOf k x).2))
          · rw [c1] at t13
            simp only [go_sem, Nat.reduceLT, Nat.reduceEqDiff, ↓reduceIte, Nat.reduceAdd, Nat.zero_add, Nat.add_zero, Nat.reduceLeDiff, Int.reduceEq, Nat.reduceMul, List.take_zero, List.drop_succ_cons, List.drop_zero, List.nil_append, List.append_nil, List.drop_nil, List.take_succ_cons, List.take_nil, List.cons_append, Int.toNat_natCast, Int.toNat_zero, Int.toNat_one, t4, t5, t9, t12, t13, t88, t89, t90, t107, t108, t109, yx, yb, hbY, bA, bB, bC, hxl, xA, xB, xC, hzi, hdi, f1, f2, mkC, hwi]
            exact ⟨acc.length - (i + 1), by omega, i + 1, rfl, hlt2, by rw [hany, ← Bool.or_assoc, c1, Bool.false_or], rfl, k1 _ _⟩
          · rw [c1] at t13
            simp only [go_sem, Nat.reduceLT, Nat.reduceEqDiff, ↓reduceIte, Nat.reduceAdd, Nat.zero_add, Nat.add_zero, Nat.reduceLeDiff, Int.reduceEq, Nat.reduceMul, List.take_zero, List.drop_succ_cons, List.drop_zero, List.nil_append, List.append_nil, List.drop_nil, List.take_succ_cons, List.take_nil, List.cons_append, Int.toNat_natCast, Int.toNat_zero, Int.toNat_one, t4, t5, t9, t12, t13, t88, t89, t90, t107, t108, t109, yx, yb, hbY, bA, bB, bC, hxl, xA, xB, xC, hzi, hdi, f1, f2, mkC, hwi]
            exact ⟨acc.length - (i + 1), by omega, i + 1, rfl, hlt2, by rw [hany, ← Bool.or_assoc, c1, Bool.true_or], rfl, k1 _ _⟩
        · obtain rfl : i = acc.length := by omega
          have hd2 : ¬ ((acc.length : Int) < (acc.length : Int)) := by omega
          rw [List.take_length] at t13
          have hKY : Keeps [] H Y := hK.trans hXY
          have hs : marksOf k (bytes.drop j) j acc = marksOf k (x :: bytes.drop (j + 1)) j acc := by rw [drop_at hx]
          have hnl : H.next ≤ Y.next := by omega
          cases c2 : (decide ((8 : Int) < (j : Int)) || acc.any fun y => (y.1 == (markOf k x).1) && (y.2 == (markOf k x).2))
          · rw [c2] at t13
            simp only [Bool.or_eq_false_iff] at c2
            have d8 := of_decide_eq_false c2.1
            have hs2 : marksOf k (bytes.drop j) j acc = marksOf k (bytes.drop (j + 1)) (j + 1) (acc ++ [markOf k x]) := by
              rw [hs]; simp only [marksOf]; rw [if_neg (by rw [c2.2]; simp; omega)]
            obtain ⟨s', U, q1, q2, q3, q4⟩ := app_row (H := Y.new (.cells [.int .u8 (x.tmod k), .int .u16 (4 + (x.tdiv 8).tmod 4)] false [] 2)) (by_ := 4) (vs := [.int .u8 (x.tmod k), .int .u16 (4 + (x.tdiv 8).tmod 4)]) (hr2.keeps (hXY.new' _)) ((flat_len (f := mkC) (fun _ => rfl) _).symm) rfl (by omega) (by unfold grow; omega) (by simp; omega) (by simp; omega)
            have hbl : ∀ b cs par, Y.get b = some (.cells cs false par 9) → U.get b = Y.get b := fun b cs par hg => by
              have hb := AHeap.get_lt hg
              rw [q4 b (by simp; omega) (.inr (.inr fun cs par h => by rw [get_new_old _ hb, hg] at h; injection h with h; injection h with _ _ _ h; omega)), get_new_old _ hb]
            have hr3 : RowL U H.next H.next s k 9 ((finRegs k arr).flatMap RegD.cells) := by
              rcases hr.keeps hXY with h | ⟨b, par, o1, o2, o3, o4⟩
              · exact .inl h
              · exact .inr ⟨b, par, o1, o2, (hbl _ _ _ o3).trans o3, o4⟩
            have hKU : Keeps [] H U := ⟨by simp at q3; omega, fun j hj _ => by rw [q4 j (by simp; omega) (.inl hj), get_new_old _ (by omega), hKY.old j hj (by simp)]⟩
            simp only [go_sem, Nat.reduceLT, Nat.reduceEqDiff, ↓reduceIte, Nat.reduceAdd, Nat.zero_add, Nat.add_zero, Nat.reduceLeDiff, Int.reduceEq, Nat.reduceMul, List.take_zero, List.drop_succ_cons, List.drop_zero, List.nil_append, List.append_nil, List.drop_nil, List.take_succ_cons, List.take_nil, List.cons_append, Int.toNat_natCast, Int.toNat_zero, Int.toNat_one, t4, t5, t9, t12, t13, t88, t89, t90, t107, t108, t109, yx, hxl, xA, xB, xC, hd2, q1, hw]
            exact ⟨bytes.length - (j + 1), by omega, j + 1, acc ++ [markOf k x], _, rfl, hlt, rfl, rfl, hKU, by simp at q3; omega, hr3, by simpa [mkC, markOf] using q2, by rw [hE, hs2], by simp; omega, by simp; omega⟩
          · rw [c2] at t13
            have hs2 : marksOf k (bytes.drop j) j acc = marksOf k (bytes.drop (j + 1)) (j + 1) acc := by
              rw [hs]; simp only [marksOf]; rw [if_pos]
              rcases Bool.or_eq_true _ _ ▸ c2 with h | h
              · exact .inl (by have := of_decide_eq_true h; omega)
              · exact .inr h
            simp only [go_sem, Nat.reduceLT, Nat.reduceEqDiff, ↓reduceIte, Nat.reduceAdd, Nat.zero_add, Nat.add_zero, Nat.reduceLeDiff, Int.reduceEq, Nat.reduceMul, List.take_zero, List.drop_succ_cons, List.drop_zero, List.nil_append, List.append_nil, List.drop_nil, List.take_succ_cons, List.take_nil, List.cons_append, Int.toNat_natCast, Int.toNat_zero, Int.toNat_one, t4, t5, t9, t12, t13, t88, t89, t90, t107, t108, t109, yx, hxl, xA, xB, xC, hd2, hw]
            exact ⟨bytes.length - (j + 1), by omega, j + 1, acc, _, rfl, hlt, rfl, rfl, hKY, by omega, hr.keeps hXY, hr2.keeps hXY, by rw [hE, hs2], by omega, ha2⟩
      · obtain rfl : j = bytes.length := by omega
        have hd : ¬ ((bytes.length : Int) < (bytes.length : Int)) := by omega
        rw [List.drop_length] at hE
        have hm : marksOf k bytes 0 [] = acc := by rw [hE]; rfl
        have hnl : (finRegs k arr).length = k := by simp [finRegs]
        simp only [go_sem, Nat.reduceLT, Nat.reduceEqDiff, ↓reduceIte, Nat.reduceAdd, Nat.zero_add, Nat.add_zero, Nat.reduceLeDiff, Int.reduceEq, Nat.reduceMul, List.take_zero, List.drop_succ_cons, List.drop_zero, List.nil_append, List.append_nil, List.drop_nil, List.take_succ_cons, List.take_nil, List.cons_append, Int.toNat_natCast, Int.toNat_zero, Int.toNat_one, t4, t5, t9, t88, t89, t90, hd, hm]
        exact ⟨hK, _, _, rfl, RowL.slc (by rw [hnl]; exact hr) RegD.cells_length, RowL.slc hr2 fun _ => rfl⟩
end Go.Proofs.YtkjclebafpomhaaDoor
