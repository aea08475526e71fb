/- The law ConfGroups. -/
import Derived.Test.YtkjclebafpomhaaDoorPDA7
set_option linter.unusedVariables false
set_option linter.unusedSimpArgs false
set_option maxRecDepth 100000
namespace Go.Proofs.YtkjclebafpomhaaDoor
open Go Go.Eng
def F12 : Spec := fun vs H => match vs with
  | [] => some (.bool true, H)
  | _ => none
theorem F12_eq (H : AHeap) : F12 [] H = some (.bool true, H) := id rfl
theorem sp12 : SpOK 12 F12 := by
  refine .of (fn := Tryd.f12) (by kernel_rfl) (by kernel_rfl) ?_
  intro vs H v H' h
  unfold F12 at h
  split at h
  · injection h with h; injection h with h1 h2; subst h1; subst h2
    exact awake12 _
  · cases h
def sL : Specs := spAdd (spAdd (spAdd s3 14 F14) 18 F18) 12 F12
theorem sL_12 : sL 12 = some F12 := id rfl
theorem sL_14 : sL 14 = some F14 := id rfl
theorem sL_17 : sL 17 = some F17 := id rfl
theorem sL_18 : sL 18 = some F18 := id rfl
theorem sL_13 : sL 13 = none := id rfl
theorem sL_15 : sL 15 = none := id rfl
theorem sL_16 : sL 16 = none := id rfl
theorem sL_ok : SpsOK sL := spAdd_ok (spAdd_ok (spAdd_ok s3_ok sp14) sp18) sp12
theorem IsConf.total {H : AHeap} {i ir ig : Nat} {regs : List RegD} {geos : List GeoD} {total : Int} (h : IsConf H i ir ig regs geos total) : F14 [.pointer (some ⟨i, 0, none⟩)] H = some (.int .i64 total, H) := by
  obtain ⟨cr, t, m, n, l, cg, ro, par, gs, hrow⟩ := h.row
  exact F14_ptr (by rw [hrow]; rfl)
theorem IsConf.slot {H : AHeap} {i ir ig : Nat} {regs : List RegD} {geos : List GeoD} {total : Int} (h : IsConf H i ir ig regs geos total) (h0 : regs.length ≠ 0) (n : Int) :
    F18 [.pointer (some ⟨i, 0, none⟩), .int .u64 n] H = some (.int .i64 (IntKind.wrap .i64 (n.tmod (IntKind.wrap .u64 regs.length))), H) ∧ IntKind.wrap .u64 (regs.length : Int) ≠ 0 := by
  have hf := h.few
  rw [h.same] at hf
  have hw : IntKind.wrap .u64 (regs.length : Int) = regs.length := by
    have : ∀ n : Int, IntKind.u64.wrap n = n % 18446744073709551616 := fun n => by simp [IntKind.wrap, IntKind.bits, IntKind.signed]
    rw [this]; omega
  have hl := h.len
  refine ⟨?_, by rw [hw]; omega⟩
  unfold F18
  simp only [hl]
  rw [if_neg (by omega), if_neg (by rw [hw]; omega)]
theorem bool_neq (ox oy : Operand) (H : AHeap) (c d : Bool) : aBinF Tryd.prog tb .neq 4 ox oy (.bool c) (.bool d) H = some (.bool (!(c == d))) := by
  cases c <;> cases d <;> kernel_rfl
set_option maxHeartbeats 4000000 in
theorem groups_c {H : AHeap} {a b0 n0 : Int} {arr bytes : List Int} {sl : Value} (ha : 0 ≤ a ∧ a ≤ 255) (h25 : arr.length = 25) (hb : ∀ x ∈ arr, 0 ≤ x ∧ x ≤ 255) (hs : SlcE H sl (fun x => [Value.int .u8 x]) 1 bytes) (hbb : ∀ x ∈ bytes, 0 ≤ x ∧ x ≤ 255) (hlen : bytes.length < 4611686018427387904) :
    ACalls Tryd.prog 4 3 [.agg (sizeCells a arr sl).toArray, .int .i64 b0, .int .u64 n0] H fun v H' => v = .bool true := by
  refine walk sL_ok (fn := Tryd.f3) (by kernel_rfl) (c := Tryd.f3.body.get (by kernel_rfl)) (by kernel_rfl) (by simp [Tryd.f3]) ?_
  simp only [Tryd.f3, Option.get]
  have bff : (false == false) = true := rfl
  have btt : (true == true) = true := rfl
  have bft : (false == true) = false := rfl
  have btf : (true == false) = false := rfl
  have qone : (sizeCells a arr sl).all one = true := by
    have h1 : one sl = true := by
      rcases hs with ⟨_, rfl⟩ | ⟨b, c, row, ro, par, gs, rfl, _⟩
      · exact one_slice ..
      · exact one_slice ..
    simp only [sizeCells, List.all_cons, List.all_append, h1, List.all_nil, Bool.and_true, Bool.and_eq_true, List.all_eq_true, List.mem_map]
    exact ⟨rfl, by rintro x ⟨y, _, rfl⟩; rfl⟩
  have ql : (sizeCells a arr sl).length = 27 := by simp [sizeCells, h25]
  have qt : (sizeCells a arr sl).take 27 = sizeCells a arr sl := List.take_of_length_le (by omega)
  have ql' : 27 ≤ (sizeCells a arr sl).length := by omega
  have hK1 : Keeps [] H (H.new (.cells (sizeCells a arr sl) false [] 0)) := (Keeps.refl [] H).new' _
  have hs1 : SlcE (H.new (.cells (sizeCells a arr sl) false [] 0)) sl (fun x => [Value.int .u8 x]) 1 bytes := by
    rcases hs with h | ⟨b, c, row, ro, par, gs, h1, h2, h3⟩
    · exact .inl h
    · exact .inr ⟨b, c, row, ro, par, gs, h1, hK1.get h2 (by simp), h3⟩
  obtain ⟨m2, m5, me⟩ := size_many ha
  simp only [go_sem, Nat.reduceLT, Nat.reduceEqDiff, ↓reduceIte, Nat.reduceAdd, Nat.zero_add, Nat.add_zero, Nat.reduceLeDiff, Int.reduceEq, Nat.reduceMul, List.take_zero, List.drop_succ_cons, List.drop_zero, List.nil_append, List.append_nil, List.drop_nil, List.take_succ_cons, List.take_nil, List.cons_append, Int.toNat_natCast, Int.toNat_zero, Int.toNat_one, qone, ql', qt, sL_12, sL_13, F12_eq, fn_ex]
  refine callsx_of (cxS_ok sL_ok) (fn := Tryd.f13) (by kernel_rfl) (by kernel_rfl) (conf_c ha h25 hb hs1 hbb hlen) ?_
  rintro v X ⟨hK, i, ir, ig, rfl, hI⟩
  generalize hmany : (2 + a.tmod 4).toNat = many at *
  obtain ⟨hch, hT, hgl, hgb⟩ := geos_chain (finRegs many arr) 32 (by omega) (by rw [fin_len]; omega) (fun r hr => by
    simp only [finRegs, List.mem_map, List.mem_range] at hr
    obtain ⟨k, hk, rfl⟩ := hr
    exact fin_sound h25 hb (by omega))
  have hrl := fin_len many arr
  generalize finRegs many arr = regs at *
  generalize (geosFrom 32 regs).1 = geos at *
  generalize (geosFrom 32 regs).2 = T at *
  have hT2 : 32 < T := hch.le.2 (fun h => by rw [h] at hgl; simp at hgl; omega)
  rw [hrl] at hT
  simp only [go_sem, Nat.reduceLT, Nat.reduceEqDiff, ↓reduceIte, Nat.reduceAdd, Nat.zero_add, Nat.add_zero, Nat.reduceLeDiff, Int.reduceEq, Nat.reduceMul, List.take_zero, List.drop_succ_cons, List.drop_zero, List.nil_append, List.append_nil, List.drop_nil, List.take_succ_cons, List.take_nil, List.cons_append, Int.toNat_natCast, Int.toNat_zero, Int.toNat_one, sL_14, hI.total, fn_ex]
  refine codeW_loop (fun nn τ Y => ∃ (b : Nat) (last number : Int), nn = T.toNat - b ∧ (b : Int) ≤ T ∧ tget τ 1 = .int .i64 b0 ∧ tget τ 2 = .int .u64 n0 ∧ tget τ 7 = .pointer (some ⟨i, 0, none⟩) ∧ tget τ 8 = .int .i64 last ∧ tget τ 9 = .int .i64 number ∧ tget τ 24 = .int .i64 T ∧ tget τ 25 = .int .i64 (b : Nat) ∧
    IsConf Y i ir ig regs geos T ∧ (((b : Int) ≤ 32 ∧ last = -1 ∧ number = 0) ∨ ((32 : Int) < b ∧ ∃ p : Nat, groupFrom ((b : Int) - 1) geos 0 = ((p : Int), number, true) ∧ last = p))) (n := T.toNat) ⟨0, -1, 0, rfl, by omega, ?_, ?_, ?_, ?_, ?_, ?_, ?_, hI, .inl ⟨by omega, rfl, rfl⟩⟩ ?_
  · simp only [go_sem, Nat.reduceLT, Nat.reduceEqDiff, ↓reduceIte, Nat.reduceAdd, Nat.zero_add, Nat.add_zero, Nat.reduceLeDiff, Int.reduceEq, Nat.reduceMul]
  · simp only [go_sem, Nat.reduceLT, Nat.reduceEqDiff, ↓reduceIte, Nat.reduceAdd, Nat.zero_add, Nat.add_zero, Nat.reduceLeDiff, Int.reduceEq, Nat.reduceMul]
  · simp only [go_sem, Nat.reduceLT, Nat.reduceEqDiff, ↓reduceIte, Nat.reduceAdd, Nat.zero_add, Nat.add_zero, Nat.reduceLeDiff, Int.reduceEq, Nat.reduceMul]
  · simp only [go_sem, Nat.reduceLT, Nat.reduceEqDiff, ↓reduceIte, Nat.reduceAdd, Nat.zero_add, Nat.add_zero, Nat.reduceLeDiff, Int.reduceEq, Nat.reduceMul]
  · simp only [go_sem, Nat.reduceLT, Nat.reduceEqDiff, ↓reduceIte, Nat.reduceAdd, Nat.zero_add, Nat.add_zero, Nat.reduceLeDiff, Int.reduceEq, Nat.reduceMul]
  · simp only [go_sem, Nat.reduceLT, Nat.reduceEqDiff, ↓reduceIte, Nat.reduceAdd, Nat.zero_add, Nat.add_zero, Nat.reduceLeDiff, Int.reduceEq, Nat.reduceMul]
  · simp only [go_sem, Nat.reduceLT, Nat.reduceEqDiff, ↓reduceIte, Nat.reduceAdd, Nat.zero_add, Nat.add_zero, Nat.reduceLeDiff, Int.reduceEq, Nat.reduceMul]; rfl
  clear hI
  rintro nn τ Y ⟨b, last, number, rfl, hbT, t1, t2, t7, t8, t9, t24, t25, hI, hinv⟩
  by_cases hlt : (b : Int) < T
  · have hw : IntKind.wrap .i64 ((b : Int) + 1) = ((b + 1 : Nat) : Int) := by rw [wrap64] <;> omega
    simp only [go_sem, Nat.reduceLT, Nat.reduceEqDiff, ↓reduceIte, Nat.reduceAdd, Nat.zero_add, Nat.add_zero, Nat.reduceLeDiff, Int.reduceEq, Nat.reduceMul, List.take_zero, List.drop_succ_cons, List.drop_zero, List.nil_append, List.append_nil, List.drop_nil, List.take_succ_cons, List.take_nil, List.cons_append, Int.toNat_natCast, Int.toNat_zero, Int.toNat_one, t1, t2, t7, t8, t9, t24, t25, hlt, sL_15, hw]
    refine callsx_of (cxS_ok sL_ok) (fn := Tryd.f15) (by kernel_rfl) (by kernel_rfl) (group_c hI b) ?_
    rintro v Y2 ⟨rfl, rfl⟩
    by_cases h32 : (b : Int) < 32
    · have hg := hch.under b 0 h32
      have c1 : ¬ ((32 : Int) ≤ (b : Int)) := by omega
      rw [hg]
      rcases hinv with ⟨_, rfl, rfl⟩ | ⟨h, _⟩
      rotate_left
      · omega
      simp only [go_sem, Nat.reduceLT, Nat.reduceEqDiff, ↓reduceIte, Nat.reduceAdd, Nat.zero_add, Nat.add_zero, Nat.reduceLeDiff, Int.reduceEq, Nat.reduceMul, List.take_zero, List.drop_succ_cons, List.drop_zero, List.nil_append, List.append_nil, List.drop_nil, List.take_succ_cons, List.take_nil, List.cons_append, Int.toNat_natCast, Int.toNat_zero, Int.toNat_one, t1, t2, t7, t8, t9, t24, t25, grpV, c1, hw, bool_neq, bff, btt, bft, btf]
      exact ⟨T.toNat - (b + 1), by omega, b + 1, -1, 0, rfl, by omega, rfl, rfl, rfl, hI, .inl ⟨by omega, rfl, rfl⟩⟩
    · have h32' : (32 : Int) ≤ (b : Int) := by omega
      obtain ⟨p, q, g, hg, _, hgp, q0, ⟨qb, qm⟩, _, _⟩ := hch.at b 0 h32' hlt
      rw [Nat.sub_zero] at hgp
      have hpl : p < regs.length := by rw [← hgl]; exact (List.getElem?_eq_some_iff.1 hgp).1
      have hbl := hgb p g hgp
      have hrel : (last = p ∧ ((q = number + 1 ∧ 0 ≤ number) ∨ (q = 0 ∧ number = 0))) ∨ ((p : Int) = last + 1 ∧ q = 0) := by
        rcases hinv with ⟨h1, h2, h3⟩ | ⟨h1, p1, h2, h3⟩
        · have hb32 : (b : Int) = 32 := by omega
          have hne : geos ≠ [] := fun h => by rw [h] at hgp; simp at hgp
          have hf := hch.first hne 0
          rw [hb32, hf] at hg
          injection hg with e1 e2; injection e2 with e2 e3
          right; omega
        · obtain ⟨p2, q2, g2, f1, _, _, f0, _, _, f7⟩ := hch.at ((b : Int) - 1) 0 (by omega) (by omega)
          rw [h2] at f1
          injection f1 with f1 f2; injection f2 with f2 _
          obtain ⟨p', q', f8, f9⟩ := f7 (by omega)
          have : (b : Int) - 1 + 1 = b := by omega
          rw [this, hg] at f8
          injection f8 with f8 f10; injection f10 with f10 _
          rcases f9 with ⟨f9, f11⟩ | ⟨f9, f11⟩
          · left; exact ⟨by omega, by omega⟩
          · right; omega
      have hpT : (0 : Int) ≤ (p : Int) ∧ (p : Int) < (regs.length : Int) := by omega
      have hrv : regV regs (p : Int) = .tuple #[.agg (regs.getD p zeroReg).cells.toArray, .bool true] := by unfold regV; rw [if_pos hpT, Int.toNat_natCast]
      have hnext : ∀ (Z : AHeap), IsConf Z i ir ig regs geos T → ∃ m, m < T.toNat - b ∧ ∃ (b_1 : Nat) (last number : Int), m = T.toNat - b_1 ∧ (b_1 : Int) ≤ T ∧ Value.int .i64 (p : Int) = .int .i64 last ∧ Value.int .i64 q = .int .i64 number ∧ Value.int .i64 ((b + 1 : Nat) : Int) = .int .i64 ((b_1 : Nat) : Int) ∧
          IsConf Z i ir ig regs geos T ∧ (((b_1 : Int) ≤ 32 ∧ last = -1 ∧ number = 0) ∨ ((32 : Int) < b_1 ∧ ∃ p : Nat, groupFrom ((b_1 : Int) - 1) geos 0 = ((p : Int), number, true) ∧ last = p)) := fun Z hZ =>
        ⟨T.toNat - (b + 1), by omega, b + 1, p, q, rfl, by omega, rfl, rfl, rfl, hZ, .inr ⟨by omega, p, by rw [show ((b + 1 : Nat) : Int) - 1 = b by omega]; exact hg, rfl⟩⟩
      have hkz : ∀ (Z : AHeap) o o2, IsConf Z i ir ig regs geos T → IsConf ((Z.new o).set Z.next o2) i ir ig regs geos T := fun Z o o2 hZ => hZ.keeps (((Keeps.refl [] Z).new' o).set' (Nat.le_refl _) (by simp))
      have hqb : ¬ ((regs.getD p zeroReg).blocks < q) := by omega
      have hfew := hI.few
      rw [hg]
      rcases hrel with ⟨rfl, ⟨hq, hn⟩ | ⟨hq, hn⟩⟩ | ⟨hp, hq⟩
      · have hq0 : (0 : Int) < q := by omega
        have hcs := hch.le
        have hw1 : IntKind.wrap .i64 (number + 1) = q := by rw [wrap64] <;> omega
        simp only [go_sem, Nat.reduceLT, Nat.reduceEqDiff, ↓reduceIte, Nat.reduceAdd, Nat.zero_add, Nat.add_zero, Nat.reduceLeDiff, Int.reduceEq, Nat.reduceMul, List.take_zero, List.drop_succ_cons, List.drop_zero, List.nil_append, List.append_nil, List.drop_nil, List.take_succ_cons, List.take_nil, List.cons_append, Int.toNat_natCast, Int.toNat_zero, Int.toNat_one, t1, t2, t7, t8, t9, t24, t25, grpV, h32', hw, bool_neq, bff, btt, bft, btf, hq0, hw1, sL_16, BEq.rfl]
        refine callsx_of (cxS_ok sL_ok) (fn := Tryd.f16) (by kernel_rfl) (by kernel_rfl) (reg_c hI p) ?_
        rintro v Y3 ⟨rfl, rfl⟩
        rw [hrv]
        simp only [go_sem, Nat.reduceLT, Nat.reduceEqDiff, ↓reduceIte, Nat.reduceAdd, Nat.zero_add, Nat.add_zero, Nat.reduceLeDiff, Int.reduceEq, Nat.reduceMul, List.take_zero, List.drop_succ_cons, List.drop_zero, List.nil_append, List.append_nil, List.drop_nil, List.take_succ_cons, List.take_nil, List.cons_append, Int.toNat_natCast, Int.toNat_zero, Int.toNat_one, t1, t2, t7, t8, t9, t24, t25, hw, RegD.cells, hqb]
        exact hnext _ (hkz _ _ _ hI)
      · subst hq; subst hn
        have z0 : ¬ ((0 : Int) < 0) := by omega
        simp only [go_sem, Nat.reduceLT, Nat.reduceEqDiff, ↓reduceIte, Nat.reduceAdd, Nat.zero_add, Nat.add_zero, Nat.reduceLeDiff, Int.reduceEq, Nat.reduceMul, List.take_zero, List.drop_succ_cons, List.drop_zero, List.nil_append, List.append_nil, List.drop_nil, List.take_succ_cons, List.take_nil, List.cons_append, Int.toNat_natCast, Int.toNat_zero, Int.toNat_one, t1, t2, t7, t8, t9, t24, t25, grpV, h32', hw, bool_neq, bff, btt, bft, btf, z0, sL_16]
        refine callsx_of (cxS_ok sL_ok) (fn := Tryd.f16) (by kernel_rfl) (by kernel_rfl) (reg_c hI p) ?_
        rintro v Y3 ⟨rfl, rfl⟩
        rw [hrv]
        simp only [go_sem, Nat.reduceLT, Nat.reduceEqDiff, ↓reduceIte, Nat.reduceAdd, Nat.zero_add, Nat.add_zero, Nat.reduceLeDiff, Int.reduceEq, Nat.reduceMul, List.take_zero, List.drop_succ_cons, List.drop_zero, List.nil_append, List.append_nil, List.drop_nil, List.take_succ_cons, List.take_nil, List.cons_append, Int.toNat_natCast, Int.toNat_zero, Int.toNat_one, t1, t2, t7, t8, t9, t24, t25, hw, RegD.cells, hqb]
        exact hnext _ (hkz _ _ _ hI)
      · subst hq
        have z0 : ¬ ((0 : Int) < 0) := by omega
        have hcs := hch.le
        have hpl' : ¬ ((p : Int) = last) := by omega
        have hw1 : IntKind.wrap .i64 (last + 1) = p := by rw [wrap64] <;> omega
        simp only [go_sem, Nat.reduceLT, Nat.reduceEqDiff, ↓reduceIte, Nat.reduceAdd, Nat.zero_add, Nat.add_zero, Nat.reduceLeDiff, Int.reduceEq, Nat.reduceMul, List.take_zero, List.drop_succ_cons, List.drop_zero, List.nil_append, List.append_nil, List.drop_nil, List.take_succ_cons, List.take_nil, List.cons_append, Int.toNat_natCast, Int.toNat_zero, Int.toNat_one, t1, t2, t7, t8, t9, t24, t25, grpV, h32', hw, bool_neq, bff, btt, bft, btf, z0, hpl', hw1, sL_16]
        refine callsx_of (cxS_ok sL_ok) (fn := Tryd.f16) (by kernel_rfl) (by kernel_rfl) (reg_c hI p) ?_
        rintro v Y3 ⟨rfl, rfl⟩
        rw [hrv]
        simp only [go_sem, Nat.reduceLT, Nat.reduceEqDiff, ↓reduceIte, Nat.reduceAdd, Nat.zero_add, Nat.add_zero, Nat.reduceLeDiff, Int.reduceEq, Nat.reduceMul, List.take_zero, List.drop_succ_cons, List.drop_zero, List.nil_append, List.append_nil, List.drop_nil, List.take_succ_cons, List.take_nil, List.cons_append, Int.toNat_natCast, Int.toNat_zero, Int.toNat_one, t1, t2, t7, t8, t9, t24, t25, hw, RegD.cells, hqb]
        exact hnext _ (hkz _ _ _ hI)
  · have hbe : (b : Int) = T := by omega
    simp only [go_sem, Nat.reduceLT, Nat.reduceEqDiff, ↓reduceIte, Nat.reduceAdd, Nat.zero_add, Nat.add_zero, Nat.reduceLeDiff, Int.reduceEq, Nat.reduceMul, List.take_zero, List.drop_succ_cons, List.drop_zero, List.nil_append, List.append_nil, List.drop_nil, List.take_succ_cons, List.take_nil, List.cons_append, Int.toNat_natCast, Int.toNat_zero, Int.toNat_one, t1, t2, t7, t8, t9, t24, t25, hlt, sL_15]
    refine callsx_of (cxS_ok sL_ok) (fn := Tryd.f15) (by kernel_rfl) (by kernel_rfl) (group_c hI b0) ?_
    rintro v Y2 ⟨rfl, rfl⟩
    have hlast : last = (regs.length : Int) - 1 := by
      rcases hinv with ⟨h1, _⟩ | ⟨h1, p1, h2, h3⟩
      · omega
      · obtain ⟨p2, q2, g2, f1, _, _, f0, _, f6, _⟩ := hch.at ((b : Int) - 1) 0 (by omega) (by omega)
        rw [h2] at f1
        injection f1 with f1 f2
        have := f6 (by omega)
        omega
    have hfew := hI.few
    have hw1 : IntKind.wrap .i64 ((regs.length : Int) - 1) = (regs.length : Int) - 1 := by rw [wrap64] <;> omega
    obtain ⟨hslot, hnz⟩ := hI.slot (by omega) n0
    subst hlast
    have hok : ∃ p q, groupFrom b0 geos 0 = (p, q, decide ((32 : Int) ≤ b0) && decide (b0 < T)) := by
      by_cases c1 : (32 : Int) ≤ b0
      · by_cases c2 : b0 < T
        · obtain ⟨p2, q2, g2, f1, _⟩ := hch.at b0 0 c1 c2
          exact ⟨p2, q2, by rw [f1]; simp [c1, c2]⟩
        · exact ⟨0, 0, by rw [hch.above b0 0 (by omega)]; simp [c2]⟩
      · exact ⟨0, 0, by rw [hch.under b0 0 (by omega)]; simp [c1]⟩
    obtain ⟨p, q, hok⟩ := hok
    rw [hok]
    cases c1 : decide ((32 : Int) ≤ b0)
    · simp only [go_sem, Nat.reduceLT, Nat.reduceEqDiff, ↓reduceIte, Nat.reduceAdd, Nat.zero_add, Nat.add_zero, Nat.reduceLeDiff, Int.reduceEq, Nat.reduceMul, List.take_zero, List.drop_succ_cons, List.drop_zero, List.nil_append, List.append_nil, List.drop_nil, List.take_succ_cons, List.take_nil, List.cons_append, Int.toNat_natCast, Int.toNat_zero, Int.toNat_one, t1, t2, t7, t8, t9, t24, t25, grpV, sL_17, sL_14, sL_18, fn_ex, hI.len, hI.total, hslot, hw1, c1, bff, btt, bft, btf, bool_eql, hnz]
    · cases c2 : decide (b0 < T)
      · simp only [go_sem, Nat.reduceLT, Nat.reduceEqDiff, ↓reduceIte, Nat.reduceAdd, Nat.zero_add, Nat.add_zero, Nat.reduceLeDiff, Int.reduceEq, Nat.reduceMul, List.take_zero, List.drop_succ_cons, List.drop_zero, List.nil_append, List.append_nil, List.drop_nil, List.take_succ_cons, List.take_nil, List.cons_append, Int.toNat_natCast, Int.toNat_zero, Int.toNat_one, t1, t2, t7, t8, t9, t24, t25, grpV, sL_17, sL_14, sL_18, fn_ex, hI.len, hI.total, hslot, hw1, c1, c2, bff, btt, bft, btf, bool_eql, hnz]
      · simp only [go_sem, Nat.reduceLT, Nat.reduceEqDiff, ↓reduceIte, Nat.reduceAdd, Nat.zero_add, Nat.add_zero, Nat.reduceLeDiff, Int.reduceEq, Nat.reduceMul, List.take_zero, List.drop_succ_cons, List.drop_zero, List.nil_append, List.append_nil, List.drop_nil, List.take_succ_cons, List.take_nil, List.cons_append, Int.toNat_natCast, Int.toNat_zero, Int.toNat_one, t1, t2, t7, t8, t9, t24, t25, grpV, sL_17, sL_14, sL_18, fn_ex, hI.len, hI.total, hslot, hw1, c1, c2, bff, btt, bft, btf, bool_eql, hnz]
end Go.Proofs.YtkjclebafpomhaaDoor
