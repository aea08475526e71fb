/- Contracts: Reg, Leq, name; the law's own tables. -/
import Derived.Test.YtkjclebafpomhaaDoorC3
import Derived.Laws.RangeAny
set_option linter.unusedVariables false
set_option linter.unusedSimpArgs false
set_option maxRecDepth 100000
namespace Go.Proofs.YtkjclebafpomhaaDoor
open Go Go.Eng

def s3 : Specs := spAdd s2 41 F41
theorem s3_17 : s3 17 = some F17 := id rfl
theorem s3_94 : s3 94 = some F94 := id rfl
theorem s3_41 : s3 41 = some F41 := id rfl
theorem s3_ok : SpsOK s3 := spAdd_ok s2_ok sp41
theorem callS_cxS (sp : Specs) {g : FuncId} (h : g < 175) (vs : List Value) (H : AHeap) : callS (cxS sp) g vs H = appS (sp g) vs H := callS_app (by rw [fn_ex sp g h]; trivial) vs H

theorem IsConf.len {H : AHeap} {i ir ig : Nat} {regs : List RegD} {geos : List GeoD} {total : Int} (h : IsConf H i ir ig regs geos total) : F17 [.pointer (some ⟨i, 0, none⟩)] H = some (.int .i64 regs.length, H) := by
  obtain ⟨cr, t, m, n, l, cg, ro, par, gs, hrow⟩ := h.row
  exact F17_ptr (by rw [hrow]; rfl)
theorem IsConf.has {H : AHeap} {i ir ig : Nat} {regs : List RegD} {geos : List GeoD} {total : Int} (h : IsConf H i ir ig regs geos total) (k : Int) : F41 [.pointer (some ⟨i, 0, none⟩), .int .i64 k] H = some (.bool (decide (0 ≤ k) && decide (k < regs.length)), H) := F41_eq h.len

theorem RegD.all_one (r : RegD) : r.cells.all one = true := rfl
def zeroReg : RegD := ⟨⟨#[]⟩, 0, 0, 0, 0, 0, 0, 0, 0⟩
def regV (regs : List RegD) (k : Int) : Value := if 0 ≤ k ∧ k < regs.length then .tuple #[.agg (regs.getD k.toNat zeroReg).cells.toArray, .bool true] else .tuple #[.agg zeroReg.cells.toArray, .bool false]
theorem reg_c {H : AHeap} {i ir ig : Nat} {regs : List RegD} {geos : List GeoD} {total : Int} (hC : IsConf H i ir ig regs geos total) (k : Int) :
    ACalls Tryd.prog 4 16 [.pointer (some ⟨i, 0, none⟩), .int .i64 k] H fun v H' => v = regV regs k ∧ H' = H := by
  refine ACalls.trimD (d := 2) (by unfold regV; split <;> rfl) ?_
  refine walk s3_ok (fn := Tryd.f16) (by kernel_rfl) (c := Tryd.f16.body.get (by kernel_rfl)) (by kernel_rfl) (by simp [Tryd.f16]) ?_
  simp only [Tryd.f16, Option.get]
  obtain ⟨cr, t, m, n, l, cg, ro, par, gs, hrow⟩ := hC.row
  obtain ⟨ro2, par2, gs2, hreg⟩ := hC.rregs
  have hi : i < H.next := AHeap.get_lt hrow
  have hir : ir < H.next := AHeap.get_lt hreg
  have hh : ∀ o, F41 [.pointer (some ⟨i, 0, none⟩), .int .i64 k] (H.new o) = some (.bool (decide (0 ≤ k) && decide (k < regs.length)), H.new o) := fun o => (hC.keeps (Keeps.new _ _ _)).has k
  by_cases hk : 0 ≤ k ∧ k < regs.length
  · obtain ⟨j, rfl⟩ : ∃ j : Nat, k = j := ⟨k.toNat, by omega⟩
    have hj : j < regs.length := by omega
    obtain ⟨r, hr⟩ : ∃ r, regs[j]? = some r := ⟨_, List.getElem?_eq_getElem hj⟩
    obtain ⟨e1, e2⟩ := flat_at RegD.cells_length regs j r hr
    have hb : (decide (0 ≤ (j : Int)) && decide ((j : Int) < (regs.length : Int))) = true := by simp; omega
    have hix : (0 ≤ (j : Int) ∧ (j : Int) < (regs.length : Int)) = True := by simp; omega
    have hv : regV regs (j : Int) = .tuple #[.agg r.cells.toArray, .bool true] := by
      unfold regV; rw [if_pos (by omega)]; simp [List.getD_eq_getElem?_getD, hr]
    rw [hv]
    simp only [go_sem, Nat.reduceLT, Nat.reduceEqDiff, ↓reduceIte, Nat.reduceAdd, Nat.zero_add, Nat.add_zero, Nat.reduceLeDiff, Int.reduceEq, Nat.reduceMul, List.take_zero, List.drop_succ_cons, List.drop_zero, List.nil_append, List.append_nil, List.drop_nil, List.take_succ_cons, List.take_nil, List.cons_append, Int.toNat_natCast, Int.toNat_zero, Int.toNat_one, s3_41, fn_ex, hh, hb, hrow, hreg, hix, e1, e2, RegD.cells, hi, hir]
  · have hb : (decide (0 ≤ k) && decide (k < (regs.length : Int))) = false := by
      rw [Bool.eq_false_iff]; simpa using hk
    have hv : regV regs k = .tuple #[.agg zeroReg.cells.toArray, .bool false] := by unfold regV; rw [if_neg hk]
    rw [hv]
    simp only [go_sem, Nat.reduceLT, Nat.reduceEqDiff, ↓reduceIte, Nat.reduceAdd, Nat.zero_add, Nat.add_zero, Nat.reduceLeDiff, Int.reduceEq, Nat.reduceMul, List.take_zero, List.drop_succ_cons, List.drop_zero, List.nil_append, List.append_nil, List.drop_nil, List.take_succ_cons, List.take_nil, List.cons_append, Int.toNat_natCast, Int.toNat_zero, Int.toNat_one, s3_41, fn_ex, hh, hb, RegD.cells, zeroReg]

def leqR (regs : List RegD) (a b : Int) : Bool := if 0 ≤ a ∧ a < regs.length ∧ 0 ≤ b ∧ b < regs.length then
  leqB (regs.getD a.toNat zeroReg).lev (regs.getD a.toNat zeroReg).cats (regs.getD b.toNat zeroReg).lev (regs.getD b.toNat zeroReg).cats else false
def inf45_1 : Info := [([0], [], false), ([1], [0], false), ([7, 8], [], false), ([9], [], false), ([0, 10], [], false), ([2, 10], [4], false), ([11, 12, 10], [], false), ([10, 13], [], false), ([14], [], false), ([0, 15], [], false), ([16, 15], [], false), ([17, 15], [], false), ([18, 15], [], false), ([1, 15], [9, 10, 11, 12], false), ([19, 20, 15], [], false), ([21, 15], [], false), ([22, 15], [], false), ([0, 15], [9, 10, 11, 12, 13, 14, 15, 16], false), ([24, 15], [9, 10, 11, 12, 13, 14, 15, 16], false), ([25, 15], [9, 10, 11, 12, 13, 14, 15, 16], false), ([26, 15], [9, 10, 11, 12, 13, 14, 15, 16], false), ([2, 15], [9, 10, 11, 12, 13, 14, 15, 16, 17, 18, 19, 20], false), ([27, 28, 15], [9, 10, 11, 12, 13, 14, 15, 16], false), ([29, 15], [9, 10, 11, 12, 13, 14, 15, 16], false), ([30, 15], [9, 10, 11, 12, 13, 14, 15, 16], false), ([23, 31, 15], [], false), ([15, 32], [], false), ([33], [], false)]
theorem flat_part {α : Type} {f : α → List Value} {n : Nat} (hf : ∀ a, (f a).length = n) (l : List α) (k o m : Nat) (a : α) (h : l[k]? = some a) (hm : o + m ≤ n) : ((l.flatMap f).drop (k * n + o)).take m = ((f a).drop o).take m ∧ k * n + o + m ≤ (l.flatMap f).length := by
  obtain ⟨h1, h2⟩ := flat_at hf l k a h
  refine ⟨?_, by omega⟩
  rw [← h1, ← List.drop_drop, List.drop_take, List.take_take]
  congr 1
  omega
theorem leq_c {H : AHeap} {i ir ig : Nat} {regs : List RegD} {geos : List GeoD} {total : Int} (hC : IsConf H i ir ig regs geos total) (a b : Int) :
    ACalls Tryd.prog 4 45 [.pointer (some ⟨i, 0, none⟩), .int .i64 a, .int .i64 b] H fun v H' => v = .bool (leqR regs a b) ∧ H' = H := by
  refine walk s3_ok (fn := Tryd.f45) (by kernel_rfl) (c := Tryd.f45.body.get (by kernel_rfl)) (by kernel_rfl) (by simp [Tryd.f45]) ?_
  simp only [Tryd.f45, Option.get]
  obtain ⟨cr, t, m, n, l, cg, ro, par, gs, hrow⟩ := hC.row
  obtain ⟨ro2, par2, gs2, hreg⟩ := hC.rregs
  simp only [go_sem, Nat.reduceLT, Nat.reduceEqDiff, ↓reduceIte, Nat.reduceAdd, Nat.zero_add, Nat.add_zero, Nat.reduceLeDiff, Int.reduceEq, Nat.reduceMul, List.take_zero, List.drop_succ_cons, List.drop_zero, List.nil_append, List.append_nil, List.drop_nil, List.take_succ_cons, List.take_nil, List.cons_append, Int.toNat_natCast, Int.toNat_zero, Int.toNat_one]
  refine codeW_any (cxS_ok s3_ok) inf45_1 (by kernel_rfl) fun _ => ?_
  cases hb1 : (decide (0 ≤ a) && decide (a < (regs.length : Int)))
  · have hv : leqR regs a b = false := by
      unfold leqR; rw [if_neg]; intro h; rw [Bool.eq_false_iff] at hb1; apply hb1; simp; omega
    simp only [inf45_1, go_sem, Nat.reduceLT, Nat.reduceEqDiff, ↓reduceIte, Nat.reduceAdd, Nat.zero_add, Nat.add_zero, Nat.reduceLeDiff, Int.reduceEq, Nat.reduceMul, List.take_zero, List.drop_succ_cons, List.drop_zero, List.nil_append, List.append_nil, List.drop_nil, List.take_succ_cons, List.take_nil, List.cons_append, Int.toNat_natCast, Int.toNat_zero, Int.toNat_one, s3_41, s3_94, callS_cxS, hC.has, hb1, hv]
  cases hb2 : (decide (0 ≤ b) && decide (b < (regs.length : Int)))
  · have hv : leqR regs a b = false := by
      unfold leqR; rw [if_neg]; intro h; rw [Bool.eq_false_iff] at hb2; apply hb2; simp; omega
    simp only [inf45_1, go_sem, Nat.reduceLT, Nat.reduceEqDiff, ↓reduceIte, Nat.reduceAdd, Nat.zero_add, Nat.add_zero, Nat.reduceLeDiff, Int.reduceEq, Nat.reduceMul, List.take_zero, List.drop_succ_cons, List.drop_zero, List.nil_append, List.append_nil, List.drop_nil, List.take_succ_cons, List.take_nil, List.cons_append, Int.toNat_natCast, Int.toNat_zero, Int.toNat_one, s3_41, s3_94, callS_cxS, hC.has, hb1, hb2, hv]
  have h1 : 0 ≤ a ∧ a < regs.length := by simpa using hb1
  have h2 : 0 ≤ b ∧ b < regs.length := by simpa using hb2
  obtain ⟨p, rfl⟩ : ∃ p : Nat, a = p := ⟨a.toNat, by omega⟩
  obtain ⟨q, rfl⟩ : ∃ q : Nat, b = q := ⟨b.toNat, by omega⟩
  obtain ⟨r, hr⟩ : ∃ r, regs[p]? = some r := ⟨_, List.getElem?_eq_getElem (by omega)⟩
  obtain ⟨u, hu⟩ : ∃ u, regs[q]? = some u := ⟨_, List.getElem?_eq_getElem (by omega)⟩
  obtain ⟨e1, e2⟩ := flat_part RegD.cells_length regs p 1 2 r hr (by omega)
  obtain ⟨e3, e4⟩ := flat_part RegD.cells_length regs q 1 2 u hu (by omega)
  have hi1 : (0 ≤ (p : Int) ∧ (p : Int) < (regs.length : Int)) = True := by simp; omega
  have hi2 : (0 ≤ (q : Int) ∧ (q : Int) < (regs.length : Int)) = True := by simp; omega
  have hv : leqR regs (p : Int) (q : Int) = leqB r.lev r.cats u.lev u.cats := by
    unfold leqR; rw [if_pos (by omega)]; simp [List.getD_eq_getElem?_getD, hr, hu]
  simp only [inf45_1, go_sem, Nat.reduceLT, Nat.reduceEqDiff, ↓reduceIte, Nat.reduceAdd, Nat.zero_add, Nat.add_zero, Nat.reduceLeDiff, Int.reduceEq, Nat.reduceMul, List.take_zero, List.drop_succ_cons, List.drop_zero, List.nil_append, List.append_nil, List.drop_nil, List.take_succ_cons, List.take_nil, List.cons_append, Int.toNat_natCast, Int.toNat_zero, Int.toNat_one, s3_41, s3_94, callS_cxS, hC.has, hb1, hb2, hv, hrow, hreg, hi1, hi2, e1, e2, e3, e4, RegD.cells, F94_eq]

/-! ### name -/
def nameB (s : ByteArray) : Bool := decide (1 ≤ s.size) && decide (s.size ≤ 8) && s.data.toList.all fun b => decide (97 ≤ b.toNat) && decide (b.toNat ≤ 122)
def nxt (r : Option AObj) (i : Nat) (H : AHeap) : Option (Value × AHeap) := match r with
  | some (.iter s pos) => if pos < s.size then some (.tuple #[.bool true, .int .i64 pos, .int .i32 (Utf8.decode s pos).1], H.set i (.iter s (pos + (Utf8.decode s pos).2))) else some (.tuple #[.bool false], H)
  | _ => none
@[go_sem] theorem nxt_iter (s : ByteArray) (pos i : Nat) (H : AHeap) : nxt (some (.iter s pos)) i H = if pos < s.size then some (.tuple #[.bool true, .int .i64 pos, .int .i32 (Utf8.decode s pos).1], H.set i (.iter s (pos + (Utf8.decode s pos).2))) else some (.tuple #[.bool false], H) := id rfl
@[go_sem] theorem aNext_ptr (r : Nat) (sp : Option Nat) (H : AHeap) : aNext (.pointer (some ⟨r, 0, sp⟩)) true H = nxt (H.get r) r H := by
  unfold aNext nxt
  simp only
  generalize H.get r = x
  cases x with
  | none => rfl
  | some o => cases o <;> rfl
theorem size_list (s : ByteArray) : s.data.toList.length = s.size := rfl
theorem rune_at (s : ByteArray) (pos : Nat) (h : pos < s.size) : ∃ b : UInt8, s.data.toList[pos]? = some b ∧ ((b.toNat < 128 ∧ Utf8.decode s pos = (b.toNat, 1)) ∨ (128 ≤ b.toNat ∧ 128 ≤ (Utf8.decode s pos).1)) := by
  refine ⟨s[pos]'h, by rw [List.getElem?_eq_getElem (show pos < s.data.toList.length from h)]; rfl, ?_⟩
  rcases Nat.lt_or_ge (s[pos]'h).toNat 128 with h1 | h1
  · exact .inl ⟨h1, decode_ascii s pos h h1⟩
  · exact .inr ⟨h1, (decode_high s pos h h1).1⟩
def F90 : Spec := fun vs H => match vs with
  | [.string s] => some (.bool (nameB s), H)
  | _ => none
theorem F90_eq (s : ByteArray) (H : AHeap) : F90 [.string s] H = some (.bool (nameB s), H) := id rfl
theorem sp90 : SpOK 90 F90 := by
  refine .of (fn := Tryd.f90) (by kernel_rfl) (by kernel_rfl) ?_
  intro vs H v H' h
  unfold F90 at h
  split at h
  · rename_i s
    injection h with h; injection h with h1 h2; subst h1; subst h2
    refine ACalls.trim1 rfl ?_
    refine walk sp0_ok (fn := Tryd.f90) (by kernel_rfl) (c := Tryd.f90.body.get (by kernel_rfl)) (by kernel_rfl) (by simp [Tryd.f90]) ?_
    simp only [Tryd.f90, Option.get]
    by_cases c1 : (s.size : Int) < 1
    · have hv : nameB s = false := by unfold nameB; rw [decide_eq_false (by omega)]; rfl
      simp only [go_sem, Nat.reduceLT, Nat.reduceEqDiff, ↓reduceIte, Nat.reduceAdd, Nat.zero_add, Nat.add_zero, Nat.reduceLeDiff, Int.reduceEq, Nat.reduceMul, c1, hv]
    by_cases c2 : 8 < (s.size : Int)
    · have hv : nameB s = false := by unfold nameB; rw [decide_eq_false (p := s.size ≤ 8) (by omega)]; simp
      simp only [go_sem, Nat.reduceLT, Nat.reduceEqDiff, ↓reduceIte, Nat.reduceAdd, Nat.zero_add, Nat.add_zero, Nat.reduceLeDiff, Int.reduceEq, Nat.reduceMul, c1, c2, hv]
    simp only [go_sem, Nat.reduceLT, Nat.reduceEqDiff, ↓reduceIte, Nat.reduceAdd, Nat.zero_add, Nat.add_zero, Nat.reduceLeDiff, Int.reduceEq, Nat.reduceMul, c1, c2]
    refine codeW_loop (fun nn τ H' => ∃ pos : Nat, nn = s.size - pos ∧ pos ≤ s.size ∧ tget τ 14 = .pointer (some ⟨H.next, 0, none⟩) ∧ H'.get H.next = some (.iter s pos) ∧ Keeps [] H H' ∧
      ∀ j < pos, ∃ b : UInt8, s.data.toList[j]? = some b ∧ 97 ≤ b.toNat ∧ b.toNat ≤ 122) (n := s.size) ⟨0, rfl, Nat.zero_le _, ?_, ?_, ?_, fun j hj => absurd hj (by omega)⟩ ?_
    · simp only [go_sem, Nat.reduceLT, Nat.reduceEqDiff, ↓reduceIte, Nat.reduceAdd, Nat.zero_add, Nat.add_zero, Nat.reduceLeDiff, Int.reduceEq, Nat.reduceMul]
    · simp only [go_sem, Nat.reduceLT, Nat.reduceEqDiff, ↓reduceIte, Nat.reduceAdd, Nat.zero_add, Nat.add_zero, Nat.reduceLeDiff, Int.reduceEq, Nat.reduceMul]
    · exact Keeps.new _ _ _
    rintro nn τ H' ⟨pos, rfl, hp, h14, hit, hK, hall⟩
    have hlt : H.next < H'.next := AHeap.get_lt hit
    by_cases c3 : pos < s.size
    · obtain ⟨b, hb, hd⟩ := rune_at s pos c3
      have bad : ¬ (97 ≤ b.toNat ∧ b.toNat ≤ 122) → nameB s = false := by
        intro hn
        unfold nameB
        have : (s.data.toList.all fun b => decide (97 ≤ b.toNat) && decide (b.toNat ≤ 122)) = false := by
          rw [List.all_eq_false]
          exact ⟨b, List.mem_of_getElem? hb, by simpa using hn⟩
        rw [this, Bool.and_false]
      by_cases c4 : ((Utf8.decode s pos).1 : Int) < 97
      · have hv := bad (by
          rcases hd with ⟨_, hd⟩ | ⟨h1, hd⟩
          · rw [hd] at c4; have c4 : (b.toNat : Int) < 97 := c4; omega
          · omega)
        simp only [go_sem, Nat.reduceLT, Nat.reduceEqDiff, ↓reduceIte, Nat.reduceAdd, Nat.zero_add, Nat.add_zero, Nat.reduceLeDiff, Int.reduceEq, Nat.reduceMul, h14, hit, c3, c4, hv]
        exact hK.set' (Nat.le_refl _) hlt
      by_cases c5 : 122 < ((Utf8.decode s pos).1 : Int)
      · have hv := bad (by
          rcases hd with ⟨_, hd⟩ | ⟨h1, hd⟩
          · rw [hd] at c5; have c5 : 122 < (b.toNat : Int) := c5; omega
          · omega)
        simp only [go_sem, Nat.reduceLT, Nat.reduceEqDiff, ↓reduceIte, Nat.reduceAdd, Nat.zero_add, Nat.add_zero, Nat.reduceLeDiff, Int.reduceEq, Nat.reduceMul, h14, hit, c3, c4, c5, hv]
        exact hK.set' (Nat.le_refl _) hlt
      · have hd1 : Utf8.decode s pos = (b.toNat, 1) ∧ 97 ≤ b.toNat ∧ b.toNat ≤ 122 := by
          rcases hd with ⟨_, hd⟩ | ⟨h1, hd⟩
          · rw [hd] at c4 c5; simp at c4 c5; exact ⟨hd, by omega, by omega⟩
          · omega
        simp only [go_sem, Nat.reduceLT, Nat.reduceEqDiff, ↓reduceIte, Nat.reduceAdd, Nat.zero_add, Nat.add_zero, Nat.reduceLeDiff, Int.reduceEq, Nat.reduceMul, h14, hit, c3, c4, c5]
        refine ⟨s.size - (pos + 1), by omega, pos + 1, rfl, c3, ?_, hK.set' (Nat.le_refl _) hlt, fun j hj => ?_⟩
        · rw [AHeap.get_set _ _ _ _ hlt, if_pos rfl, hd1.1]
        · rcases Nat.lt_or_ge j pos with h | h
          · exact hall j h
          · obtain rfl : j = pos := by omega
            exact ⟨b, hb, hd1.2⟩
    · have hv : nameB s = true := by
        unfold nameB
        rw [decide_eq_true (by omega), decide_eq_true (by omega), Bool.true_and, Bool.true_and, List.all_eq_true]
        intro b hb
        obtain ⟨j, hj⟩ := List.mem_iff_getElem?.1 hb
        have hjl : j < s.data.toList.length := (List.getElem?_eq_some_iff.1 hj).1
        obtain ⟨b', h1, h2, h3⟩ := hall j (by rw [size_list] at hjl; omega)
        rw [hj] at h1; injection h1 with h1; subst h1
        simp [h2, h3]
      simp only [go_sem, Nat.reduceLT, Nat.reduceEqDiff, ↓reduceIte, Nat.reduceAdd, Nat.zero_add, Nat.add_zero, Nat.reduceLeDiff, Int.reduceEq, Nat.reduceMul, h14, hit, c3, hv, hK]
  · cases h
end Go.Proofs.YtkjclebafpomhaaDoor
