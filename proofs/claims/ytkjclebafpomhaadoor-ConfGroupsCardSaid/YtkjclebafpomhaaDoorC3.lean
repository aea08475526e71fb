/- Contracts: (*conf.Conf).Group. -/
import Derived.Test.YtkjclebafpomhaaDoorC2
import Derived.Test.YtkjclebafpomhaaDoorEngY
set_option linter.unusedVariables false
set_option linter.unusedSimpArgs false
set_option maxRecDepth 100000
namespace Go.Proofs.YtkjclebafpomhaaDoor
open Go Go.Eng

/-! ### Rows of structs -/
theorem flat_len {α : Type} {f : α → List Value} {n : Nat} (hf : ∀ a, (f a).length = n) (l : List α) : (l.flatMap f).length = l.length * n := by
  induction l with
  | nil => simp
  | cons a l ih => simp [ih, hf, Nat.succ_mul, Nat.add_comm]
theorem flat_at {α : Type} {f : α → List Value} {n : Nat} (hf : ∀ a, (f a).length = n) : ∀ (l : List α) (k : Nat) (a : α), l[k]? = some a → ((l.flatMap f).drop (k * n)).take n = f a ∧ k * n + n ≤ (l.flatMap f).length := by
  intro l
  induction l with
  | nil => intro k a h; simp at h
  | cons x l ih =>
    intro k a h
    cases k with
    | zero =>
      simp at h
      subst h
      simp [List.take_append_of_le_length, hf]
    | succ k =>
      obtain ⟨h1, h2⟩ := ih k a (by simpa using h)
      have e : (k + 1) * n = (f x).length + k * n := by rw [hf, Nat.succ_mul, Nat.add_comm]
      rw [List.flatMap_cons, e]
      refine ⟨?_, ?_⟩
      · rw [← List.drop_drop, List.drop_left]; exact h1
      · rw [List.length_append]
        omega

structure GeoD where
  base : Int
  bitmap : Int
  table : Int
  data : Int
  blocks : Int
  nodes : Int
def GeoD.cells (g : GeoD) : List Value := [.int .i64 g.base, .int .i64 g.bitmap, .int .i64 g.table, .int .i64 g.data, .int .i64 g.blocks, .int .i64 g.nodes]
theorem GeoD.cells_length (g : GeoD) : g.cells.length = 6 := rfl
theorem RegD.cells_length (r : RegD) : r.cells.length = 9 := rfl

/-- A configuration in memory. -/
structure IsConf (H : AHeap) (i ir ig : Nat) (regs : List RegD) (geos : List GeoD) (total : Int) : Prop where
  row : ∃ cr t m n l cg ro par gs, H.get i = some (.cells [.slice (some ⟨ir, 0, none⟩) regs.length cr, t, m, n, l, .slice (some ⟨ig, 0, none⟩) geos.length cg, .int .i64 total] ro par gs)
  rregs : ∃ ro par gs, H.get ir = some (.cells (regs.flatMap RegD.cells) ro par gs)
  rgeos : ∃ ro par gs, H.get ig = some (.cells (geos.flatMap GeoD.cells) ro par gs)
  same : geos.length = regs.length
  few : geos.length ≤ 64
theorem IsConf.keeps {H H' : AHeap} {i ir ig : Nat} {regs : List RegD} {geos : List GeoD} {total : Int} (h : IsConf H i ir ig regs geos total) (k : Keeps [] H H') : IsConf H' i ir ig regs geos total := by
  obtain ⟨⟨cr, t, m, n, l, cg, ro, par, gs, h1⟩, ⟨a, b, c, h2⟩, ⟨a', b', c', h3⟩, h4, h5⟩ := h
  exact ⟨⟨cr, t, m, n, l, cg, ro, par, gs, k.get h1 (by simp)⟩, ⟨a, b, c, k.get h2 (by simp)⟩, ⟨a', b', c', k.get h3 (by simp)⟩, h4, h5⟩

theorem wrap64 {n : Int} (h1 : -9223372036854775808 ≤ n) (h2 : n < 9223372036854775808) : IntKind.wrap .i64 n = n := by
  rw [IntKind.wrap_i64]; omega
def groupFrom (b : Int) : List GeoD → Nat → Int × Int × Bool
  | [], _ => (0, 0, false)
  | g :: l, k => if b < g.base then groupFrom b l (k + 1) else if IntKind.wrap .i64 (g.data + g.blocks) ≤ b then groupFrom b l (k + 1) else
      if b < g.data then (k, 0, true) else (k, IntKind.wrap .i64 (IntKind.wrap .i64 (b - g.data) + 1), true)
def grpV (r : Int × Int × Bool) : Value := .tuple #[.int .i64 r.1, .int .i64 r.2.1, .bool r.2.2]
theorem drop_at {α : Type} {l : List α} {k : Nat} {a : α} (h : l[k]? = some a) : l.drop k = a :: l.drop (k + 1) := by
  obtain ⟨h1, h2⟩ := List.getElem?_eq_some_iff.1 h
  rw [List.drop_eq_getElem_cons h1, h2]
def inf15_8 : Info := [([7], [], false), ([1], [0], false), ([8], [0, 1], false), ([43], [0, 1], false), ([42, 44], [0], false), ([45], [0], false), ([41], [1, 2, 3, 4, 5], false), ([46], [], false), ([], [], false)]
theorem group_c {H : AHeap} {i ir ig : Nat} {regs : List RegD} {geos : List GeoD} {total : Int} (hC : IsConf H i ir ig regs geos total) (b : Int) :
    ACalls Tryd.prog 4 15 [.pointer (some ⟨i, 0, none⟩), .int .i64 b] H fun v H' => v = grpV (groupFrom b geos 0) ∧ H' = H := by
  refine ACalls.trim1 rfl ?_
  refine walk s2_ok (fn := Tryd.f15) (by kernel_rfl) (c := Tryd.f15.body.get (by kernel_rfl)) (by kernel_rfl) (by simp [Tryd.f15]) ?_
  simp only [Tryd.f15, Option.get]
  obtain ⟨cr, t, m, n, l, cg, ro, par, gs, hrow⟩ := hC.row
  have h17 : F17 [.pointer (some ⟨i, 0, none⟩)] H = some (.int .i64 regs.length, H) := F17_ptr (by rw [hrow]; rfl)
  simp only [go_sem, Nat.reduceLT, Nat.reduceEqDiff, ↓reduceIte, Nat.reduceAdd, Nat.zero_add, Nat.add_zero, Nat.reduceLeDiff, Int.reduceEq, Nat.reduceMul, s2_17, fn_ex, h17]
  refine codeW_loop (fun nn τ H' => ∃ k : Nat, nn = geos.length - k ∧ k ≤ geos.length ∧ tget τ 0 = .pointer (some ⟨i, 0, none⟩) ∧ tget τ 1 = .int .i64 b ∧ tget τ 10 = .int .i64 regs.length ∧ tget τ 11 = .int .i64 k ∧
    Keeps [] H H' ∧ groupFrom b geos 0 = groupFrom b (geos.drop k) k) (n := geos.length) ⟨0, rfl, Nat.zero_le _, ?_, ?_, ?_, ?_, Keeps.refl _ _, rfl⟩ ?_
  · simp only [go_sem, Nat.reduceLT, Nat.reduceEqDiff, ↓reduceIte, Nat.reduceAdd, Nat.zero_add, Nat.add_zero, Nat.reduceLeDiff, Int.reduceEq, Nat.reduceMul]
  · simp only [go_sem, Nat.reduceLT, Nat.reduceEqDiff, ↓reduceIte, Nat.reduceAdd, Nat.zero_add, Nat.add_zero, Nat.reduceLeDiff, Int.reduceEq, Nat.reduceMul]
  · simp only [go_sem, Nat.reduceLT, Nat.reduceEqDiff, ↓reduceIte, Nat.reduceAdd, Nat.zero_add, Nat.add_zero, Nat.reduceLeDiff, Int.reduceEq, Nat.reduceMul]
  · simp only [go_sem, Nat.reduceLT, Nat.reduceEqDiff, ↓reduceIte, Nat.reduceAdd, Nat.zero_add, Nat.add_zero, Nat.reduceLeDiff, Int.reduceEq, Nat.reduceMul]; rfl
  rintro nn τ H' ⟨k, rfl, hk, h0, h1, h10, h11, hK, hG⟩
  obtain ⟨cr, t, m, n, l, cg, ro, par, gs, hrow⟩ := (hC.keeps hK).row
  obtain ⟨ro2, par2, gs2, hgeo⟩ := (hC.keeps hK).rgeos
  by_cases hlt : k < geos.length
  · have hd : decide ((k : Int) < (regs.length : Int)) = true := by have := hC.same; simp; omega
    obtain ⟨g, hg⟩ : ∃ g, geos[k]? = some g := ⟨_, List.getElem?_eq_getElem hlt⟩
    obtain ⟨e1, e2⟩ := flat_at GeoD.cells_length geos k g hg
    have hix : (0 ≤ (k : Int) ∧ (k : Int) < (geos.length : Int)) = True := by simp; omega
    have hw : IntKind.wrap .i64 ((k : Int) + 1) = ((k + 1 : Nat) : Int) := by rw [wrap64] <;> have := hC.few <;> omega
    have hn : groupFrom b (geos.drop k) k = groupFrom b (g :: geos.drop (k + 1)) k := by rw [drop_at hg]
    rw [hn] at hG
    simp only [groupFrom] at hG
    have hnext : ∀ G : AHeap, Keeps [] H G → groupFrom b geos 0 = groupFrom b (List.drop (k + 1) geos) (k + 1) → ∃ m, m < geos.length - k ∧ ∃ k_1, m = geos.length - k_1 ∧ k_1 ≤ geos.length ∧ Value.int IntKind.i64 ((k + 1 : Nat) : Int) = Value.int IntKind.i64 (k_1 : Int) ∧ Keeps [] H G ∧ groupFrom b geos 0 = groupFrom b (List.drop k_1 geos) k_1 :=
      fun G h1 h2 => ⟨geos.length - (k + 1), by omega, k + 1, rfl, hlt, rfl, h1, h2⟩
    have hkeep : ∀ o o2 : AObj, Keeps [] H ((H'.new o).set H'.next o2) := fun o o2 => (Keeps.new' o hK).set' hK.le (by simp)
    by_cases c1 : b < g.base
    · rw [if_pos c1] at hG
      simp only [go_sem, Nat.reduceLT, Nat.reduceEqDiff, ↓reduceIte, Nat.reduceAdd, Nat.zero_add, Nat.add_zero, Nat.reduceLeDiff, Int.reduceEq, Nat.reduceMul, List.take_zero, List.drop_succ_cons, List.drop_zero, List.nil_append, List.append_nil, List.drop_nil, List.take_succ_cons, List.take_nil, List.cons_append, Int.toNat_natCast, Int.toNat_zero, Int.toNat_one, h0, h1, h10, h11, hd, hrow, hgeo, hix, e1, e2, GeoD.cells, c1, hw]
      exact hnext _ (hkeep _ _) hG
    rw [if_neg c1] at hG
    by_cases c2 : IntKind.wrap .i64 (g.data + g.blocks) ≤ b
    · rw [if_pos c2] at hG
      simp only [go_sem, Nat.reduceLT, Nat.reduceEqDiff, ↓reduceIte, Nat.reduceAdd, Nat.zero_add, Nat.add_zero, Nat.reduceLeDiff, Int.reduceEq, Nat.reduceMul, List.take_zero, List.drop_succ_cons, List.drop_zero, List.nil_append, List.append_nil, List.drop_nil, List.take_succ_cons, List.take_nil, List.cons_append, Int.toNat_natCast, Int.toNat_zero, Int.toNat_one, h0, h1, h10, h11, hd, hrow, hgeo, hix, e1, e2, GeoD.cells, c1, c2, hw]
      exact hnext _ (hkeep _ _) hG
    rw [if_neg c2] at hG
    by_cases c3 : b < g.data
    · rw [if_pos c3] at hG
      simp only [go_sem, Nat.reduceLT, Nat.reduceEqDiff, ↓reduceIte, Nat.reduceAdd, Nat.zero_add, Nat.add_zero, Nat.reduceLeDiff, Int.reduceEq, Nat.reduceMul, List.take_zero, List.drop_succ_cons, List.drop_zero, List.nil_append, List.append_nil, List.drop_nil, List.take_succ_cons, List.take_nil, List.cons_append, Int.toNat_natCast, Int.toNat_zero, Int.toNat_one, h0, h1, h10, h11, hd, hrow, hgeo, hix, e1, e2, GeoD.cells, c1, c2, c3, hw, hG, grpV]
      exact hkeep _ _
    · rw [if_neg c3] at hG
      simp only [go_sem, Nat.reduceLT, Nat.reduceEqDiff, ↓reduceIte, Nat.reduceAdd, Nat.zero_add, Nat.add_zero, Nat.reduceLeDiff, Int.reduceEq, Nat.reduceMul, List.take_zero, List.drop_succ_cons, List.drop_zero, List.nil_append, List.append_nil, List.drop_nil, List.take_succ_cons, List.take_nil, List.cons_append, Int.toNat_natCast, Int.toNat_zero, Int.toNat_one, h0, h1, h10, h11, hd, hrow, hgeo, hix, e1, e2, GeoD.cells, c1, c2, c3, hw, hG, grpV]
      refine codeW_any (cxS_ok s2_ok) inf15_8 (by kernel_rfl) fun _ => ?_
      simp only [inf15_8, go_sem, Nat.reduceLT, Nat.reduceEqDiff, ↓reduceIte, Nat.reduceAdd, Nat.zero_add, Nat.add_zero, Nat.reduceLeDiff, Int.reduceEq, Nat.reduceMul, List.take_zero, List.drop_succ_cons, List.drop_zero, List.nil_append, List.append_nil, List.drop_nil, List.take_succ_cons, List.take_nil, List.cons_append, Int.toNat_natCast, Int.toNat_zero, Int.toNat_one, h0, h1, h10, h11, hd, hrow, hgeo, hix, e1, e2, GeoD.cells, c1, c2, c3, hw, hG, grpV]
      exact hkeep _ _
  · have hk' : k = geos.length := by omega
    have hd : decide ((k : Int) < (regs.length : Int)) = false := by have := hC.same; simp; omega
    subst hk'
    rw [List.drop_length] at hG
    simp only [groupFrom] at hG
    simp only [go_sem, Nat.reduceLT, Nat.reduceEqDiff, ↓reduceIte, Nat.reduceAdd, Nat.zero_add, Nat.add_zero, Nat.reduceLeDiff, Int.reduceEq, Nat.reduceMul, List.take_zero, List.drop_succ_cons, List.drop_zero, List.nil_append, List.append_nil, List.drop_nil, List.take_succ_cons, List.take_nil, List.cons_append, Int.toNat_natCast, Int.toNat_zero, Int.toNat_one, h0, h1, h10, h11, hd, hrow, hgeo, hG, grpV, hK]
end Go.Proofs.YtkjclebafpomhaaDoor
