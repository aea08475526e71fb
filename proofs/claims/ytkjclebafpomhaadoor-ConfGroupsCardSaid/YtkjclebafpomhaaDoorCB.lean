/- Contracts: Size.Conf. -/
import Derived.Test.YtkjclebafpomhaaDoorCA
set_option linter.unusedVariables false
set_option linter.unusedSimpArgs false
set_option maxRecDepth 100000
namespace Go.Proofs.YtkjclebafpomhaaDoor
open Go Go.Eng
theorem s8_19 : s8 19 = none := id rfl
theorem s8_20 : s8 20 = none := id rfl
theorem size_many {a : Int} (ha : 0 ≤ a ∧ a ≤ 255) : 2 ≤ (2 + a.tmod 4).toNat ∧ (2 + a.tmod 4).toNat ≤ 5 ∧ (((2 + a.tmod 4).toNat : Nat) : Int) = 2 + a.tmod 4 := by
  rw [Int.tmod_eq_emod_of_nonneg ha.1]; omega
theorem conf_c {H : AHeap} {a : Int} {arr bytes : List Int} {sl : Value} (ha : 0 ≤ a ∧ a ≤ 255) (h25 : arr.length = 25) (hb : ∀ x ∈ arr, 0 ≤ x ∧ x ≤ 255) (hs : SlcE H sl (fun x => [Value.int .u8 x]) 1 bytes) (hbb : ∀ x ∈ bytes, 0 ≤ x ∧ x ≤ 255) (hlen : bytes.length < 4611686018427387904) :
    ACalls Tryd.prog 4 13 [.agg (sizeCells a arr sl).toArray] H fun v H' => Keeps [] H H' ∧ ∃ i ir ig, v = .pointer (some ⟨i, 0, none⟩) ∧
      IsConf H' i ir ig (finRegs (2 + a.tmod 4).toNat arr) (geosFrom 32 (finRegs (2 + a.tmod 4).toNat arr)).1 (geosFrom 32 (finRegs (2 + a.tmod 4).toNat arr)).2 := by
  refine walk s8_ok (fn := Tryd.f13) (by kernel_rfl) (c := Tryd.f13.body.get (by kernel_rfl)) (by kernel_rfl) (by simp [Tryd.f13]) ?_
  simp only [Tryd.f13, Option.get]
  have qone : (sizeCells a arr sl).all one = true := by
    have h1 : one sl = true := by
      rcases hs with ⟨_, rfl⟩ | ⟨b, c, row, ro, par, gs, rfl, _⟩
      · exact one_slice ..
      · exact one_slice ..
    simp only [sizeCells, List.all_cons, List.all_append, h1, List.all_nil, Bool.and_true, Bool.and_eq_true, List.all_eq_true, List.mem_map]
    exact ⟨rfl, by rintro x ⟨y, _, rfl⟩; rfl⟩
  have ql : (sizeCells a arr sl).length = 27 := by simp [sizeCells, h25]
  have qt : (sizeCells a arr sl).take 27 = sizeCells a arr sl := List.take_of_length_le (by omega)
  have ql' : 27 ≤ (sizeCells a arr sl).length := by omega
  have hK1 : Keeps [] H (H.new (.cells (sizeCells a arr sl) false [] 0)) := (Keeps.refl [] H).new' _
  have hs1 : SlcE (H.new (.cells (sizeCells a arr sl) false [] 0)) sl (fun x => [Value.int .u8 x]) 1 bytes := by
    rcases hs with h | ⟨b, c, row, ro, par, gs, h1, h2, h3⟩
    · exact .inl h
    · exact .inr ⟨b, c, row, ro, par, gs, h1, hK1.get h2 (by simp), h3⟩
  obtain ⟨m2, m5, me⟩ := size_many ha
  simp only [go_sem, Nat.reduceLT, Nat.reduceEqDiff, ↓reduceIte, Nat.reduceAdd, Nat.zero_add, Nat.add_zero, Nat.reduceLeDiff, Int.reduceEq, Nat.reduceMul, List.take_zero, List.drop_succ_cons, List.drop_zero, List.nil_append, List.append_nil, List.drop_nil, List.take_succ_cons, List.take_nil, List.cons_append, Int.toNat_natCast, Int.toNat_zero, Int.toNat_one, qone, ql', qt, s8_19, s8_20]
  refine callsx_of (cxS_ok s8_ok) (fn := Tryd.f19) (by kernel_rfl) (by kernel_rfl) (regs_c ha h25 hb hs1 hbb hlen) ?_
  rintro v X ⟨hK, sr, sm, rfl, h1, h2⟩
  generalize hmany : (2 + a.tmod 4).toNat = many at *
  rw [← me] at h2
  simp only [go_sem, Nat.reduceLT, Nat.reduceEqDiff, ↓reduceIte, Nat.reduceAdd, Nat.zero_add, Nat.add_zero, Nat.reduceLeDiff, Int.reduceEq, Nat.reduceMul, List.take_zero, List.drop_succ_cons, List.drop_zero, List.nil_append, List.append_nil, List.drop_nil, List.take_succ_cons, List.take_nil, List.cons_append, Int.toNat_natCast, Int.toNat_zero, Int.toNat_one, qone, ql', qt, s8_19, s8_20]
  refine callsx_of (cxS_ok s8_ok) (fn := Tryd.f20) (by kernel_rfl) (by kernel_rfl) (new_c h1 h2 (fun m hm => ?_) ?_) ?_
  · rcases marksOf_mem _ _ _ _ _ hm with hm | ⟨x, hx, rfl⟩
    · cases hm
    · have := mark_ok m2 (hbb x hx); omega
  · have := marksOf_len many bytes 0 [] (by simp) (by simp); omega
  rintro v X2 ⟨hK2, hv⟩
  have h0 := fin_new h25 hb hbb m2 m5
  rcases hv with ⟨hn, _⟩ | ⟨_, i, ir, ig, rfl, hI⟩
  · exact absurd h0 hn
  simp only [go_sem, Nat.reduceLT, Nat.reduceEqDiff, ↓reduceIte, Nat.reduceAdd, Nat.zero_add, Nat.add_zero, Nat.reduceLeDiff, Int.reduceEq, Nat.reduceMul, List.take_zero, List.drop_succ_cons, List.drop_zero, List.nil_append, List.append_nil, List.drop_nil, List.take_succ_cons, List.take_nil, List.cons_append, Int.toNat_natCast, Int.toNat_zero, Int.toNat_one]
  exact ⟨(hK1.trans hK).trans hK2, i, ir, ig, rfl, hI⟩
end Go.Proofs.YtkjclebafpomhaaDoor
