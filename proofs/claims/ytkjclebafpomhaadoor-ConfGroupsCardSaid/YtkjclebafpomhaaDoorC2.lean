/- Contracts: small functions of label and conf. -/
import Derived.Test.YtkjclebafpomhaaDoorC1
set_option linter.unusedVariables false
set_option linter.unusedSimpArgs false
set_option maxRecDepth 100000
namespace Go.Proofs.YtkjclebafpomhaaDoor
open Go Go.Eng

/-! ### label -/
def F91 : Spec := fun vs H => match vs with
  | [.agg ⟨[.int .u8 a, .int .u16 b]⟩] => some (.bool (decide (a ≤ 15)), H)
  | _ => none
theorem F91_eq (a b : Int) (H : AHeap) : F91 [.agg ⟨[.int .u8 a, .int .u16 b]⟩] H = some (.bool (decide (a ≤ 15)), H) := id rfl
theorem sp91 : SpOK 91 F91 := by
  refine .of (fn := Tryd.f91) (by kernel_rfl) (by kernel_rfl) ?_
  intro vs H v H' h
  unfold F91 at h
  split at h
  · rename_i a b
    injection h with h; injection h with h1 h2; subst h1; subst h2
    refine ACalls.trim1 rfl ?_
    refine walk sp0_ok (fn := Tryd.f91) (by kernel_rfl) (c := Tryd.f91.body.get (by kernel_rfl)) (by kernel_rfl) (by simp [Tryd.f91]) ?_
    simp only [Tryd.f91, Option.get]
    simp only [go_sem, Nat.reduceLT, Nat.reduceEqDiff, ↓reduceIte, Nat.reduceAdd, Nat.zero_add, Nat.add_zero, Nat.reduceLeDiff, Int.reduceEq, Nat.reduceMul]
  · cases h
def leqB (a b c d : Int) : Bool := decide (a ≤ c) && decide (andNotI .u16 b d = 0)
def F94 : Spec := fun vs H => match vs with
  | [.agg ⟨[.int .u8 a, .int .u16 b]⟩, .agg ⟨[.int .u8 c, .int .u16 d]⟩] => some (.bool (leqB a b c d), H)
  | _ => none
theorem F94_eq (a b c d : Int) (H : AHeap) : F94 [.agg ⟨[.int .u8 a, .int .u16 b]⟩, .agg ⟨[.int .u8 c, .int .u16 d]⟩] H = some (.bool (leqB a b c d), H) := id rfl
theorem sp94 : SpOK 94 F94 := by
  refine .of (fn := Tryd.f94) (by kernel_rfl) (by kernel_rfl) ?_
  intro vs H v H' h
  unfold F94 at h
  split at h
  · rename_i a b c d
    injection h with h; injection h with h1 h2; subst h1; subst h2
    refine ACalls.trim1 rfl ?_
    refine walk sp0_ok (fn := Tryd.f94) (by kernel_rfl) (c := Tryd.f94.body.get (by kernel_rfl)) (by kernel_rfl) (by simp [Tryd.f94]) ?_
    simp only [Tryd.f94, Option.get, leqB]
    cases h1 : decide (a ≤ c) <;> simp only [go_sem, Nat.reduceLT, Nat.reduceEqDiff, ↓reduceIte, Nat.reduceAdd, Nat.zero_add, Nat.add_zero, Nat.reduceLeDiff, Int.reduceEq, Nat.reduceMul, h1]
  · cases h

/-! ### conf -/
def F17 : Spec := fun vs H => match vs with
  | [.pointer none] => some (.int .i64 0, H)
  | [.pointer (some ⟨i, 0, none⟩)] => match ld1 (H.get i) 0 with
    | some (.slice _ l _) => some (.int .i64 l, H)
    | _ => none
  | _ => none
theorem F17_nil (H : AHeap) : F17 [.pointer none] H = some (.int .i64 0, H) := id rfl
theorem F17_ptr {H : AHeap} {i : Nat} {a : Option Addr} {l c : Nat} (h : ld1 (H.get i) 0 = some (.slice a l c)) : F17 [.pointer (some ⟨i, 0, none⟩)] H = some (.int .i64 l, H) := by simp only [F17, h]
theorem sp17 : SpOK 17 F17 := by
  refine .of (fn := Tryd.f17) (by kernel_rfl) (by kernel_rfl) ?_
  intro vs H v H' h
  unfold F17 at h
  split at h
  · injection h with h; injection h with h1 h2; subst h1; subst h2
    refine walk sp0_ok (fn := Tryd.f17) (by kernel_rfl) (c := Tryd.f17.body.get (by kernel_rfl)) (by kernel_rfl) (by simp [Tryd.f17]) ?_
    simp only [Tryd.f17, Option.get]
    simp only [go_sem, Nat.reduceLT, Nat.reduceEqDiff, ↓reduceIte, Nat.reduceAdd, Nat.zero_add, Nat.add_zero, Nat.reduceLeDiff, Int.reduceEq, Nat.reduceMul]
  · rename_i i
    split at h
    · rename_i a l c hg
      injection h with h; injection h with h1 h2; subst h1; subst h2
      refine walk sp0_ok (fn := Tryd.f17) (by kernel_rfl) (c := Tryd.f17.body.get (by kernel_rfl)) (by kernel_rfl) (by simp [Tryd.f17]) ?_
      simp only [Tryd.f17, Option.get]
      simp only [go_sem, Nat.reduceLT, Nat.reduceEqDiff, ↓reduceIte, Nat.reduceAdd, Nat.zero_add, Nat.add_zero, Nat.reduceLeDiff, Int.reduceEq, Nat.reduceMul, hg]
    · cases h
  · cases h
def F14 : Spec := fun vs H => match vs with
  | [.pointer none] => some (.int .i64 0, H)
  | [.pointer (some ⟨i, 0, none⟩)] => match ld1 (H.get i) 6 with
    | some (.int .i64 l) => some (.int .i64 l, H)
    | _ => none
  | _ => none
theorem F14_ptr {H : AHeap} {i : Nat} {l : Int} (h : ld1 (H.get i) 6 = some (.int .i64 l)) : F14 [.pointer (some ⟨i, 0, none⟩)] H = some (.int .i64 l, H) := by simp only [F14, h]
theorem sp14 : SpOK 14 F14 := by
  refine .of (fn := Tryd.f14) (by kernel_rfl) (by kernel_rfl) ?_
  intro vs H v H' h
  unfold F14 at h
  split at h
  · injection h with h; injection h with h1 h2; subst h1; subst h2
    refine walk sp0_ok (fn := Tryd.f14) (by kernel_rfl) (c := Tryd.f14.body.get (by kernel_rfl)) (by kernel_rfl) (by simp [Tryd.f14]) ?_
    simp only [Tryd.f14, Option.get]
    simp only [go_sem, Nat.reduceLT, Nat.reduceEqDiff, ↓reduceIte, Nat.reduceAdd, Nat.zero_add, Nat.add_zero, Nat.reduceLeDiff, Int.reduceEq, Nat.reduceMul]
  · rename_i i
    split at h
    · rename_i l hg
      injection h with h; injection h with h1 h2; subst h1; subst h2
      refine walk sp0_ok (fn := Tryd.f14) (by kernel_rfl) (c := Tryd.f14.body.get (by kernel_rfl)) (by kernel_rfl) (by simp [Tryd.f14]) ?_
      simp only [Tryd.f14, Option.get]
      simp only [go_sem, Nat.reduceLT, Nat.reduceEqDiff, ↓reduceIte, Nat.reduceAdd, Nat.zero_add, Nat.add_zero, Nat.reduceLeDiff, Int.reduceEq, Nat.reduceMul, hg]
    · cases h
  · cases h
def s2 : Specs := spAdd (spAdd s1 17 F17) 94 F94
theorem s2_17 : s2 17 = some F17 := id rfl
theorem s2_94 : s2 94 = some F94 := id rfl
theorem s2_ok : SpsOK s2 := spAdd_ok (spAdd_ok s1_ok sp17) sp94
def F41 : Spec := fun vs H => match vs with
  | [p, .int .i64 k] => match F17 [p] H with
    | some (.int .i64 l, _) => some (.bool (decide (0 ≤ k) && decide (k < l)), H)
    | _ => none
  | _ => none
theorem F41_eq {H H1 : AHeap} {p : Value} {k l : Int} (h : F17 [p] H = some (.int .i64 l, H1)) : F41 [p, .int .i64 k] H = some (.bool (decide (0 ≤ k) && decide (k < l)), H) := by simp only [F41, h]
theorem F17_heap {vs : List Value} {H H' : AHeap} {v : Value} (h : F17 vs H = some (v, H')) : H' = H := by
  unfold F17 at h
  split at h
  · injection h with h; injection h with h1 h2; exact h2.symm
  · split at h
    · injection h with h; injection h with h1 h2; exact h2.symm
    · cases h
  · cases h
theorem sp41 : SpOK 41 F41 := by
  refine .of (fn := Tryd.f41) (by kernel_rfl) (by kernel_rfl) ?_
  intro vs H v H' h
  unfold F41 at h
  split at h
  · rename_i p k
    split at h
    · rename_i l H1 hl
      obtain rfl := F17_heap hl
      injection h with h; injection h with h1 h2; subst h1; subst h2
      refine walk s2_ok (fn := Tryd.f41) (by kernel_rfl) (c := Tryd.f41.body.get (by kernel_rfl)) (by kernel_rfl) (by simp [Tryd.f41]) ?_
      simp only [Tryd.f41, Option.get]
      cases h1 : decide (0 ≤ k) <;> simp only [go_sem, Nat.reduceLT, Nat.reduceEqDiff, ↓reduceIte, Nat.reduceAdd, Nat.zero_add, Nat.add_zero, Nat.reduceLeDiff, Int.reduceEq, Nat.reduceMul, s2_17, fn_ex, hl, h1]
    · cases h
  · cases h
/-- Slot's answer. -/
def F18 : Spec := fun vs H => match vs with
  | [p, .int .u64 n] => match F17 [p] H with
    | some (.int .i64 l, _) => if l = 0 then some (.int .i64 0, H) else if IntKind.wrap .u64 l = 0 then none else some (.int .i64 (IntKind.wrap .i64 (n.tmod (IntKind.wrap .u64 l))), H)
    | _ => none
  | _ => none
theorem sp18 : SpOK 18 F18 := by
  refine .of (fn := Tryd.f18) (by kernel_rfl) (by kernel_rfl) ?_
  intro vs H v H' h
  unfold F18 at h
  split at h
  · rename_i p n
    split at h
    · rename_i l H1 hl
      obtain rfl := F17_heap hl
      split at h
      · rename_i h0
        injection h with h; injection h with h1 h2; subst h1; subst h2
        refine walk s2_ok (fn := Tryd.f18) (by kernel_rfl) (c := Tryd.f18.body.get (by kernel_rfl)) (by kernel_rfl) (by simp [Tryd.f18]) ?_
        simp only [Tryd.f18, Option.get]
        simp only [go_sem, Nat.reduceLT, Nat.reduceEqDiff, ↓reduceIte, Nat.reduceAdd, Nat.zero_add, Nat.add_zero, Nat.reduceLeDiff, Int.reduceEq, Nat.reduceMul, s2_17, fn_ex, hl, h0]
      · rename_i h0
        split at h
        · cases h
        · rename_i h00
          injection h with h; injection h with h1 h2; subst h1; subst h2
          refine walk s2_ok (fn := Tryd.f18) (by kernel_rfl) (c := Tryd.f18.body.get (by kernel_rfl)) (by kernel_rfl) (by simp [Tryd.f18]) ?_
          simp only [Tryd.f18, Option.get]
          simp only [go_sem, Nat.reduceLT, Nat.reduceEqDiff, ↓reduceIte, Nat.reduceAdd, Nat.zero_add, Nat.add_zero, Nat.reduceLeDiff, Int.reduceEq, Nat.reduceMul, s2_17, fn_ex, hl, h0, h00]
    · cases h
  · cases h
end Go.Proofs.YtkjclebafpomhaaDoor
