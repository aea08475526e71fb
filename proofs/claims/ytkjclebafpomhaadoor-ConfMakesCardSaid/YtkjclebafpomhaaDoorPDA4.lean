/- Contracts: how they are kept; small functions of conf and label. -/
import Derived.Test.YtkjclebafpomhaaDoorPDA3
import Derived.Laws.RangeAny
set_option linter.unusedVariables false
set_option linter.unusedSimpArgs false
set_option maxRecDepth 100000
namespace Go.Proofs.YtkjclebafpomhaaDoor
open Go Go.Eng

abbrev Spec := List Value → AHeap → Option (Value × AHeap)
abbrev Specs := FuncId → Option Spec
/-- A function does what a specification reckons. -/
def SpOK (g : FuncId) (F : Spec) : Prop := (∃ fn, Tryd.prog.funcs[g]? = some fn ∧ fn.body.isSome = true) ∧ ∀ vs H v H', F vs H = some (v, H') → ACalls Tryd.prog 4 g vs H fun v1 H1 => v1 = v ∧ H1 = H'
def SpsOK (sp : Specs) : Prop := ∀ g F, sp g = some F → SpOK g F
noncomputable def cxS (sp : Specs) : Cx := { cx with sp := sp }
@[go_sem] theorem cxS_T (sp : Specs) : (cxS sp).T = tb := id rfl
@[go_sem] theorem cxS_P (sp : Specs) : (cxS sp).P = Tryd.prog := id rfl
@[go_sem] theorem cxS_G (sp : Specs) : (cxS sp).G = 4 := id rfl
@[go_sem] theorem cxS_sp (sp : Specs) : (cxS sp).sp = sp := id rfl
theorem nfuncs : Tryd.prog.funcs.size = 175 := by kernel_rfl
theorem fn_ex (sp : Specs) (g : FuncId) (h : g < 175) : (∃ fn, (cxS sp).fn g = some fn) = True := by
  simp only [eq_iff_iff, iff_true]
  exact ⟨_, Array.getElem?_eq_getElem (by rw [nfuncs]; exact h)⟩
@[go_sem ↓] theorem spW_some (sp : Specs) (g : FuncId) (F : Spec) (vs : List Value) (H : AHeap) (K : Value → AHeap → Prop) : spW (cxS sp) g (some F) vs H K = ((∃ fn, (cxS sp).fn g = some fn) ∧ bindR (F vs H) K) := id rfl
@[go_sem ↓] theorem spW_none (sp : Specs) (g : FuncId) (vs : List Value) (H : AHeap) (K : Value → AHeap → Prop) : spW (cxS sp) g none vs H K = CallsXu (cxS sp) g vs H K () := id rfl
theorem cxS_ok {sp : Specs} (h : SpsOK sp) : CxOK (cxS sp) where
  tb := cxOK.tb
  fn := cxOK.fn
  ext := cxOK.ext
  mix := cxOK.mix
  sp := fun f fn g hf hg => by
    obtain ⟨⟨fn', e1, e2⟩, e3⟩ := h f g hg
    have : fn' = fn := by
      have hf : Tryd.prog.funcs[f]? = some fn := hf
      rw [e1] at hf; injection hf
    subst this
    exact ⟨e2, e3⟩
def sp0 : Specs := fun _ => none
theorem sp0_ok : SpsOK sp0 := fun g F h => by cases h
def spAdd (sp : Specs) (g : FuncId) (F : Spec) : Specs := fun i => if i = g then some F else sp i
theorem spAdd_ok {sp : Specs} {g : FuncId} {F : Spec} (h : SpsOK sp) (hF : SpOK g F) : SpsOK (spAdd sp g F) := fun i G hi => by
  unfold spAdd at hi
  split at hi
  · rename_i e; injection hi with hi; subst hi; subst e; exact hF
  · exact h i G hi
theorem spAdd_self (sp : Specs) (g : FuncId) (F : Spec) : spAdd sp g F g = some F := by simp [spAdd]
theorem spAdd_ne (sp : Specs) (g i : FuncId) (F : Spec) (h : (i == g) = false) : spAdd sp g F i = sp i := by unfold spAdd; rw [if_neg (by simpa using h)]
theorem walk {sp : Specs} (hs : SpsOK sp) {f : FuncId} {fn : Func} {c : Code} {args : List Value} {H : AHeap} {Q : Value → AHeap → Prop} (hf : Tryd.prog.funcs[f]? = some fn) (hb : fn.body = some c) (hN : args.length ≤ fn.ntmps)
    (h : codeW (cxS sp) fn.ntmps c (resW (cxS sp) fn.results.toList Q) (initT 0 args) H) : ACalls Tryd.prog 4 f args H Q := acalls_w (cx := cxS sp) (cxS_ok hs) hf hb hN h
theorem SpOK.of {g : FuncId} {fn : Func} {F : Spec} (hf : Tryd.prog.funcs[g]? = some fn) (hb : fn.body.isSome = true) (h : ∀ vs H v H', F vs H = some (v, H') → ACalls Tryd.prog 4 g vs H fun v1 H1 => v1 = v ∧ H1 = H') : SpOK g F := ⟨⟨fn, hf, hb⟩, h⟩

def F93 : Spec := fun vs H => match vs with
  | [.int .i64 a, .int .i64 b, .int .i64 c] => some (.bool (decide (b ≤ a) && decide (a ≤ c)), H)
  | _ => none
theorem F93_eq (a b c : Int) (H : AHeap) : F93 [.int .i64 a, .int .i64 b, .int .i64 c] H = some (.bool (decide (b ≤ a) && decide (a ≤ c)), H) := id rfl
theorem sp93 : SpOK 93 F93 := by
  refine .of (fn := Tryd.f93) (by kernel_rfl) (by kernel_rfl) ?_
  intro vs H v H' h
  unfold F93 at h
  split at h
  · rename_i a b c
    injection h with h; injection h with h1 h2; subst h1; subst h2
    refine walk sp0_ok (fn := Tryd.f93) (by kernel_rfl) (c := Tryd.f93.body.get (by kernel_rfl)) (by kernel_rfl) (by simp [Tryd.f93]) ?_
    simp only [Tryd.f93, Option.get]
    cases h1 : decide (b ≤ a) <;> simp only [go_sem, Nat.reduceLT, Nat.reduceEqDiff, ↓reduceIte, Nat.reduceAdd, Nat.zero_add, Nat.add_zero, Nat.reduceLeDiff, Int.reduceEq, Nat.reduceMul, h1]
  · cases h

/-- A registered label's cells. -/
structure RegD where
  name : ByteArray
  lev : Int
  cats : Int
  blocks : Int
  nodes : Int
  frames : Int
  procs : Int
  opens : Int
  clear : Int
def RegD.cells (r : RegD) : List Value := [.string r.name, .int .u8 r.lev, .int .u16 r.cats, .int .i64 r.blocks, .int .i64 r.nodes, .int .i64 r.frames, .int .i64 r.procs, .int .i64 r.opens, .int .i64 r.clear]
def RegD.sound (r : RegD) : Bool := (4 ≤ r.blocks && r.blocks ≤ 512) && (4 ≤ r.nodes && r.nodes ≤ 128) && r.nodes.tmod 2 = 0 && (1 ≤ r.frames && r.frames ≤ 256) && (1 ≤ r.procs && r.procs ≤ 16) && (1 ≤ r.opens && r.opens ≤ 32)
def F92 : Spec := fun vs H => match vs with
  | [.agg ⟨[.string a, .int .u8 b, .int .u16 c, .int .i64 d, .int .i64 e, .int .i64 f, .int .i64 g, .int .i64 h, .int .i64 i]⟩] => some (.bool (RegD.mk a b c d e f g h i).sound, H)
  | _ => none
def s1 : Specs := spAdd sp0 93 F93
theorem s1_93 : s1 93 = some F93 := id rfl
theorem s1_ok : SpsOK s1 := spAdd_ok sp0_ok sp93
theorem F92_eq (a : ByteArray) (b c d e f g h i : Int) (H : AHeap) : F92 [.agg ⟨[.string a, .int .u8 b, .int .u16 c, .int .i64 d, .int .i64 e, .int .i64 f, .int .i64 g, .int .i64 h, .int .i64 i]⟩] H = some (.bool (RegD.mk a b c d e f g h i).sound, H) := id rfl
theorem sp92 : SpOK 92 F92 := by
  refine .of (fn := Tryd.f92) (by kernel_rfl) (by kernel_rfl) ?_
  intro vs H v H' h
  unfold F92 at h
  split at h
  · rename_i a b c d e f g h i
    injection h with h; injection h with h1 h2; subst h1; subst h2
    refine ACalls.trim1 rfl ?_
    refine walk s1_ok (fn := Tryd.f92) (by kernel_rfl) (c := Tryd.f92.body.get (by kernel_rfl)) (by kernel_rfl) (by simp [Tryd.f92]) ?_
    simp only [Tryd.f92, Option.get, RegD.sound]
    cases h1 : (decide (4 ≤ d) && decide (d ≤ 512))
    · simp only [go_sem, Nat.reduceLT, Nat.reduceEqDiff, ↓reduceIte, Nat.reduceAdd, Nat.zero_add, Nat.add_zero, Nat.reduceLeDiff, Int.reduceEq, Nat.reduceMul, s1_93, F93_eq, fn_ex, h1]
    cases h2 : (decide (4 ≤ e) && decide (e ≤ 128))
    · simp only [go_sem, Nat.reduceLT, Nat.reduceEqDiff, ↓reduceIte, Nat.reduceAdd, Nat.zero_add, Nat.add_zero, Nat.reduceLeDiff, Int.reduceEq, Nat.reduceMul, s1_93, F93_eq, fn_ex, h1, h2]
    cases h3 : decide (e.tmod 2 = 0)
    · simp only [go_sem, Nat.reduceLT, Nat.reduceEqDiff, ↓reduceIte, Nat.reduceAdd, Nat.zero_add, Nat.add_zero, Nat.reduceLeDiff, Int.reduceEq, Nat.reduceMul, s1_93, F93_eq, fn_ex, h1, h2, h3]
    cases h4 : (decide (1 ≤ f) && decide (f ≤ 256))
    · simp only [go_sem, Nat.reduceLT, Nat.reduceEqDiff, ↓reduceIte, Nat.reduceAdd, Nat.zero_add, Nat.add_zero, Nat.reduceLeDiff, Int.reduceEq, Nat.reduceMul, s1_93, F93_eq, fn_ex, h1, h2, h3, h4]
    cases h5 : (decide (1 ≤ g) && decide (g ≤ 16))
    · simp only [go_sem, Nat.reduceLT, Nat.reduceEqDiff, ↓reduceIte, Nat.reduceAdd, Nat.zero_add, Nat.add_zero, Nat.reduceLeDiff, Int.reduceEq, Nat.reduceMul, s1_93, F93_eq, fn_ex, h1, h2, h3, h4, h5]
    · simp only [go_sem, Nat.reduceLT, Nat.reduceEqDiff, ↓reduceIte, Nat.reduceAdd, Nat.zero_add, Nat.add_zero, Nat.reduceLeDiff, Int.reduceEq, Nat.reduceMul, s1_93, F93_eq, fn_ex, h1, h2, h3, h4, h5]
  · cases h
end Go.Proofs.YtkjclebafpomhaaDoor
set_option linter.unusedVariables false
set_option linter.unusedSimpArgs false
set_option maxRecDepth 100000
namespace Go.Proofs.YtkjclebafpomhaaDoor
open Go Go.Eng

/-! ### label -/
def F91 : Spec := fun vs H => match vs with
  | [.agg ⟨[.int .u8 a, .int .u16 b]⟩] => some (.bool (decide (a ≤ 15)), H)
  | _ => none
theorem F91_eq (a b : Int) (H : AHeap) : F91 [.agg ⟨[.int .u8 a, .int .u16 b]⟩] H = some (.bool (decide (a ≤ 15)), H) := id rfl
theorem sp91 : SpOK 91 F91 := by
  refine .of (fn := Tryd.f91) (by kernel_rfl) (by kernel_rfl) ?_
  intro vs H v H' h
  unfold F91 at h
  split at h
  · rename_i a b
    injection h with h; injection h with h1 h2; subst h1; subst h2
    refine ACalls.trim1 rfl ?_
    refine walk sp0_ok (fn := Tryd.f91) (by kernel_rfl) (c := Tryd.f91.body.get (by kernel_rfl)) (by kernel_rfl) (by simp [Tryd.f91]) ?_
    simp only [Tryd.f91, Option.get]
    simp only [go_sem, Nat.reduceLT, Nat.reduceEqDiff, ↓reduceIte, Nat.reduceAdd, Nat.zero_add, Nat.add_zero, Nat.reduceLeDiff, Int.reduceEq, Nat.reduceMul]
  · cases h
def leqB (a b c d : Int) : Bool := decide (a ≤ c) && decide (andNotI .u16 b d = 0)
def F94 : Spec := fun vs H => match vs with
  | [.agg ⟨[.int .u8 a, .int .u16 b]⟩, .agg ⟨[.int .u8 c, .int .u16 d]⟩] => some (.bool (leqB a b c d), H)
  | _ => none
theorem F94_eq (a b c d : Int) (H : AHeap) : F94 [.agg ⟨[.int .u8 a, .int .u16 b]⟩, .agg ⟨[.int .u8 c, .int .u16 d]⟩] H = some (.bool (leqB a b c d), H) := id rfl
theorem sp94 : SpOK 94 F94 := by
  refine .of (fn := Tryd.f94) (by kernel_rfl) (by kernel_rfl) ?_
  intro vs H v H' h
  unfold F94 at h
  split at h
  · rename_i a b c d
    injection h with h; injection h with h1 h2; subst h1; subst h2
    refine ACalls.trim1 rfl ?_
    refine walk sp0_ok (fn := Tryd.f94) (by kernel_rfl) (c := Tryd.f94.body.get (by kernel_rfl)) (by kernel_rfl) (by simp [Tryd.f94]) ?_
    simp only [Tryd.f94, Option.get, leqB]
    cases h1 : decide (a ≤ c) <;> simp only [go_sem, Nat.reduceLT, Nat.reduceEqDiff, ↓reduceIte, Nat.reduceAdd, Nat.zero_add, Nat.add_zero, Nat.reduceLeDiff, Int.reduceEq, Nat.reduceMul, h1]
  · cases h

/-! ### conf -/
def F17 : Spec := fun vs H => match vs with
  | [.pointer none] => some (.int .i64 0, H)
  | [.pointer (some ⟨i, 0, none⟩)] => match ld1 (H.get i) 0 with
    | some (.slice _ l _) => some (.int .i64 l, H)
    | _ => none
  | _ => none
theorem F17_nil (H : AHeap) : F17 [.pointer none] H = some (.int .i64 0, H) := id rfl
theorem F17_ptr {H : AHeap} {i : Nat} {a : Option Addr} {l c : Nat} (h : ld1 (H.get i) 0 = some (.slice a l c)) : F17 [.pointer (some ⟨i, 0, none⟩)] H = some (.int .i64 l, H) := by simp only [F17, h]
theorem sp17 : SpOK 17 F17 := by
  refine .of (fn := Tryd.f17) (by kernel_rfl) (by kernel_rfl) ?_
  intro vs H v H' h
  unfold F17 at h
  split at h
  · injection h with h; injection h with h1 h2; subst h1; subst h2
    refine walk sp0_ok (fn := Tryd.f17) (by kernel_rfl) (c := Tryd.f17.body.get (by kernel_rfl)) (by kernel_rfl) (by simp [Tryd.f17]) ?_
    simp only [Tryd.f17, Option.get]
    simp only [go_sem, Nat.reduceLT, Nat.reduceEqDiff, ↓reduceIte, Nat.reduceAdd, Nat.zero_add, Nat.add_zero, Nat.reduceLeDiff, Int.reduceEq, Nat.reduceMul]
  · rename_i i
    split at h
    · rename_i a l c hg
      injection h with h; injection h with h1 h2; subst h1; subst h2
      refine walk sp0_ok (fn := Tryd.f17) (by kernel_rfl) (c := Tryd.f17.body.get (by kernel_rfl)) (by kernel_rfl) (by simp [Tryd.f17]) ?_
      simp only [Tryd.f17, Option.get]
      simp only [go_sem, Nat.reduceLT, Nat.reduceEqDiff, ↓reduceIte, Nat.reduceAdd, Nat.zero_add, Nat.add_zero, Nat.reduceLeDiff, Int.reduceEq, Nat.reduceMul, hg]
    · cases h
  · cases h
def F14 : Spec := fun vs H => match vs with
  | [.pointer none] => some (.int .i64 0, H)
  | [.pointer (some ⟨i, 0, none⟩)] => match ld1 (H.get i) 6 with
    | some (.int .i64 l) => some (.int .i64 l, H)
    | _ => none
  | _ => none
theorem F14_ptr {H : AHeap} {i : Nat} {l : Int} (h : ld1 (H.get i) 6 = some (.int .i64 l)) : F14 [.pointer (some ⟨i, 0, none⟩)] H = some (.int .i64 l, H) := by simp only [F14, h]
theorem sp14 : SpOK 14 F14 := by
  refine .of (fn := Tryd.f14) (by kernel_rfl) (by kernel_rfl) ?_
  intro vs H v H' h
  unfold F14 at h
  split at h
  · injection h with h; injection h with h1 h2; subst h1; subst h2
    refine walk sp0_ok (fn := Tryd.f14) (by kernel_rfl) (c := Tryd.f14.body.get (by kernel_rfl)) (by kernel_rfl) (by simp [Tryd.f14]) ?_
    simp only [Tryd.f14, Option.get]
    simp only [go_sem, Nat.reduceLT, Nat.reduceEqDiff, ↓reduceIte, Nat.reduceAdd, Nat.zero_add, Nat.add_zero, Nat.reduceLeDiff, Int.reduceEq, Nat.reduceMul]
  · rename_i i
    split at h
    · rename_i l hg
      injection h with h; injection h with h1 h2; subst h1; subst h2
      refine walk sp0_ok (fn := Tryd.f14) (by kernel_rfl) (c := Tryd.f14.body.get (by kernel_rfl)) (by kernel_rfl) (by simp [Tryd.f14]) ?_
      simp only [Tryd.f14, Option.get]
      simp only [go_sem, Nat.reduceLT, Nat.reduceEqDiff, ↓reduceIte, Nat.reduceAdd, Nat.zero_add, Nat.add_zero, Nat.reduceLeDiff, Int.reduceEq, Nat.reduceMul, hg]
    · cases h
  · cases h
def s2 : Specs := spAdd (spAdd s1 17 F17) 94 F94
theorem s2_17 : s2 17 = some F17 := id rfl
theorem s2_94 : s2 94 = some F94 := id rfl
theorem s2_ok : SpsOK s2 := spAdd_ok (spAdd_ok s1_ok sp17) sp94
def F41 : Spec := fun vs H => match vs with
  | [p, .int .i64 k] => match F17 [p] H with
    | some (.int .i64 l, _) => some (.bool (decide (0 ≤ k) && decide (k < l)), H)
    | _ => none
  | _ => none
theorem F41_eq {H H1 : AHeap} {p : Value} {k l : Int} (h : F17 [p] H = some (.int .i64 l, H1)) : F41 [p, .int .i64 k] H = some (.bool (decide (0 ≤ k) && decide (k < l)), H) := by simp only [F41, h]
theorem F17_heap {vs : List Value} {H H' : AHeap} {v : Value} (h : F17 vs H = some (v, H')) : H' = H := by
  unfold F17 at h
  split at h
  · injection h with h; injection h with h1 h2; exact h2.symm
  · split at h
    · injection h with h; injection h with h1 h2; exact h2.symm
    · cases h
  · cases h
theorem sp41 : SpOK 41 F41 := by
  refine .of (fn := Tryd.f41) (by kernel_rfl) (by kernel_rfl) ?_
  intro vs H v H' h
  unfold F41 at h
  split at h
  · rename_i p k
    split at h
    · rename_i l H1 hl
      obtain rfl := F17_heap hl
      injection h with h; injection h with h1 h2; subst h1; subst h2
      refine walk s2_ok (fn := Tryd.f41) (by kernel_rfl) (c := Tryd.f41.body.get (by kernel_rfl)) (by kernel_rfl) (by simp [Tryd.f41]) ?_
      simp only [Tryd.f41, Option.get]
      cases h1 : decide (0 ≤ k) <;> simp only [go_sem, Nat.reduceLT, Nat.reduceEqDiff, ↓reduceIte, Nat.reduceAdd, Nat.zero_add, Nat.add_zero, Nat.reduceLeDiff, Int.reduceEq, Nat.reduceMul, s2_17, fn_ex, hl, h1]
    · cases h
  · cases h
/-- Slot's answer. -/
def F18 : Spec := fun vs H => match vs with
  | [p, .int .u64 n] => match F17 [p] H with
    | some (.int .i64 l, _) => if l = 0 then some (.int .i64 0, H) else if IntKind.wrap .u64 l = 0 then none else some (.int .i64 (IntKind.wrap .i64 (n.tmod (IntKind.wrap .u64 l))), H)
    | _ => none
  | _ => none
theorem sp18 : SpOK 18 F18 := by
  refine .of (fn := Tryd.f18) (by kernel_rfl) (by kernel_rfl) ?_
  intro vs H v H' h
  unfold F18 at h
  split at h
  · rename_i p n
    split at h
    · rename_i l H1 hl
      obtain rfl := F17_heap hl
      split at h
      · rename_i h0
        injection h with h; injection h with h1 h2; subst h1; subst h2
        refine walk s2_ok (fn := Tryd.f18) (by kernel_rfl) (c := Tryd.f18.body.get (by kernel_rfl)) (by kernel_rfl) (by simp [Tryd.f18]) ?_
        simp only [Tryd.f18, Option.get]
        simp only [go_sem, Nat.reduceLT, Nat.reduceEqDiff, ↓reduceIte, Nat.reduceAdd, Nat.zero_add, Nat.add_zero, Nat.reduceLeDiff, Int.reduceEq, Nat.reduceMul, s2_17, fn_ex, hl, h0]
      · rename_i h0
        split at h
        · cases h
        · rename_i h00
          injection h with h; injection h with h1 h2; subst h1; subst h2
          refine walk s2_ok (fn := Tryd.f18) (by kernel_rfl) (c := Tryd.f18.body.get (by kernel_rfl)) (by kernel_rfl) (by simp [Tryd.f18]) ?_
          simp only [Tryd.f18, Option.get]
          simp only [go_sem, Nat.reduceLT, Nat.reduceEqDiff, ↓reduceIte, Nat.reduceAdd, Nat.zero_add, Nat.add_zero, Nat.reduceLeDiff, Int.reduceEq, Nat.reduceMul, s2_17, fn_ex, hl, h0, h00]
    · cases h
  · cases h
end Go.Proofs.YtkjclebafpomhaaDoor
set_option linter.unusedVariables false
set_option linter.unusedSimpArgs false
namespace Go.Eng
open Go

/-! ### What an operation touches -/
/-- 'some F W a b': it looks at the rows of F and W, writes those of W, makes those from a on ahead of b; 'all': whatever. -/
inductive Eff where
  | some (F W : List Nat) (a b : Nat)
  | all
/-- Neither sees what the other does. -/
def free1 (F W : List Nat) (a b : Nat) : Prop := (∀ i ∈ F, i ∉ W) ∧ ∀ i ∈ F, i < a ∨ b ≤ i
def apart : Eff → Eff → Prop
  | .some F W a b, .some F' W' a' b' => free1 F W' a' b' ∧ free1 F' W a b
  | _, _ => False
/-- An operation and those ahead of it. -/
def clean (un : List Nat) (prev : List (Nat × Eff)) (e : Eff) : Prop := match prev with
  | [] => True
  | (k, e') :: l => (k ∈ un → apart e e') ∧ clean un l e

/-- What comes of an operation, of what it touches. -/
structure Local (f : AHeap → Option (Value × AHeap)) (H : AHeap) (F W : List Nat) (v : Value) (H' : AHeap) : Prop where
  run : ∃ R, f (viewL W (W ++ F) H) = some (v, R) ∧ R.next = H'.next ∧ ∀ i, H'.get i = if i ∈ W ∨ (H.next ≤ i ∧ i < H'.next) then R.get i else H.get i
  le : H.next ≤ H'.next
  okw : okW H W = true

section
variable {cx : Cx} {N : Nat} {ops : Array Oper}

def effOf (s : Stp) : Option Eff := match s.foot, s.wr with
  | .ids F, some W => some (.some F W s.h.next s.R.next)
  | .but [], none => some .all
  | _, _ => none

/-- A step that touches little. -/
def mkStp (τ : Tmps) (H : AHeap) (F W : List Nat) (R : AHeap) (v : Value) (rd : List Nat) (o : Oper) : Stp := ⟨τ, H, viewL W (W ++ F) H, R, v, .ids (W ++ F), some W, rd, o⟩

theorem sok_local (hc : CxOK cx) {j : Nat} {o : Oper} {τ τ' : Tmps} {H H' : AHeap} {F W : List Nat} {v : Value} (hj : ops[j]? = some o) (hw : awanted ops (restr τ (o.looksAt ops)) o = some true) (h : Local (aop cx.P cx.T cx.G (restr τ (o.looksAt ops)) o.op) H F W v H')
    (hp : aput N o.dst v τ = some τ') : ∃ R, R.next = H'.next ∧ SOK cx N ops j (mkStp τ H F W R v (o.looksAt ops) o) (τ', H') := by
  obtain ⟨R, h1, h2, h3⟩ := h.run
  obtain ⟨d1, d2⟩ := aput_dst hp
  have vf := view_facts (F := W ++ F) h.okw (fun i hi => List.mem_append_left _ hi)
  refine ⟨R, h2, ⟨fun Q μ a w K hR hT hd hK => wpOp_aop hc hj hw h1 hR hT hK, d1, d2, fun i => ?_, ⟨h2.symm, by simp only [mkStp, h2]; exact h.le⟩, rfl, vf.1, vf.2.1, vf.2.2.1, vf.2.2.2⟩⟩
  have := h3 i
  rw [← h2] at this
  exact ⟨fun hi => this.trans (if_pos hi), fun hi => this.trans (if_neg hi)⟩
theorem sok_skip (hc : CxOK cx) {j : Nat} {o : Oper} {τ τ' : Tmps} {H : AHeap} (hj : ops[j]? = some o) (hw : awanted ops (restr τ (o.looksAt ops)) o = some false) (hp : aput N o.dst undef τ = some τ') : SOK cx N ops j (mkStp τ H [] [] (viewL [] [] H) undef (o.looksAt ops) o) (τ', H) := by
  obtain ⟨d1, d2⟩ := aput_dst hp
  have vf := view_facts (H := H) (W := []) (F := []) rfl (fun _ h => h)
  refine ⟨fun Q μ a w K hR hT hd hK => wpOp_skip hj hw hT (hK μ w undef (.undef μ) hR (Tn.refl hR)), d1, d2, fun i => ⟨?_, fun _ => rfl⟩, ⟨rfl, Nat.le_refl _⟩, rfl, vf.1, vf.2.1, vf.2.2.1, vf.2.2.2⟩
  rintro (hi | hi)
  · cases hi
  · exact absurd (show H.next ≤ i ∧ i < H.next from hi) (by omega)
/-- A call that is ordered against all that touches memory. -/
def mkCall (τ : Tmps) (H R : AHeap) (v : Value) (rd : List Nat) (o : Oper) : Stp := ⟨τ, H, H, R, v, .but [], none, rd, o⟩
theorem sok_call (hc : CxOK cx) {call : Calling} (hcall : CallOK cx call) {j : Nat} {o : Oper} {τ τ' : Tmps} {H R : AHeap} {g : FuncId} {vs : List Value} {v : Value} (hj : ops[j]? = some o) (hw : awanted ops (restr τ (o.looksAt ops)) o = some true)
    (hg : acallee cx.G (restr τ (o.looksAt ops)) o.op = some (g, vs)) (hr : call g vs H = some (v, R)) (hn : H.next ≤ R.next) (hp : aput N o.dst v τ = some τ') : SOK cx N ops j (mkCall τ H R v (o.looksAt ops) o) (τ', R) := by
  obtain ⟨d1, d2⟩ := aput_dst hp
  refine ⟨fun Q μ a w K hR hT hd hK => wpOp_call hc hcall hj hw hg hr hR hT hK, d1, d2, fun i => ⟨fun _ => rfl, fun hi => ?_⟩, ⟨rfl, hn⟩, rfl, fun i o' hi => ⟨⟨rfl, AHeap.get_lt hi⟩, o', hi, .inl rfl⟩, fun i o hi _ => AHeap.get_lt hi, fun k ok i hk ha hi h => h, fun i hi => ⟨⟨rfl, hi⟩, rfl⟩⟩
  have h1 : ¬ i < H.next := fun h => hi (.inl h)
  have h2 : ¬ i < R.next := fun h => hi (.inr ⟨Nat.le_of_not_lt h1, h⟩)
  show R.get i = H.get i
  rw [AHeap.get_out (Nat.le_of_not_lt h1), AHeap.get_out (Nat.le_of_not_lt h2)]
/-- A call that needs none of the memory. -/
theorem sok_callN (hc : CxOK cx) {call : Calling} (hcall : CallOK cx call) {j : Nat} {o : Oper} {τ τ' : Tmps} {H H' : AHeap} {g : FuncId} {vs : List Value} {F W : List Nat} {v : Value} (hj : ops[j]? = some o) (hw : awanted ops (restr τ (o.looksAt ops)) o = some true)
    (hg : acallee cx.G (restr τ (o.looksAt ops)) o.op = some (g, vs)) (h : Local (call g vs) H F W v H') (hp : aput N o.dst v τ = some τ') : ∃ R, R.next = H'.next ∧ SOK cx N ops j (mkStp τ H F W R v (o.looksAt ops) o) (τ', H') := by
  obtain ⟨R, h1, h2, h3⟩ := h.run
  obtain ⟨d1, d2⟩ := aput_dst hp
  have vf := view_facts (F := W ++ F) h.okw (fun i hi => List.mem_append_left _ hi)
  refine ⟨R, h2, ⟨fun Q μ a w K hR hT hd hK => wpOp_call hc hcall hj hw hg h1 hR hT hK, d1, d2, fun i => ?_, ⟨h2.symm, by simp only [mkStp, h2]; exact h.le⟩, rfl, vf.1, vf.2.1, vf.2.2.1, vf.2.2.2⟩⟩
  have := h3 i
  rw [← h2] at this
  exact ⟨fun hi => this.trans (if_pos hi), fun hi => this.trans (if_neg hi)⟩

theorem clashNew_ids {F : List Nat} {n a b : Nat} (h : ∀ i ∈ F, i < a ∨ b ≤ i) : clashNew (.ids F) n a b = false := by
  simp only [clashNew, List.any_eq_false]
  intro i hi hh
  have := inR_iff.1 hh
  have := h i hi
  omega
theorem noclash_of {F W : List Nat} {n : Nat} {k : Stp} (hk : k.wr = some W) (h1 : ∀ i ∈ F, i ∉ W) (h2 : ∀ i ∈ F, i < k.h.next ∨ k.R.next ≤ i) : noclash (.ids F) n k = true := by
  unfold noclash
  rw [hk]
  simp only [Bool.and_eq_true, List.all_eq_true, Bool.or_eq_true, Bool.not_eq_true']
  refine ⟨fun i hi => .inl ?_, clashNew_ids h2⟩
  cases h : Foot.has (.ids F) i with
  | false => rfl
  | true => exact absurd hi (h1 i (inL_iff.1 h))
theorem apart_ok {s t : Stp} {e e' : Eff} (hs : effOf s = some e) (ht : effOf t = some e') (h : apart e e') : noclash s.foot s.h.next t = true ∧ noclash t.foot t.h.next s = true := by
  unfold effOf at hs ht
  split at hs
  · rename_i F W f1 f2
    split at ht
    · rename_i F' W' g1 g2
      injection hs with hs; injection ht with ht
      subst hs; subst ht
      rw [f1, g1]
      exact ⟨noclash_of g2 h.1.1 h.1.2, noclash_of f2 h.2.1 h.2.2⟩
    · injection ht with ht; subst ht; injection hs with hs; subst hs; cases h
    · cases ht
  · injection hs with hs; subst hs; cases h
  · cases hs

/-! ### The wp of such a region -/
/-- A place's row. -/
def ptrW (v : Value) (k : Nat → Prop) : Prop := match v with | .pointer (some a) => k a.block | _ => False
def mapW (v : Value) (k : List Nat → Prop) : Prop := match v with | .map none => k [] | .map (some r) => k [r] | _ => False
theorem ptrW_ptr (b o : Nat) (sp : Option Nat) (k : Nat → Prop) : ptrW (.pointer (some ⟨b, o, sp⟩)) k = k b := id rfl
theorem mapW_some (r : Nat) (k : List Nat → Prop) : mapW (.map (some r)) k = k [r] := id rfl
@[congr] theorem ptrW_congr {v v' : Value} {k : Nat → Prop} (h : v = v') : ptrW v k = ptrW v' k := by rw [h]
@[congr] theorem mapW_congr {v v' : Value} {k : List Nat → Prop} (h : v = v') : mapW v k = mapW v' k := by rw [h]
/-- What a slice's row is, with those that it may have grown out of. -/
def rowsOf (H : AHeap) (v : Value) : List Nat := match v with
  | .slice (some a) _ _ => (match H.get a.block with | some o => a.block :: o.par | none => [])
  | _ => []
def rowOf (v : Value) : List Nat := match v with
  | .slice (some a) _ _ => [a.block]
  | _ => []

def nlW (v : Value) (k : Value → Prop) : Prop := match v with | .pointer (some p) => k (.pointer (some p)) | _ => False
def cvW (cx : Cx) (s d : TypeId) (v : Value) (H : AHeap) (k : Value → Prop) : Prop := match v with
  | .int i n => bindR (aConv cx.T s d (.int i n) (viewL [] [] H)) fun u R => R = viewL [] [] H ∧ k u
  | _ => False
def apW (cx : Cx) (ts : Array TypeId) (vs : List Value) (H : AHeap) (K : Value → AHeap → Eff → Prop) : Prop := match vs with
  | [s, x] => bindR (aBuiltin cx.P cx.T .append ts [s, x] H) fun u H' => K u H' (.some (rowsOf H s ++ rowOf x) (rowsOf H s) H.next H'.next)
  | _ => False
def lnW (cx : Cx) (ts : Array TypeId) (vs : List Value) (H : AHeap) (k : Value → Prop) : Prop := match vs with
  | [.slice a n c] => bindR (aBuiltin cx.P cx.T .len ts [.slice a n c] H) fun u _ => k u
  | [.string s] => bindR (aBuiltin cx.P cx.T .len ts [.string s] H) fun u _ => k u
  | _ => False
/-- What a call may look at that was handed these: their rows, and what lies right behind them. -/
def refOf (v : Value) : List Nat := match v with
  | .pointer (some a) => [a.block]
  | .slice (some a) _ _ => [a.block]
  | .map (some r) => [r]
  | _ => []
def behindOf (H : AHeap) (b : Nat) : List Nat := match H.get b with
  | some (.cells cs _ _ _) => cs.flatMap refOf
  | _ => []
def reach : List Value → AHeap → List Nat
  | [], _ => []
  | v :: l, H => (refOf v ++ (refOf v).flatMap (behindOf H)) ++ reach l H
theorem reach_nil (H : AHeap) : reach [] H = [] := id rfl
def clW (cx : Cx) (near : Bool) (fv : Value) (vs : List Value) (H : AHeap) (K : Value → AHeap → Eff → Prop) : Prop := match fv with
  | .func (.func g) first cap => bif near then bindR (callS cx g (first.toList ++ vs ++ cap.toList) H) fun u H' => Local (callS cx g (first.toList ++ vs ++ cap.toList)) H (reach (first.toList ++ vs ++ cap.toList) H) [] u H' ∧ K u H' (.some (reach (first.toList ++ vs ++ cap.toList) H) [] H.next H'.next)
      else bindR (callS cx g (first.toList ++ vs ++ cap.toList) H) fun u R => H.next ≤ R.next ∧ K u R .all
  | _ => False
@[congr] theorem nlW_congr {v v' : Value} {k : Value → Prop} (h : v = v') : nlW v k = nlW v' k := by rw [h]
@[congr] theorem cvW_congr {cx : Cx} {s d : TypeId} {v v' : Value} {H : AHeap} {k : Value → Prop} (h : v = v') : cvW cx s d v H k = cvW cx s d v' H k := by rw [h]
@[congr] theorem apW_congr {cx : Cx} {ts : Array TypeId} {vs vs' : List Value} {H : AHeap} {K : Value → AHeap → Eff → Prop} (h : vs = vs') : apW cx ts vs H K = apW cx ts vs' H K := by rw [h]
@[congr] theorem lnW_congr {cx : Cx} {ts : Array TypeId} {vs vs' : List Value} {H : AHeap} {k : Value → Prop} (h : vs = vs') : lnW cx ts vs H k = lnW cx ts vs' H k := by rw [h]
@[congr] theorem clW_congr {cx : Cx} {near : Bool} {fv fv' : Value} {vs vs' : List Value} {H : AHeap} {K : Value → AHeap → Eff → Prop} (h : fv = fv') (h2 : vs = vs') : clW cx near fv vs H K = clW cx near fv' vs' H K := by rw [h, h2]
theorem nlW_ptr (a : Addr) (k : Value → Prop) : nlW (.pointer (some a)) k = k (.pointer (some a)) := id rfl
theorem cvW_int (cx : Cx) (s d : TypeId) (i : IntKind) (n : Int) (H : AHeap) (k : Value → Prop) : cvW cx s d (.int i n) H k = bindR (aConv cx.T s d (.int i n) (viewL [] [] H)) fun u R => R = viewL [] [] H ∧ k u := id rfl
theorem apW_two (cx : Cx) (ts : Array TypeId) (s x : Value) (H : AHeap) (K : Value → AHeap → Eff → Prop) : apW cx ts [s, x] H K = bindR (aBuiltin cx.P cx.T .append ts [s, x] H) fun u H' => K u H' (.some (rowsOf H s ++ rowOf x) (rowsOf H s) H.next H'.next) := id rfl
theorem lnW_slice (cx : Cx) (ts : Array TypeId) (a : Option Addr) (n c : Nat) (H : AHeap) (k : Value → Prop) : lnW cx ts [.slice a n c] H k = bindR (aBuiltin cx.P cx.T .len ts [.slice a n c] H) fun u _ => k u := id rfl
theorem lnW_string (cx : Cx) (ts : Array TypeId) (s : ByteArray) (H : AHeap) (k : Value → Prop) : lnW cx ts [.string s] H k = bindR (aBuiltin cx.P cx.T .len ts [.string s] H) fun u _ => k u := id rfl
theorem clW_far (cx : Cx) (g : FuncId) (vs : List Value) (H : AHeap) (K : Value → AHeap → Eff → Prop) : clW cx false (.func (.func g) #[] #[]) vs H K = bindR (callS cx g vs H) fun u R => H.next ≤ R.next ∧ K u R .all := by simp [clW]
theorem clW_near (cx : Cx) (g : FuncId) (vs : List Value) (H : AHeap) (K : Value → AHeap → Eff → Prop) : clW cx true (.func (.func g) #[] #[]) vs H K = bindR (callS cx g vs H) fun u H' => Local (callS cx g vs) H (reach vs H) [] u H' ∧ K u H' (.some (reach vs H) [] H.next H'.next) := by simp [clW]
/-- An operation on what is read; what it touches. -/
def regOp (cx : Cx) (near : Bool) (op : Op) (τ : Tmps) (H : AHeap) (K : Value → AHeap → Eff → Prop) (Kp : Value → Prop) : Prop := match op with
  | .load t x => bindV (aeval cx.G τ x) fun v => ptrW v fun b => bindR (aLoad cx.T t v H) fun u _ => K u H (.some [b] [] 0 0)
  | .lookup t x i ok => bindV (aeval cx.G τ x) fun m => bindV (aeval cx.G τ i) fun k => mapW m fun bs => bindV (aLookup cx.P cx.T t m k ok H) fun u => K u H (.some bs [] 0 0)
  | .alloc t => bindR (aAlloc cx.T t H) fun u H' => K u H' (.some [] [] H.next H'.next)
  | .box _ x => bindV (aeval cx.G τ x) fun v => bindR (aBox v H) fun u H' => K u H' (.some [] [] H.next H'.next)
  | .buildSlice t n ps => bindP (aparts cx.G τ ps.toList) fun vs => bindR (aBuildSlice cx.T t n vs H) fun u H' => K u H' (.some [] [] H.next H'.next)
  | .store t x y => bindV (aeval cx.G τ x) fun v => bindV (aeval cx.G τ y) fun u => ptrW v fun b => bindH (aStore cx.T t v u H) fun H' => (∀ cs ro par gs, H.get b = some (.cells cs ro par gs) → par = []) ∧ K undef H' (.some [b] [b] 0 0)
  | .mapUpdate t m k x => bindV (aeval cx.G τ m) fun v => bindV (aeval cx.G τ k) fun u => bindV (aeval cx.G τ x) fun y => mapW v fun bs => bindH (aMapUpdate cx.P cx.T t v u y H) fun H' => K undef H' (.some bs bs 0 0)
  | .mapEntry t m k => bindV (aeval cx.G τ m) fun v => bindV (aeval cx.G τ k) fun u => mapW v fun bs => bindR (aMapEntry cx.P cx.T t v u H) fun r H' => K r H' (.some bs bs 0 0)
  | .entryStore _ m s x => bindV (aeval cx.G τ m) fun v => bindV (aeval cx.G τ s) fun u => bindV (aeval cx.G τ x) fun y => mapW v fun bs => bindH (aEntryStore v u y H) fun H' => K undef H' (.some bs bs 0 0)
  | .call { callee := .builtin .append, args, argTypes } => bindL (aevals cx.G τ args.toList) fun vs => apW cx argTypes vs H K
  | .call { callee := .builtin .len, args, argTypes } => bindL (aevals cx.G τ args.toList) fun vs => lnW cx argTypes vs H Kp
  | .call { callee := .value f, args, .. } => bindV (aeval cx.G τ f) fun fv => bindL (aevals cx.G τ args.toList) fun vs => clW cx near fv vs H K
  | .binOp op t x y t2 => bindV (aeval cx.G τ x) fun v => bindV (aeval cx.G τ y) fun u => bindV ((aBin cx.P cx.T op t x y v u (viewL [] [] H)).bind fun v => if flat 1 v then some v else none) fun r => Kp r
  | .move x | .assign x => bindV (aeval cx.G τ x) Kp
  | .pick c x y => ifW (aeval cx.G τ c) (bindV (aeval cx.G τ x) Kp) (bindV (aeval cx.G τ y) Kp)
  | .build t ps => bindP (aparts cx.G τ ps.toList) fun vs => bindV (aBuild cx.T t vs) Kp
  | .nilCheck x => bindV (aeval cx.G τ x) fun v => nlW v Kp
  | .unOp op _ x => bindV (aeval cx.G τ x) fun v => bindV ((aUn cx.P op v).bind fun v => if flat 1 v then some v else none) Kp
  | .convert s d x => bindV (aeval cx.G τ x) fun v => cvW cx s d v H Kp
  | .fieldAddr t x f => bindV (aeval cx.G τ x) fun v => bindV (aFieldAddr cx.T t v f) Kp
  | .field t x f => bindV (aeval cx.G τ x) fun v => bindV (aField cx.T t v f) Kp
  | .indexAddr t x i => bindV (aeval cx.G τ x) fun v => bindV (aeval cx.G τ i) fun u => bindV (aIndexAddr cx.T t v u) Kp
  | .index t x i => bindV (aeval cx.G τ x) fun v => bindV (aeval cx.G τ i) fun u => bindV (aIndex cx.T t v u) Kp
  | .extract x i => bindV (aeval cx.G τ x) fun v => bindV (aExtract v i) Kp
  | _ => False

abbrev Info := List (List Nat × List Nat × Bool)
/-- Through a region's operations; 'inf': of each, the places that it looks at, those ahead of it that no edge orders with it, whether it is a call that needs none of the memory. -/
def regL (cx : Cx) (N : Nat) (ops : List Oper) (K : Tmps → AHeap → Prop) : List Oper → Info → Nat → List (Nat × Eff) → Tmps → AHeap → Prop
  | [], _, _, _, τ, H => K τ H
  | o :: l, (rd, un, near) :: inf, j, prev, τ, H =>
    let yes := regOp cx near o.op (restr τ rd) H
      (fun v H' e => clean un prev e ∧ match o.dst with
        | none => regL cx N ops K l inf (j + 1) ((j, e) :: prev) τ H'
        | some d => d < N ∧ regL cx N ops K l inf (j + 1) ((j, e) :: prev) (τ.put d (some v)) H')
      (fun v => match o.dst with
        | none => regL cx N ops K l inf (j + 1) prev τ H
        | some d => d < N ∧ regL cx N ops K l inf (j + 1) prev (τ.put d (some v)) H)
    let no := match o.dst with
        | none => regL cx N ops K l inf (j + 1) prev τ H
        | some d => d < N ∧ regL cx N ops K l inf (j + 1) prev (τ.put d (some undef)) H
    match o.guard with
    | none => yes
    | some (g, w) => gdW (dstV ops g (restr τ rd)) w yes no
  | _ :: _, [], _, _, _, _ => False

/-! ### Places -/
def noTo (rd : List Nat) (o t : Oper) : Bool := match t.dst with
  | none => true
  | some d => !(inL rd d) && !(match o.dst with | some d' => Nat.beq d d' | none => false)
def statPrev (M : List Nat) (j : Nat) (rd un : List Nat) (o : Oper) : List Oper → Info → Nat → Bool
  | o' :: l, (rd', _, _) :: inf, k => (Nat.ble j k || ((M.getD j 0).testBit k || (inL un k && noTo rd' o' o && noTo rd o o'))) && statPrev M j rd un o l inf (k + 1)
  | _, _, _ => true
def statGo (M : List Nat) (ops : Array Oper) (inf0 : Info) : List Oper → Info → Nat → Bool
  | [], _, _ => true
  | o :: l, (rd, un, _) :: inf, j => (rd == o.looksAt ops) && statPrev M j rd un o ops.toList inf0 0 && statGo M ops inf0 l inf (j + 1)
  | _ :: _, [], _ => false
def statAll (ops : Array Oper) (inf : Info) : Bool := match masksGo ops.toList [] with
  | M => Nat.beq M.length ops.size && ordOkGo M ops.toList 0 && statGo M ops inf ops.toList inf 0

section
variable {cx : Cx} {N : Nat} {ops : Array Oper}
theorem loadN_view {W F : List Nat} {H : AHeap} {b o n : Nat} {sp : Option Nat} (hb : b ∈ W ∨ b ∈ F) : loadN (viewL W F H) ⟨b, o, sp⟩ n = loadN H ⟨b, o, sp⟩ n := by
  unfold loadN
  simp only [get_viewL]
  by_cases h1 : b ∈ W
  · rw [if_pos (inL_iff.2 h1)]
  · rw [if_neg (by rw [inL_iff]; exact h1), if_pos (inL_iff.2 (hb.resolve_left h1))]
    cases H.get b with
    | none => rfl
    | some ob => cases ob <;> rfl
theorem view_next (W F : List Nat) (H : AHeap) : (viewL W F H).next = H.next := rfl
theorem view_at {W F : List Nat} {H : AHeap} {i : Nat} (h : i ∈ W) : (viewL W F H).get i = H.get i := by rw [get_viewL, if_pos (inL_iff.2 h)]

variable {f : AHeap → Option (Value × AHeap)} {H : AHeap} {v : Value}
theorem Local.same {F : List Nat} (h : f (viewL [] F H) = some (v, viewL [] F H)) : Local f H F [] v H :=
  ⟨⟨_, h, rfl, fun i => by rw [if_neg]; simp⟩, Nat.le_refl _, rfl⟩
theorem Local.new {o : AObj} (h : ∀ E : AHeap, E.next = H.next → f E = some (v, E.new o)) : Local f H [] [] v (H.new o) :=
  ⟨⟨_, h _ (view_next ..), rfl, fun i => by
    rw [AHeap.get_new]
    by_cases e : i = H.next
    · rw [if_pos e, if_pos (.inr (by simp [e])), AHeap.get_new, if_pos (by rw [e]; rfl)]
    · rw [if_neg e, if_neg]
      simp; omega⟩, by simp, rfl⟩
theorem Local.set {r : Nat} {o : AObj} (h : ∀ E : AHeap, E.next = H.next → E.get r = H.get r → f E = some (v, E.set r o)) (hr : r < H.next) (hp : ∀ o, H.get r = some o → o.par = []) : Local f H [] [r] v (H.set r o) :=
  ⟨⟨_, h _ (view_next ..) (view_at (by simp)), rfl, fun i => by
    rw [AHeap.get_set _ _ _ _ hr]
    by_cases e : i = r
    · rw [if_pos e, if_pos (.inl (by simp [e])), AHeap.get_set _ _ _ _ (show r < (viewL [r] ([r] ++ []) H).next from hr), if_pos e]
    · rw [if_neg e, if_neg]
      simp; omega⟩, Nat.le_refl _, by
    simp only [okW, List.all_cons, List.all_nil, Bool.and_true, Bool.and_eq_true]
    refine ⟨by simpa [Nat.blt_eq] using hr, ?_⟩
    cases hg : H.get r with
    | none => rfl
    | some ob => simp [hp ob hg]⟩

theorem aLoad_local {T : Tb} {t : TypeId} {b o : Nat} {sp : Option Nat} {u : Value} {H' : AHeap} (h : aLoad T t (.pointer (some ⟨b, o, sp⟩)) H = some (u, H')) : H' = H ∧ aLoad T t (.pointer (some ⟨b, o, sp⟩)) (viewL [] [b] H) = some (u, viewL [] [b] H) := by
  unfold aLoad at h ⊢
  simp only [loadN_view (W := []) (F := [b]) (H := H) (.inr (List.mem_singleton.2 rfl))] at h ⊢
  split at h
  · rename_i d i hd hi
    split at h
    · rename_i hag
      obtain ⟨vs, hvs, h⟩ := Option.map_eq_some_iff.1 h
      injection h with h1 h2
      subst h1; subst h2
      exact ⟨rfl, by rw [if_pos hag, hvs]; rfl⟩
    · rename_i hag
      split at h
      · rename_i v hv
        injection h with h
        injection h with h1 h2
        subst h1; subst h2
        exact ⟨rfl, by rw [if_neg hag]⟩
      · cases h
  · cases h
theorem aLookup_local {P : Program} {T : Tb} {t : TypeId} {m k u : Value} {ok : Bool} {bs : List Nat} (hm : m = .map none ∧ bs = [] ∨ ∃ r, m = .map (some r) ∧ bs = [r]) (h : aLookup P T t m k ok H = some u) : aLookup P T t m k ok (viewL [] bs H) = some u := by
  rw [← h]
  rcases hm with ⟨rfl, rfl⟩ | ⟨r, rfl, rfl⟩
  · rfl
  · unfold aLookup
    have : (viewL [] [r] H).get r = (H.get r).bind AObj.shut := by rw [get_viewL, if_neg (by simp [inL]), if_pos (by simp [inL])]
    simp only [this]
    cases H.get r with
    | none => rfl
    | some ob => cases ob <;> rfl
theorem aNew_inv {cs : List Value} {gs : Nat} {r : Value × AHeap} (h : aNew cs gs H = some r) : cs.all one = true ∧ r = (.pointer (some ⟨H.next, 0, none⟩), H.new (.cells cs false [] gs)) := by
  unfold aNew at h
  split at h
  · rename_i h1; injection h with h; exact ⟨h1, h.symm⟩
  · cases h

theorem aStore_inv {T : Tb} {t : TypeId} {b o : Nat} {sp : Option Nat} {u : Value} {H' : AHeap} (h : aStore T t (.pointer (some ⟨b, o, sp⟩)) u H = some H') (hp : ∀ cs ro par gs, H.get b = some (.cells cs ro par gs) → par = []) :
    b < H.next ∧ (∀ ob, H.get b = some ob → ob.par = []) ∧ ∃ o', H' = H.set b o' ∧ ∀ E : AHeap, E.next = H.next → E.get b = H.get b → aStore T t (.pointer (some ⟨b, o, sp⟩)) u E = some (E.set b o') := by
  unfold aStore at h ⊢
  simp only at h ⊢
  split at h
  · rename_i i hi
    split at h
    · rename_i hk
      unfold storeN at h ⊢
      simp only at h ⊢
      split at h
      · rename_i cs ro par gs hg
        have := hp _ _ _ _ hg
        subst this
        split at h
        · rename_i hc
          injection h with h
          refine ⟨AHeap.get_lt hg, fun ob hob => by rw [hg] at hob; injection hob with hob; subst hob; rfl, _, h.symm, fun E _ hE => ?_⟩
          rw [if_pos hk, hE, hg]
          simp only
          rw [if_pos hc]
          rfl
        · cases h
      · cases h
    · cases h
  · cases h
theorem aMapUpdate_inv {P : Program} {T : Tb} {t : TypeId} {m k u : Value} {H' : AHeap} (h : aMapUpdate P T t m k u H = some H') :
    ∃ r, m = .map (some r) ∧ r < H.next ∧ (∀ ob, H.get r = some ob → ob.par = []) ∧ ∃ o', H' = H.set r o' ∧ ∀ E : AHeap, E.next = H.next → E.get r = H.get r → aMapUpdate P T t m k u E = some (E.set r o') := by
  unfold aMapUpdate at h ⊢
  split at h
  · rename_i kt e r hu
    split at h
    · rename_i es ck hg
      split at h
      · rename_i hf
        have hr := AHeap.get_lt hg
        have hpar : ∀ ob, H.get r = some ob → ob.par = [] := fun ob hob => by rw [hg] at hob; injection hob with hob; subst hob; rfl
        split at h
        · rename_i x1 j c1 c2
          split at h
          · rename_i hb
            injection h with h
            refine ⟨r, rfl, hr, hpar, _, h.symm, fun E _ hE => ?_⟩
            simp only [hu, hE, hg, if_pos hf, c1, c2]
            rw [if_pos hb]
          · cases h
        · rename_i x1 c1 c2
          injection h with h
          refine ⟨r, rfl, hr, hpar, _, h.symm, fun E _ hE => ?_⟩
          simp only [hu, hE, hg, if_pos hf, c1, c2]
        · cases h
      · cases h
    · cases h
  · cases h
theorem aMapEntry_inv {P : Program} {T : Tb} {t : TypeId} {m k v : Value} {H' : AHeap} (h : aMapEntry P T t m k H = some (v, H')) :
    ∃ r, m = .map (some r) ∧ r < H.next ∧ (∀ ob, H.get r = some ob → ob.par = []) ∧ ∃ o', H' = H.set r o' ∧ ∀ E : AHeap, E.next = H.next → E.get r = H.get r → aMapEntry P T t m k E = some (v, E.set r o') := by
  unfold aMapEntry at h ⊢
  split at h
  · rename_i kt e r hu
    split at h
    · rename_i es ck hg
      split at h
      · rename_i hf
        have hr := AHeap.get_lt hg
        have hpar : ∀ ob, H.get r = some ob → ob.par = [] := fun ob hob => by rw [hg] at hob; injection hob with hob; subst hob; rfl
        split at h
        · rename_i x1 j c1 c2
          split at h
          · rename_i hb
            injection h with h
            injection h with h1 h2
            refine ⟨r, rfl, hr, hpar, _, h2.symm, fun E _ hE => ?_⟩
            simp only [hu, hE, hg, if_pos hf, c1, c2]
            rw [if_pos hb, h1]
          · cases h
        · rename_i x1 c1 c2
          obtain ⟨z, hz, h⟩ := Option.map_eq_some_iff.1 h
          injection h with h1 h2
          refine ⟨r, rfl, hr, hpar, _, h2.symm, fun E _ hE => ?_⟩
          simp only [hu, hE, hg, if_pos hf, c1, c2, hz, Option.map_some, h1]
        · cases h
      · cases h
    · cases h
  · cases h
theorem aEntryStore_inv {m s u : Value} {H' : AHeap} (h : aEntryStore m s u H = some H') :
    ∃ r, m = .map (some r) ∧ r < H.next ∧ (∀ ob, H.get r = some ob → ob.par = []) ∧ ∃ o', H' = H.set r o' ∧ ∀ E : AHeap, E.next = H.next → E.get r = H.get r → aEntryStore m s u E = some (E.set r o') := by
  unfold aEntryStore at h ⊢
  split at h
  · rename_i r k n
    split at h
    · rename_i es ck hg
      obtain ⟨j, hj, h⟩ := Option.map_eq_some_iff.1 h
      refine ⟨r, rfl, AHeap.get_lt hg, fun ob hob => by rw [hg] at hob; injection hob with hob; subst hob; rfl, _, h.symm, fun E _ hE => ?_⟩
      simp only [hE, hg, hj, Option.map_some]
    · cases h
  · cases h

theorem Local.of {F W : List Nat} {H' R : AHeap} (h : f (viewL W (W ++ F) H) = some (v, R)) (hn : R.next = H'.next) (hle : H.next ≤ H'.next) (h1 : ∀ i, i ∈ W → R.get i = H'.get i) (h2 : ∀ i, H.next ≤ i → i < H'.next → R.get i = H'.get i)
    (h3 : ∀ i, i ∉ W → i < H.next → H'.get i = H.get i) (hw : okW H W = true) : Local f H F W v H' :=
  ⟨⟨R, h, hn, fun i => by
    by_cases e1 : i ∈ W
    · rw [if_pos (.inl e1), h1 i e1]
    · by_cases e2 : H.next ≤ i ∧ i < H'.next
      · rw [if_pos (.inr e2), h2 i e2.1 e2.2]
      · rw [if_neg (by rintro (h | h); exact e1 h; exact e2 h)]
        rcases Nat.lt_or_ge i H.next with e3 | e3
        · exact h3 i e1 e3
        · rw [AHeap.get_out e3, AHeap.get_out]
          rcases Nat.lt_or_ge i H'.next with e4 | e4
          · exact absurd ⟨e3, e4⟩ e2
          · exact e4⟩, hle, hw⟩

/-- Nothing that a row has grown out of is written any more. -/
def Grew (H : AHeap) : Prop := ∀ i o, H.get i = some o → ∀ p, p ∈ o.par → p < H.next ∧ ∀ q, H.get p = some q → q.alive = false
theorem rows_okW (hg : Grew H) (s : Value) : okW H (rowsOf H s) = true := by
  unfold rowsOf
  split
  · rename_i a l c
    cases ha : H.get a.block with
    | none => rfl
    | some o =>
      simp only [okW, List.all_cons, Bool.and_eq_true, List.all_eq_true]
      refine ⟨⟨by simpa [Nat.blt_eq] using AHeap.get_lt ha, ?_⟩, fun p hp => ?_⟩
      · rw [ha]
        simp only [Bool.or_eq_true, List.all_eq_true]
        exact .inr fun x hx => inL_iff.2 (List.mem_cons_of_mem _ hx)
      · obtain ⟨h1, h2⟩ := hg _ o ha p hp
        refine ⟨by simpa [Nat.blt_eq] using h1, ?_⟩
        cases hq : H.get p with
        | none => rfl
        | some q => simp [h2 q hq]
  · rfl
theorem src_view {W F : List Nat} {size : Nat} {x : Value} (hx : ∀ i ∈ rowOf x, i ∈ F) : srcOf (viewL W F H) size x = srcOf H size x := by
  unfold srcOf
  split
  · rfl
  · rename_i a n c
    obtain ⟨b, o, sp⟩ := a
    rw [loadN_view (.inr (hx b (by simp [rowOf])))]
  · rfl
  · rfl
theorem aAppend_local {T : Tb} {t xt : TypeId} {s x : Value} {H' : AHeap} (hg : Grew H) (h : aAppend T t xt s x H = some (v, H')) : Local (aAppend T t xt s x) H (rowOf x) (rowsOf H s) v H' := by
  have hsrc : ∀ size, srcOf (viewL (rowsOf H s) (rowsOf H s ++ rowOf x) H) size x = srcOf H size x := fun size => src_view fun i hi => List.mem_append_right _ hi
  unfold aAppend at h
  split at h
  · rename_i e d hu hd
    split at h
    · cases h
    · rename_i hni
      split at h
      · rename_i i z hi hz
        split at h
        · cases h
        · rename_i h0
          split at h
          · rename_i n vs hs
            split at h
            · -- nil
              split at h
              · rename_i hn
                injection h with h; injection h with h1 h2
                subst h1; subst h2
                refine .of (R := viewL [] ([] ++ rowOf x) H) ?_ rfl (Nat.le_refl _) (fun i hi => by cases hi) (fun i h1 h2 => absurd h1 (by omega)) (fun _ _ _ => rfl) rfl
                show aAppend T t xt _ x (viewL [] ([] ++ rowOf x) H) = _
                have := hsrc i.size
                simp only [rowsOf] at this
                unfold aAppend
                simp only [hu, hd, hi, hz, if_neg hni, if_neg h0, this, hs, hn, if_true]
              · rename_i hn
                split at h
                · rename_i hby
                  obtain ⟨r, hr, h⟩ := Option.map_eq_some_iff.1 h
                  obtain ⟨hall, rfl⟩ := aNew_inv hr
                  injection h with h1 h2
                  subst h1; subst h2
                  refine .of (R := (viewL [] ([] ++ rowOf x) H).new (.cells vs false [] i.size)) ?_ rfl (by simp) (fun i hi => by cases hi) (fun j h1 h2 => ?_) (fun j _ h2 => by rw [AHeap.get_new, if_neg (by omega)]) rfl
                  · show aAppend T t xt _ x (viewL [] ([] ++ rowOf x) H) = _
                    have := hsrc i.size
                    simp only [rowsOf] at this
                    unfold aAppend
                    simp only [hu, hd, hi, hz, if_neg hni, if_neg h0, this, hs, if_neg hn, if_pos hby, aNew, if_pos hall, Option.map_some]
                    rfl
                  · have e : j = H.next := by simp at h2; omega
                    rw [AHeap.get_new, AHeap.get_new, view_next, if_pos e, if_pos e]
                · cases h
            · rename_i a l c
              have hok : okW H (rowsOf H (.slice (some a) l c)) = true := rows_okW hg _
              have hrows : ∀ o, H.get a.block = some o → rowsOf H (.slice (some a) l c) = a.block :: o.par := fun o ho => by unfold rowsOf; simp only [ho]
              generalize hW : rowsOf H (.slice (some a) l c) = W at *
              have hin : ∀ o, H.get a.block = some o → a.block ∈ W := fun o ho => by rw [hrows o ho]; simp
              have hput : ∀ off vs' H1, storeN H ⟨a.block, off, none⟩ vs' = some H1 → ∃ R, storeN (viewL W (W ++ rowOf x) H) ⟨a.block, off, none⟩ vs' = some R ∧ R.next = H1.next ∧ H1.next = H.next ∧ (∀ i, i ∈ W → R.get i = H1.get i) ∧ (∀ i, i ∉ W → i < H.next → H1.get i = H.get i) ∧ okW H W = true := by
                intro off vs' H1 h1
                unfold storeN at h1
                simp only at h1
                split at h1
                · rename_i cs ro par gs ho
                  unfold storeN
                  simp only [view_at (hin _ ho), ho]
                  split at h1
                  · rename_i hc
                    injection h1 with h1
                    subst h1
                    have hb := AHeap.get_lt ho
                    rw [if_pos hc]
                    have hWe : W = a.block :: par := hrows _ ho
                    refine ⟨_, rfl, by simp [view_next], by simp, fun j hj => ?_, fun j hj hlt => ?_, hok⟩
                    · rw [AHeap.get_set _ _ _ _ (by simpa [view_next] using hb), AHeap.get_set _ _ _ _ (by simpa using hb)]
                      by_cases e : j = a.block
                      · rw [if_pos e, if_pos e]
                      · rw [if_neg e, if_neg e, AHeap.get_dels, AHeap.get_dels]
                        have : j ∈ par := by rw [hWe] at hj; exact (List.mem_cons.1 hj).resolve_left e
                        rw [if_pos this, if_pos this]
                    · rw [hWe] at hj
                      rw [AHeap.get_set _ _ _ _ (by simpa using hb), if_neg (fun e => hj (by simp [e])), AHeap.get_dels, if_neg (fun e => hj (List.mem_cons_of_mem _ e))]
                  · cases h1
                · cases h1
              have hload : ∀ o, H.get a.block = some o → ∀ n, loadN (viewL W (W ++ rowOf x) H) a n = loadN H a n := fun o ho n => loadN_view (.inl (hin o ho))
              have none_ : ∀ n old, loadN H a n = some old → ∃ o, H.get a.block = some o := fun n old h => by
                unfold loadN at h
                split at h
                · rename_i ho; exact ⟨_, ho⟩
                · cases h
              have start : aAppend T t xt (.slice (some a) l c) x (viewL W (W ++ rowOf x) H) = (if n = 0 then some (.slice (some a) l c, viewL W (W ++ rowOf x) H) else
                  if c < grow then
                    if l + n ≤ c then (storeN (viewL W (W ++ rowOf x) H) ⟨a.block, a.off + l * i.size, none⟩ vs).map fun H' => (.slice (some a) (l + n) c, H')
                    else if (l + n) * i.bytes ≤ 140737488355328 then
                      (loadN (viewL W (W ++ rowOf x) H) a (l * i.size)).bind fun old => (aNew (old ++ vs) i.size (viewL W (W ++ rowOf x) H)).map fun r => (.slice (some ⟨(viewL W (W ++ rowOf x) H).next, 0, none⟩) (l + n) (grow + (l + n)), r.2)
                    else none
                  else if c < empt then
                    if l + n ≤ c - grow then (storeN (viewL W (W ++ rowOf x) H) ⟨a.block, a.off + l * i.size, none⟩ vs).map fun H' => (.slice (some a) (l + n) c, H')
                    else match (viewL W (W ++ rowOf x) H).get a.block with
                      | some (.cells cs false par gs) =>
                        if gs = i.size ∧ l = c - grow ∧ a.off + l * i.size = cs.length ∧ (l + n) * i.bytes ≤ 140737488355328 then
                          some (.slice (some ⟨(viewL W (W ++ rowOf x) H).next, 0, none⟩) (l + n) (grow + (l + n)), ((viewL W (W ++ rowOf x) H).set a.block (.cells cs true par gs)).new (.cells (cs.drop a.off ++ vs) false (a.block :: par) gs))
                        else none
                      | _ => none
                  else none) := by
                unfold aAppend
                simp only [hu, hd, hi, hz, if_neg hni, if_neg h0, hsrc i.size, hs]
                rfl
              split at h
              · rename_i hn
                injection h with h; injection h with h1 h2
                subst h1; subst h2
                exact .of (R := viewL W (W ++ rowOf x) H) (start.trans (by rw [if_pos hn])) rfl (Nat.le_refl _) (fun j hj => view_at hj) (fun j h1 h2 => absurd h1 (by omega)) (fun _ _ _ => rfl) hok
              · rename_i hn
                split at h
                · rename_i hc
                  split at h
                  · rename_i hfit
                    obtain ⟨H1, hst, h⟩ := Option.map_eq_some_iff.1 h
                    injection h with h1 h2
                    subst h1; subst h2
                    obtain ⟨R, r1, r2, r3, r4, r5, r6⟩ := hput _ _ _ hst
                    refine .of (R := R) (start.trans (by rw [if_neg hn, if_pos hc, if_pos hfit, r1]; rfl)) r2 (by omega) r4 (fun i h1 h2 => absurd h1 (by omega)) r5 r6
                  · rename_i hfit
                    split at h
                    · rename_i hby
                      obtain ⟨old, ho, h⟩ := Option.bind_eq_some_iff.1 h
                      obtain ⟨r, hr, h⟩ := Option.map_eq_some_iff.1 h
                      obtain ⟨hall, rfl⟩ := aNew_inv hr
                      injection h with h1 h2
                      subst h1; subst h2
                      obtain ⟨ob, hob⟩ := none_ _ _ ho
                      refine .of (R := (viewL W (W ++ rowOf x) H).new (.cells (old ++ vs) false [] i.size)) (start.trans ?_) rfl (by simp) (fun j hj => ?_) (fun j h1 h2 => ?_) (fun j _ h2 => by rw [AHeap.get_new, if_neg (by omega)]) hok
                      · rw [if_neg hn, if_pos hc, if_neg hfit, if_pos hby, hload _ hob, ho]
                        simp only [Option.bind_some, aNew, if_pos hall, Option.map_some, view_next]
                      · rw [AHeap.get_new, AHeap.get_new, view_next, view_at hj]
                      · have e : j = H.next := by simp at h2; omega
                        rw [AHeap.get_new, AHeap.get_new, view_next, if_pos e, if_pos e]
                    · cases h
                · rename_i hc
                  split at h
                  · rename_i hce
                    split at h
                    · rename_i hfit
                      obtain ⟨H1, hst, h⟩ := Option.map_eq_some_iff.1 h
                      injection h with h1 h2
                      subst h1; subst h2
                      obtain ⟨R, r1, r2, r3, r4, r5, r6⟩ := hput _ _ _ hst
                      refine .of (R := R) (start.trans (by rw [if_neg hn, if_neg hc, if_pos hce, if_pos hfit, r1]; rfl)) r2 (by omega) r4 (fun i h1 h2 => absurd h1 (by omega)) r5 r6
                    · rename_i hfit
                      split at h
                      · rename_i cs par gs ho
                        split at h
                        · rename_i hcond
                          injection h with h; injection h with h1 h2
                          subst h1; subst h2
                          have hb := AHeap.get_lt ho
                          refine .of (R := ((viewL W (W ++ rowOf x) H).set a.block (.cells cs true par gs)).new (.cells (cs.drop a.off ++ vs) false (a.block :: par) gs)) (start.trans ?_) rfl (by simp) (fun j hj => ?_) (fun j h1 h2 => ?_) (fun j hj h2 => ?_) hok
                          · rw [if_neg hn, if_neg hc, if_pos hce, if_neg hfit, view_at (hin _ ho), ho]
                            simp only [if_pos hcond, view_next]
                          · rw [AHeap.get_new, AHeap.get_new, AHeap.get_set _ _ _ _ (by simpa [view_next] using hb), AHeap.get_set _ _ _ _ hb, view_at hj]
                            rfl
                          · have e : j = H.next := by simp at h2; omega
                            rw [AHeap.get_new, AHeap.get_new, if_pos (by simpa [view_next] using e), if_pos (by simpa using e)]
                          · rw [AHeap.get_new, if_neg (by simp; omega), AHeap.get_set _ _ _ _ hb, if_neg (fun e => hj (by rw [e]; exact hin _ ho))]
                        · cases h
                      · cases h
                  · cases h
            · cases h
          · cases h
      · cases h
  · cases h
end
end
end Go.Eng
set_option linter.unusedVariables false
set_option linter.unusedSimpArgs false
namespace Go.Eng
open Go
section
variable {cx : Cx} {N : Nat} {ops : Array Oper}

theorem bindV_inv {r : Option Value} {k : Value → Prop} (h : bindV r k) : ∃ v, r = some v ∧ k v := by cases r with | none => cases h | some v => exact ⟨v, rfl, h⟩
theorem bindR_inv {r : Option (Value × AHeap)} {k : Value → AHeap → Prop} (h : bindR r k) : ∃ v H, r = some (v, H) ∧ k v H := by cases r with | none => cases h | some v => exact ⟨v.1, v.2, rfl, h⟩
theorem bindH_inv {r : Option AHeap} {k : AHeap → Prop} (h : bindH r k) : ∃ v, r = some v ∧ k v := by cases r with | none => cases h | some v => exact ⟨v, rfl, h⟩
theorem bindL_inv {r : Option (List Value)} {k : List Value → Prop} (h : bindL r k) : ∃ v, r = some v ∧ k v := by cases r with | none => cases h | some v => exact ⟨v, rfl, h⟩
theorem bindP_inv {r : Option (List (Nat × Value))} {k : List (Nat × Value) → Prop} (h : bindP r k) : ∃ v, r = some v ∧ k v := by cases r with | none => cases h | some v => exact ⟨v, rfl, h⟩
theorem ptrW_inv {v : Value} {k : Nat → Prop} (h : ptrW v k) : ∃ b o sp, v = .pointer (some ⟨b, o, sp⟩) ∧ k b := by
  unfold ptrW at h
  split at h
  · rename_i a; obtain ⟨b, o, sp⟩ := a; exact ⟨b, o, sp, rfl, h⟩
  · cases h
theorem mapW_inv {v : Value} {k : List Nat → Prop} (h : mapW v k) : ∃ bs, (v = .map none ∧ bs = [] ∨ ∃ r, v = .map (some r) ∧ bs = [r]) ∧ k bs := by
  unfold mapW at h
  split at h
  · exact ⟨[], .inl ⟨rfl, rfl⟩, h⟩
  · rename_i r; exact ⟨[r], .inr ⟨r, rfl, rfl⟩, h⟩
  · cases h

/-- A declared touch covers a true one. -/
def covers (e : Option Eff) (F W : List Nat) (a b : Nat) : Prop := match e with
  | none => F = [] ∧ W = [] ∧ a = b
  | some (.some F1 W1 a1 b1) => F1 = F ∧ W1 = W ∧ ((a1 = a ∧ b1 = b) ∨ (a = b ∧ a1 = 0 ∧ b1 = 0))
  | some .all => True
inductive RegRes (cx : Cx) (op : Op) (τ : Tmps) (H : AHeap) (v : Value) (H' : AHeap) (e : Option Eff) : Prop
  | pure : aop cx.P cx.T cx.G τ op (viewL [] [] H) = some (v, viewL [] [] H) → H' = H → e = none → RegRes cx op τ H v H' e
  | op {F W : List Nat} : aop cx.P cx.T cx.G τ op H = some (v, H') → Local (aop cx.P cx.T cx.G τ op) H F W v H' → covers e (W ++ F) W H.next H'.next → RegRes cx op τ H v H' e
  | call {g : FuncId} {vs : List Value} : acallee cx.G τ op = some (g, vs) → callS cx g vs H = some (v, H') → H.next ≤ H'.next → e = some .all → RegRes cx op τ H v H' e
  | near {g : FuncId} {vs : List Value} {F : List Nat} : acallee cx.G τ op = some (g, vs) → callS cx g vs H = some (v, H') → Local (callS cx g vs) H F [] v H' → covers e F [] H.next H'.next → RegRes cx op τ H v H' e

theorem aLen_slice (T : Tb) (t : TypeId) (a : Option Addr) (n c : Nat) (H E : AHeap) : aLen T t (.slice a n c) H = aLen T t (.slice a n c) E := by
  unfold aLen
  cases T.und t with
  | none => rfl
  | some d => cases d <;> rfl
theorem aLen_string (T : Tb) (t : TypeId) (s : ByteArray) (H E : AHeap) : aLen T t (.string s) H = aLen T t (.string s) E := by
  unfold aLen
  cases T.und t with
  | none => rfl
  | some d => cases d <;> rfl
theorem regOp_ok {near : Bool} {op : Op} {τ : Tmps} {H : AHeap} {K : Value → AHeap → Eff → Prop} {Kp : Value → Prop} (hg : Grew H) (h : regOp cx near op τ H K Kp) :
    (∃ v, Kp v ∧ RegRes cx op τ H v H none) ∨ ∃ v H' e, K v H' e ∧ RegRes cx op τ H v H' (some e) := by
  unfold regOp at h
  split at h
  · -- load
    obtain ⟨v, hv, h⟩ := bindV_inv h
    obtain ⟨b, o, sp, rfl, h⟩ := ptrW_inv h
    obtain ⟨u, H', hu, h⟩ := bindR_inv h
    obtain ⟨rfl, h2⟩ := aLoad_local hu
    exact .inr ⟨u, H', _, h, .op (F := [b]) (W := []) (by simp only [aop, hv, Option.bind_some]; exact hu) (.same (by simp only [aop, hv, Option.bind_some]; exact h2)) ⟨rfl, rfl, .inr ⟨rfl, rfl, rfl⟩⟩⟩
  · -- lookup
    obtain ⟨m, hm, h⟩ := bindV_inv h
    obtain ⟨k, hk, h⟩ := bindV_inv h
    obtain ⟨bs, hb, h⟩ := mapW_inv h
    obtain ⟨u, hu, h⟩ := bindV_inv h
    exact .inr ⟨u, H, _, h, .op (F := bs) (W := []) (by simp only [aop, hm, hk, Option.bind_some, hu]; rfl) (.same (by simp only [aop, hm, hk, Option.bind_some, aLookup_local hb hu]; rfl)) ⟨rfl, rfl, .inr ⟨rfl, rfl, rfl⟩⟩⟩
  · -- alloc
    obtain ⟨u, H', hu, h⟩ := bindR_inv h
    have hu' := hu
    unfold aAlloc at hu
    obtain ⟨z, hz, hu⟩ := Option.bind_eq_some_iff.1 hu
    obtain ⟨hall, he⟩ := aNew_inv hu
    injection he with h1 h2
    subst h1; subst h2
    exact .inr ⟨_, _, _, h, .op (F := []) (W := []) hu' (.new fun E hE => by simp only [aop, aAlloc, hz, Option.bind_some, aNew, if_pos hall, hE]) ⟨rfl, rfl, .inl ⟨rfl, rfl⟩⟩⟩
  · -- box
    obtain ⟨x, hx, h⟩ := bindV_inv h
    obtain ⟨u, H', hu, h⟩ := bindR_inv h
    have hu' := hu
    unfold aBox at hu
    split at hu
    · rename_i hk
      obtain ⟨hall, he⟩ := aNew_inv hu
      injection he with h1 h2
      subst h1; subst h2
      exact .inr ⟨_, _, _, h, .op (F := []) (W := []) (by simp only [aop, hx, Option.bind_some]; exact hu') (.new fun E hE => by simp only [aop, hx, Option.bind_some, aBox, if_pos hk, aNew, if_pos hall, hE]) ⟨rfl, rfl, .inl ⟨rfl, rfl⟩⟩⟩
    · cases hu
  · -- buildSlice
    rename_i t n ps
    obtain ⟨x, hx, h⟩ := bindP_inv h
    obtain ⟨u, H', hu, h⟩ := bindR_inv h
    have hu' := hu
    unfold aBuildSlice at hu
    split at hu
    · rename_i e he
      split at hu
      · rename_i i z hi hz
        split at hu
        · rename_i hc
          obtain ⟨cs, hcs, hu⟩ := Option.bind_eq_some_iff.1 hu
          obtain ⟨r, hr, hu⟩ := Option.map_eq_some_iff.1 hu
          obtain ⟨hall, rfl⟩ := aNew_inv hr
          injection hu with h1 h2
          subst h1; subst h2
          exact .inr ⟨_, _, _, h, .op (F := []) (W := []) (by simp only [aop, hx, Option.bind_some]; exact hu') (.new fun E hE => by
            simp only [aop, hx, Option.bind_some, aBuildSlice, he, hi, hz, if_pos hc, hcs, aNew, if_pos hall, Option.map_some, hE]) ⟨rfl, rfl, .inl ⟨rfl, rfl⟩⟩⟩
        · cases hu
      · cases hu
    · cases hu
  · -- store
    obtain ⟨v, hv, h⟩ := bindV_inv h
    obtain ⟨u, hu, h⟩ := bindV_inv h
    obtain ⟨b, o, sp, rfl, h⟩ := ptrW_inv h
    obtain ⟨H', hs, hp, h⟩ := bindH_inv h
    obtain ⟨hlt, hpar, o', rfl, hE⟩ := aStore_inv hs hp
    exact .inr ⟨_, _, _, h, .op (F := []) (W := [b]) (by simp only [aop, hv, hu, Option.bind_some, hs]; rfl) (.set (fun E h1 h2 => by simp only [aop, hv, hu, Option.bind_some, hE E h1 h2]; rfl) hlt hpar) ⟨rfl, rfl, .inr ⟨rfl, rfl, rfl⟩⟩⟩
  · -- mapUpdate
    obtain ⟨m, hm, h⟩ := bindV_inv h
    obtain ⟨k, hk, h⟩ := bindV_inv h
    obtain ⟨y, hy, h⟩ := bindV_inv h
    obtain ⟨bs, hb, h⟩ := mapW_inv h
    obtain ⟨H', hs, h⟩ := bindH_inv h
    obtain ⟨r, rfl, hlt, hpar, o', rfl, hE⟩ := aMapUpdate_inv hs
    rcases hb with ⟨hb, _⟩ | ⟨r', hb, rfl⟩
    · cases hb
    · injection hb with hb; injection hb with hb; subst hb
      exact .inr ⟨_, _, _, h, .op (F := []) (W := [r]) (by simp only [aop, hm, hk, hy, Option.bind_some, hs]; rfl) (.set (fun E h1 h2 => by simp only [aop, hm, hk, hy, Option.bind_some, hE E h1 h2]; rfl) hlt hpar) ⟨rfl, rfl, .inr ⟨rfl, rfl, rfl⟩⟩⟩
  · -- mapEntry
    obtain ⟨m, hm, h⟩ := bindV_inv h
    obtain ⟨k, hk, h⟩ := bindV_inv h
    obtain ⟨bs, hb, h⟩ := mapW_inv h
    obtain ⟨u, H', hs, h⟩ := bindR_inv h
    obtain ⟨r, rfl, hlt, hpar, o', rfl, hE⟩ := aMapEntry_inv hs
    rcases hb with ⟨hb, _⟩ | ⟨r', hb, rfl⟩
    · cases hb
    · injection hb with hb; injection hb with hb; subst hb
      exact .inr ⟨_, _, _, h, .op (F := []) (W := [r]) (by simp only [aop, hm, hk, Option.bind_some, hs]) (.set (fun E h1 h2 => by simp only [aop, hm, hk, Option.bind_some, hE E h1 h2]) hlt hpar) ⟨rfl, rfl, .inr ⟨rfl, rfl, rfl⟩⟩⟩
  · -- entryStore
    obtain ⟨m, hm, h⟩ := bindV_inv h
    obtain ⟨k, hk, h⟩ := bindV_inv h
    obtain ⟨y, hy, h⟩ := bindV_inv h
    obtain ⟨bs, hb, h⟩ := mapW_inv h
    obtain ⟨H', hs, h⟩ := bindH_inv h
    obtain ⟨r, rfl, hlt, hpar, o', rfl, hE⟩ := aEntryStore_inv hs
    rcases hb with ⟨hb, _⟩ | ⟨r', hb, rfl⟩
    · cases hb
    · injection hb with hb; injection hb with hb; subst hb
      exact .inr ⟨_, _, _, h, .op (F := []) (W := [r]) (by simp only [aop, hm, hk, hy, Option.bind_some, hs]; rfl) (.set (fun E h1 h2 => by simp only [aop, hm, hk, hy, Option.bind_some, hE E h1 h2]; rfl) hlt hpar) ⟨rfl, rfl, .inr ⟨rfl, rfl, rfl⟩⟩⟩
  · -- append
    rename_i args ts
    obtain ⟨vs, hvs, h⟩ := bindL_inv h
    unfold apW at h
    split at h
    · rename_i s x
      obtain ⟨u, H', hu, h⟩ := bindR_inv h
      have hap : ∃ t xt, ts.toList = [t, xt] := by
        unfold aBuiltin at hu
        rcases hts : ts.toList with _ | ⟨t, _ | ⟨xt, _ | ⟨y, l⟩⟩⟩
        · rw [hts] at hu; cases hu
        · rw [hts] at hu; cases hu
        · exact ⟨t, xt, rfl⟩
        · rw [hts] at hu; cases hu
      obtain ⟨t, xt, ht⟩ := hap
      have hb : ∀ E, aBuiltin cx.P cx.T .append ts [s, x] E = aAppend cx.T t xt s x E := fun E => by simp only [aBuiltin, ht]
      have hu' := hu
      rw [hb] at hu
      have hL := aAppend_local hg hu
      refine .inr ⟨u, H', _, h, .op (F := rowOf x) (W := rowsOf H s) (by simp only [aop, hvs, Option.bind_some]; exact hu') ?_ ⟨rfl, rfl, .inl ⟨rfl, rfl⟩⟩⟩
      have e : aop cx.P cx.T cx.G τ (.call { callee := .builtin .append, args := args, argTypes := ts }) = aAppend cx.T t xt s x := by
        funext E
        simp only [aop, hvs, Option.bind_some, hb]
      rw [e]
      exact hL
    · cases h
  · -- len
    rename_i args ts
    obtain ⟨vs, hvs, h⟩ := bindL_inv h
    unfold lnW at h
    split at h
    · rename_i a n c
      obtain ⟨u, H', hu, h⟩ := bindR_inv h
      refine .inl ⟨u, h, .pure ?_ rfl rfl⟩
      simp only [aop, hvs, Option.bind_some]
      unfold aBuiltin at hu ⊢
      rcases hts : ts.toList with _ | ⟨t, l⟩
      · rw [hts] at hu; cases hu
      · rw [hts] at hu
        obtain ⟨w, hw, he⟩ := Option.map_eq_some_iff.1 hu
        injection he with h1 h2; subst h1
        show (aLen cx.T t (.slice a n c) (viewL [] [] H)).map (·, viewL [] [] H) = _
        rw [aLen_slice _ _ _ _ _ _ H, hw]; rfl
    · rename_i s
      obtain ⟨u, H', hu, h⟩ := bindR_inv h
      refine .inl ⟨u, h, .pure ?_ rfl rfl⟩
      simp only [aop, hvs, Option.bind_some]
      unfold aBuiltin at hu ⊢
      rcases hts : ts.toList with _ | ⟨t, l⟩
      · rw [hts] at hu; cases hu
      · rw [hts] at hu
        obtain ⟨w, hw, he⟩ := Option.map_eq_some_iff.1 hu
        injection he with h1 h2; subst h1
        show (aLen cx.T t (.string s) (viewL [] [] H)).map (·, viewL [] [] H) = _
        rw [aLen_string _ _ _ _ H, hw]; rfl
    · cases h
  · -- calls
    rename_i f args ts
    obtain ⟨fv, hf, h⟩ := bindV_inv h
    obtain ⟨vs, hvs, h⟩ := bindL_inv h
    unfold clW at h
    split at h
    · rename_i g first cap _
      have hg' : acallee cx.G τ (.call { callee := .value f, args := args, argTypes := ts }) = some (g, first.toList ++ vs ++ cap.toList) := by simp only [acallee, hf, hvs]
      cases near with
      | true =>
        obtain ⟨u, H', hu, hL, h⟩ := bindR_inv (show bindR _ _ from h)
        exact .inr ⟨u, H', _, h, .near hg' hu hL ⟨rfl, rfl, .inl ⟨rfl, rfl⟩⟩⟩
      | false =>
        obtain ⟨u, H', hu, hn, h⟩ := bindR_inv (show bindR _ _ from h)
        exact .inr ⟨u, H', _, h, .call hg' hu hn rfl⟩
    · cases h
  · -- binOp
    obtain ⟨v, hv, h⟩ := bindV_inv h
    obtain ⟨u, hu, h⟩ := bindV_inv h
    obtain ⟨r, hr, h⟩ := bindV_inv h
    obtain ⟨y, hy, hf⟩ := Option.bind_eq_some_iff.1 hr
    refine .inl ⟨r, h, .pure ?_ rfl rfl⟩
    split at hf
    · rename_i hfl
      injection hf with hf; subst hf
      simp only [aop, hv, hu, Option.bind_some, okFlat, hy, if_pos hfl]
    · cases hf
  · obtain ⟨v, hv, h⟩ := bindV_inv h
    exact .inl ⟨v, h, .pure (by simp only [aop, hv]; rfl) rfl rfl⟩
  · obtain ⟨v, hv, h⟩ := bindV_inv h
    exact .inl ⟨v, h, .pure (by simp only [aop, hv]; rfl) rfl rfl⟩
  · -- pick
    unfold ifW at h
    split at h
    · rename_i b hb
      cases b with
      | true =>
        obtain ⟨v, hv, h⟩ := bindV_inv (h.1 rfl)
        exact .inl ⟨v, h, .pure (by simp only [aop, hb, hv]; rfl) rfl rfl⟩
      | false =>
        obtain ⟨v, hv, h⟩ := bindV_inv (h.2 rfl)
        exact .inl ⟨v, h, .pure (by simp only [aop, hb, hv]; rfl) rfl rfl⟩
    · cases h
  · -- build
    obtain ⟨x, hx, h⟩ := bindP_inv h
    obtain ⟨v, hv, h⟩ := bindV_inv h
    exact .inl ⟨v, h, .pure (by simp only [aop, hx, Option.bind_some, hv]; rfl) rfl rfl⟩
  · -- nilCheck
    obtain ⟨v, hv, h⟩ := bindV_inv h
    unfold nlW at h
    split at h
    · rename_i p
      exact .inl ⟨_, h, .pure (by simp only [aop, hv]) rfl rfl⟩
    · cases h
  · -- unOp
    obtain ⟨v, hv, h⟩ := bindV_inv h
    obtain ⟨r, hr, h⟩ := bindV_inv h
    obtain ⟨y, hy, hf⟩ := Option.bind_eq_some_iff.1 hr
    refine .inl ⟨r, h, .pure ?_ rfl rfl⟩
    split at hf
    · rename_i hfl
      injection hf with hf; subst hf
      simp only [aop, hv, Option.bind_some, okFlat, hy, if_pos hfl]
    · cases hf
  · -- convert
    obtain ⟨v, hv, h⟩ := bindV_inv h
    unfold cvW at h
    split at h
    · obtain ⟨u, R, hu, rfl, h⟩ := bindR_inv h
      exact .inl ⟨u, h, .pure (by simp only [aop, hv, Option.bind_some]; exact hu) rfl rfl⟩
    · cases h
  · obtain ⟨v, hv, h⟩ := bindV_inv h
    obtain ⟨u, hu, h⟩ := bindV_inv h
    exact .inl ⟨u, h, .pure (by simp only [aop, hv, Option.bind_some, hu]; rfl) rfl rfl⟩
  · obtain ⟨v, hv, h⟩ := bindV_inv h
    obtain ⟨u, hu, h⟩ := bindV_inv h
    exact .inl ⟨u, h, .pure (by simp only [aop, hv, Option.bind_some, hu]; rfl) rfl rfl⟩
  · obtain ⟨v, hv, h⟩ := bindV_inv h
    obtain ⟨i, hi, h⟩ := bindV_inv h
    obtain ⟨u, hu, h⟩ := bindV_inv h
    exact .inl ⟨u, h, .pure (by simp only [aop, hv, hi, Option.bind_some, hu]; rfl) rfl rfl⟩
  · obtain ⟨v, hv, h⟩ := bindV_inv h
    obtain ⟨i, hi, h⟩ := bindV_inv h
    obtain ⟨u, hu, h⟩ := bindV_inv h
    exact .inl ⟨u, h, .pure (by simp only [aop, hv, hi, Option.bind_some, hu]; rfl) rfl rfl⟩
  · obtain ⟨v, hv, h⟩ := bindV_inv h
    obtain ⟨u, hu, h⟩ := bindV_inv h
    exact .inl ⟨u, h, .pure (by simp only [aop, hv, Option.bind_some, hu]; rfl) rfl rfl⟩
  · cases h

/-! ### A region's steps -/
theorem Rel.grew {G : Nat} {μ : Mu} {H : AHeap} {w : World} (hR : Rel G μ H w) : Grew H := fun i o h p hp => by
  obtain ⟨q, hq⟩ := hR.plt i o p h hp
  exact ⟨hR.fin p q hq, fun o' h' => hR.ro p i o' o h' h hp⟩
theorem TRel.restr {μ : Mu} {τ : Tmps} {tmps : Array Value} (h : TRel μ N τ tmps) (l : List Nat) : TRel μ N (restr τ l) tmps := ⟨h.size, fun t => by
  rw [tget_restr]
  split
  · exact h.at_ t
  · exact .any _⟩
/-- There is a world that says the same. -/
def Lives (cx : Cx) (N : Nat) (τ : Tmps) (H : AHeap) : Prop := ∃ (μ : Mu) (a : Act) (w : World), Rel cx.G μ H w ∧ TRel μ N τ a.tmps

theorem view_rel {G : Nat} {μ : Mu} {H : AHeap} {w : World} (hR : Rel G μ H w) : Rel G μ (viewL [] [] H) w := by
  have no : ∀ i o, (viewL [] [] H).get i = some o → False := fun i o h => by rw [get_viewL] at h; simp [inL] at h
  exact ⟨fun i o h => (no i o h).elim, fun i p h => hR.fin i p h, hR.base, hR.glob, fun i j oi oj pi pj _ h => (no _ _ h).elim, fun i j oi oj h => (no _ _ h).elim, fun i o j h => (no _ _ h).elim, fun i j oi oj pi pj h => (no _ _ h).elim⟩
theorem view_stay {G : Nat} {μ μ' : Mu} {H : AHeap} {w w' : World} (hR : Rel G μ H w) (hR' : Rel G μ' (viewL [] [] H) w') (t : Tn μ (viewL [] [] H) w μ' (viewL [] [] H) w') : Rel G μ H w' ∧ μ'.le μ := by
  have no : ∀ b, ¬ Img μ (viewL [] [] H) b := by
    rintro b ⟨i, o, p, h, _⟩
    rw [get_viewL] at h; simp [inL] at h
  have same : ∀ k, k < w.heap.size → w'.heap[k]? = w.heap[k]? := fun k hk => t.ext.block k hk (no k)
  refine ⟨⟨fun i o h => ?_, hR.fin, hR.base, hR.glob, hR.sep, hR.ro, hR.plt, hR.pend⟩, fun i p h => ?_⟩
  · obtain ⟨p, x, h1, h2, h3⟩ := hR.dom i o h
    exact ⟨p, x, h1, by rw [same _ (Array.getElem?_eq_some_iff.1 h2).1]; exact h2, h3⟩
  · have := t.old i (hR'.fin i p h)
    rw [← this]; exact h

theorem Lives.put {τ τ' : Tmps} {H' : AHeap} {μ' : Mu} {dst : Option Tmp} {v v' : Value} {a : Act} {w' : World} (hR : Rel cx.G μ' H' w') (hT : TRel μ' N τ a.tmps) (hv : VRel μ' v v') (hp : aput N dst v τ = some τ') : Lives cx N τ' H' :=
  ⟨μ', a.put dst v', w', hR, aput_ok hT hv hp⟩

theorem RegRes.lives (hc : CxOK cx) {o : Oper} {τ τ' : Tmps} {H H' : AHeap} {v : Value} {e : Option Eff} (h : RegRes cx o.op (restr τ (o.looksAt ops)) H v H' e) (hL : Lives cx N τ H) (hp : aput N o.dst v τ = some τ') : Lives cx N τ' H' := by
  obtain ⟨μ, a, w, hR, hT⟩ := hL
  have hT' := hT.restr (o.looksAt ops)
  have fromCall : ∀ g vs, acallee cx.G (restr τ (o.looksAt ops)) o.op = some (g, vs) → callS cx g vs H = some (v, H') → Lives cx N τ' H' := by
    intro g vs hg hcall
    obtain ⟨vs', k1, k2⟩ := acallee_ok (a := a) hR hT' hg
    obtain ⟨fn, f1, f2⟩ := callS_ok hc g vs H v H' hcall
    rcases f2 with ⟨hb, hA⟩ | ⟨hb, hfl, hx, hv, rfl⟩
    · obtain ⟨e1, w1, fr, hq, _⟩ := hA μ w vs' hR k1 []
      obtain ⟨v1, v', H1, μ', rfl, q1, q2, q3, rfl, rfl⟩ := hq
      exact Lives.put q2 (hT.mono q3.le) q1 hp
    · exact Lives.put hR hT (flat_rel 1 _ hv) hp
  cases h with
  | pure h1 h2 h3 =>
    subst h2
    obtain ⟨n, w', μ', k1, k2, k3, k4⟩ := aop_ok (a := a) hc.tb (view_rel hR) hT' h1
    obtain ⟨r1, r2⟩ := view_stay hR k3 k4
    rcases k2 with ⟨v', _, hv⟩ | ⟨_, hv⟩
    · exact Lives.put r1 hT (hv.mono r2) hp
    · exact Lives.put (v' := undef) r1 hT (by have hv : v = undef := hv; rw [hv]; exact .undef μ) hp
  | op h1 h2 h3 =>
    obtain ⟨n, w', μ', k1, k2, k3, k4⟩ := aop_ok (a := a) hc.tb hR hT' h1
    rcases k2 with ⟨v', _, hv⟩ | ⟨_, hv⟩
    · exact Lives.put k3 (hT.mono k4.le) hv hp
    · exact Lives.put (v' := undef) k3 (hT.mono k4.le) (by have hv : v = undef := hv; rw [hv]; exact .undef μ') hp
  | call h1 h2 h3 h4 => exact fromCall _ _ h1 h2
  | near h1 h2 h3 h4 => exact fromCall _ _ h1 h2

/-- What was declared of a step. -/
def Decl (s : Stp) (e : Option Eff) : Prop := match e with
  | none => s.foot = .ids [] ∧ s.wr = some [] ∧ s.h.next = s.R.next
  | some (.some F W a b) => s.foot = .ids F ∧ s.wr = some W ∧ ((a = s.h.next ∧ b = s.R.next) ∨ (s.h.next = s.R.next ∧ a = 0 ∧ b = 0))
  | some .all => True
def Nc (s t : Stp) : Prop := noclash s.foot s.h.next t = true ∧ noclash t.foot t.h.next s = true
theorem Nc.symm {s t : Stp} (h : Nc s t) : Nc t s := ⟨h.2, h.1⟩
theorem nc_pure {s t : Stp} (h : Decl s none) : Nc s t := by
  obtain ⟨h1, h2, h3⟩ := h
  unfold Nc
  constructor
  · rw [h1]
    unfold noclash
    split
    · rfl
    · simp [Foot.has, inL, clashNew]
  · unfold noclash
    rw [h2]
    simp only [List.all_nil, Bool.true_and, Bool.not_eq_true']
    unfold clashNew
    split
    · simp only [List.any_eq_false]
      intro i _ hh
      have := inR_iff.1 hh
      omega
    · simp only [Bool.not_eq_false', Bool.or_eq_true, Nat.ble_eq]
      exact .inl (.inl (by omega))
theorem nc_apart {s t : Stp} {e e' : Eff} (hs : Decl s (some e)) (ht : Decl t (some e')) (h : apart e e') : Nc s t := by
  cases e with
  | all => cases e' <;> cases h
  | some F W a b =>
    cases e' with
    | all => cases h
    | some F' W' a' b' =>
      obtain ⟨⟨a1, a2⟩, b1, b2⟩ := h
      obtain ⟨s1, s2, s3⟩ := hs
      obtain ⟨t1, t2, t3⟩ := ht
      unfold Nc
      rw [s1, t1]
      refine ⟨noclash_of t2 a1 fun i hi => ?_, noclash_of s2 b1 fun i hi => ?_⟩
      · rcases t3 with ⟨rfl, rfl⟩ | ⟨h, _⟩
        · exact a2 i hi
        · omega
      · rcases s3 with ⟨rfl, rfl⟩ | ⟨h, _⟩
        · exact b2 i hi
        · omega

theorem clean_at {un : List Nat} {e : Eff} : ∀ {prev : List (Nat × Eff)}, clean un prev e → ∀ k e', (k, e') ∈ prev → k ∈ un → apart e e' := by
  intro prev
  induction prev with
  | nil => intro _ k e' h; cases h
  | cons x l ih =>
    obtain ⟨k0, e0⟩ := x
    intro h k e' hm hk
    obtain ⟨h1, h2⟩ := h
    rcases List.mem_cons.1 hm with h | h
    · injection h with a b; subst a; subst b; exact h1 hk
    · exact ih h2 k e' h hk

/-- What is known of a region's steps. -/
structure Steps2 (cx : Cx) (N : Nat) (ops : Array Oper) (l : List Oper) (inf : Info) (j : Nat) (prev : List (Nat × Eff)) (τ : Tmps) (H : AHeap) (ps : List Stp) (f : St) : Prop where
  len : ps.length = l.length
  first : stAt ps f 0 = (τ, H)
  last : stAt ps f ps.length = f
  ok : ∀ i o, l[i]? = some o → ∃ sp, ps[i]? = some sp ∧ sp.o = o ∧ sp.rd = o.looksAt ops ∧ SOK cx N ops (j + i) sp (stAt ps f (i + 1))
  old : ∀ (b : Nat) (t : Stp) (rd un : List Nat) (nr : Bool), ps[b]? = some t → inf[b]? = some (rd, un, nr) → ∀ (k : Nat) (e : Eff) (s : Stp), (k, e) ∈ prev → k ∈ un → Decl s (some e) → Nc s t
  pairs : ∀ (a b : Nat) (s t : Stp) (rd un : List Nat) (nr : Bool), a < b → ps[a]? = some s → ps[b]? = some t → inf[b]? = some (rd, un, nr) → (j + a) ∈ un → Nc s t

theorem RegRes.step (hc : CxOK cx) {j : Nat} {o : Oper} {τ τ' : Tmps} {H H' : AHeap} {v : Value} {e : Option Eff} (hj : ops[j]? = some o) (hw : awanted ops (restr τ (o.looksAt ops)) o = some true) (h : RegRes cx o.op (restr τ (o.looksAt ops)) H v H' e) (hp : aput N o.dst v τ = some τ') :
    ∃ sp : Stp, sp.o = o ∧ sp.τ = τ ∧ sp.h = H ∧ sp.rd = o.looksAt ops ∧ SOK cx N ops j sp (τ', H') ∧ Decl sp e := by
  cases h with
  | pure h1 h2 h3 =>
    subst h2; subst h3
    obtain ⟨R, r1, r2⟩ := sok_local (F := []) (W := []) (H' := H') hc hj hw ⟨⟨_, h1, rfl, fun i => by rw [if_neg]; simp⟩, Nat.le_refl _, rfl⟩ hp
    exact ⟨_, rfl, rfl, rfl, rfl, r2, rfl, rfl, r1.symm⟩
  | op h1 h2 h3 =>
    obtain ⟨R, r1, r2⟩ := sok_local hc hj hw h2 hp
    refine ⟨_, rfl, rfl, rfl, rfl, r2, ?_⟩
    cases e with
    | none =>
      obtain ⟨q1, q2, q3⟩ := h3
      subst q2
      exact ⟨by simp only [mkStp, q1], rfl, by simp only [mkStp, r1]; exact q3⟩
    | some e =>
      cases e with
      | all => trivial
      | some F1 W1 a1 b1 =>
        obtain ⟨q1, q2, q3⟩ := h3
        subst q1; subst q2
        refine ⟨rfl, rfl, ?_⟩
        simp only [mkStp, r1]
        exact q3
  | call h1 h2 h3 h4 =>
    subst h4
    exact ⟨_, rfl, rfl, rfl, rfl, sok_call hc (callS_ok hc) hj hw h1 h2 h3 hp, trivial⟩
  | near h1 h2 h3 h4 =>
    obtain ⟨R, r1, r2⟩ := sok_callN hc (callS_ok hc) hj hw h1 h3 hp
    refine ⟨_, rfl, rfl, rfl, rfl, r2, ?_⟩
    cases e with
    | none =>
      obtain ⟨rfl, q2, q3⟩ := h4
      exact ⟨rfl, rfl, by simp only [mkStp, r1]; exact q3⟩
    | some e =>
      cases e with
      | all => trivial
      | some F1 W1 a1 b1 =>
        obtain ⟨q1, q2, q3⟩ := h4
        subst q1; subst q2
        refine ⟨rfl, rfl, ?_⟩
        simp only [mkStp, r1]
        exact q3

theorem Steps2.cons {l : List Oper} {inf : Info} {j : Nat} {prev : List (Nat × Eff)} {τ τ' : Tmps} {H H' : AHeap} {ps : List Stp} {f : St} {o : Oper} {sp : Stp} {rd un : List Nat} {nr : Bool} {e : Option Eff}
    (h1 : sp.o = o) (h2 : sp.τ = τ) (h3 : sp.h = H) (hrd : sp.rd = o.looksAt ops) (h4 : SOK cx N ops j sp (τ', H')) (h5 : Decl sp e) (hcl : ∀ e0, e = some e0 → clean un prev e0)
    (h : Steps2 cx N ops l inf (j + 1) (match e with | some e => (j, e) :: prev | none => prev) τ' H' ps f) : Steps2 cx N ops (o :: l) ((rd, un, nr) :: inf) j prev τ H (sp :: ps) f where
  len := by simp [h.len]
  first := by simp [stAt, h2, h3]
  last := by have := h.last; simp [stAt] at this ⊢
  ok := fun i o' hi => by
    cases i with
    | zero =>
      simp at hi
      subst hi
      refine ⟨sp, rfl, h1, hrd, ?_⟩
      have : stAt (sp :: ps) f (0 + 1) = (τ', H') := by rw [← h.first]; simp [stAt]
      rw [this]
      exact h4
    | succ i =>
      obtain ⟨sp', m1, m2, m3, m4⟩ := h.ok i o' (by simpa using hi)
      refine ⟨sp', by simpa using m1, m2, m3, ?_⟩
      have : stAt (sp :: ps) f (i + 1 + 1) = stAt ps f (i + 1) := by simp [stAt]
      rw [this, show j + (i + 1) = j + 1 + i by omega]
      exact m4
  old := fun b t rd' un' nr' hb hi k e' s hm hk hD => by
    cases b with
    | zero =>
      simp at hb hi
      obtain ⟨rfl, rfl, rfl⟩ := hi
      subst hb
      cases e with
      | none => exact (nc_pure h5).symm
      | some e0 => exact (nc_apart h5 hD (clean_at (hcl e0 rfl) k e' hm hk)).symm
    | succ b => exact h.old b t rd' un' nr' (by simpa using hb) (by simpa using hi) k e' s (by cases e <;> simp [hm]) hk hD
  pairs := fun a b s t rd' un' nr' hab ha hb hi hm => by
    cases b with
    | zero => omega
    | succ b =>
      cases a with
      | zero =>
        simp at ha
        subst ha
        cases e with
        | none => exact nc_pure h5
        | some e0 => exact h.old b t rd' un' nr' (by simpa using hb) (by simpa using hi) j e0 sp (by simp) (by simpa using hm) h5
      | succ a => exact h.pairs a b s t rd' un' nr' (by omega) (by simpa using ha) (by simpa using hb) (by simpa using hi) (by rw [show j + 1 + a = j + (a + 1) by omega]; exact hm)

theorem regL_ok (hc : CxOK cx) {K : Tmps → AHeap → Prop} : ∀ (l : List Oper) (inf : Info) (j : Nat) (prev : List (Nat × Eff)) (τ : Tmps) (H : AHeap), (∀ i o, l[i]? = some o → ops[j + i]? = some o) → (∀ (i : Nat) (o : Oper) (x : List Nat × List Nat × Bool), l[i]? = some o → inf[i]? = some x → x.1 = o.looksAt ops) → Lives cx N τ H →
    regL cx N ops.toList K l inf j prev τ H → ∃ ps f, Steps2 cx N ops l inf j prev τ H ps f ∧ K f.1 f.2 := by
  intro l
  induction l with
  | nil =>
    intro inf j prev τ H _ _ _ h
    exact ⟨[], (τ, H), ⟨rfl, rfl, rfl, fun i o h => (by simp at h), fun b t _ _ _ h => (by simp at h), fun a b s t _ _ _ _ h => (by simp at h)⟩, h⟩
  | cons o l ih =>
    intro inf j prev τ H hat hinf hL h
    cases inf with
    | nil => cases h
    | cons x inf =>
      obtain ⟨rd, un, near⟩ := x
      have hrd : rd = o.looksAt ops := hinf 0 o (rd, un, near) rfl rfl
      have hj : ops[j]? = some o := hat 0 o rfl
      have ih' := fun prev τ H => ih inf (j + 1) prev τ H (fun i o' h => by rw [show j + 1 + i = j + (i + 1) by omega]; exact hat (i + 1) o' (by simpa using h)) (fun i o' x h1 h2 => hinf (i + 1) o' x (by simpa using h1) (by simpa using h2))
      subst hrd
      simp only [regL] at h
      have dst : ∀ (v : Value) (H' : AHeap) (prev' : List (Nat × Eff)), (match o.dst with
          | none => regL cx N ops.toList K l inf (j + 1) prev' τ H'
          | some d => d < N ∧ regL cx N ops.toList K l inf (j + 1) prev' (τ.put d (some v)) H') → ∃ τ', aput N o.dst v τ = some τ' ∧ regL cx N ops.toList K l inf (j + 1) prev' τ' H' := by
        intro v H' prev' h
        split at h
        · rename_i hd; exact ⟨τ, by rw [hd]; rfl, h⟩
        · rename_i d hd; exact ⟨_, by rw [hd]; exact if_pos h.1, h.2⟩
      have yes : awanted ops (restr τ (o.looksAt ops)) o = some true → regOp cx near o.op (restr τ (o.looksAt ops)) H
          (fun v H' e => clean un prev e ∧ match o.dst with
            | none => regL cx N ops.toList K l inf (j + 1) ((j, e) :: prev) τ H'
            | some d => d < N ∧ regL cx N ops.toList K l inf (j + 1) ((j, e) :: prev) (τ.put d (some v)) H')
          (fun v => match o.dst with
            | none => regL cx N ops.toList K l inf (j + 1) prev τ H
            | some d => d < N ∧ regL cx N ops.toList K l inf (j + 1) prev (τ.put d (some v)) H) → ∃ ps f, Steps2 cx N ops (o :: l) ((o.looksAt ops, un, near) :: inf) j prev τ H ps f ∧ K f.1 f.2 := by
        intro hw hr
        have hg : Grew H := by obtain ⟨μ, a, w, hR, _⟩ := hL; exact hR.grew
        rcases regOp_ok hg hr with ⟨v, hk, hres⟩ | ⟨v, H', e, ⟨hcl, hk⟩, hres⟩
        · obtain ⟨τ', hp, hk⟩ := dst v H prev hk
          obtain ⟨sp, s1, s2, s3, s4, s5, s6⟩ := hres.step hc hj hw hp
          obtain ⟨ps, f, hS, hK⟩ := ih' prev τ' H (hres.lives hc hL hp) hk
          exact ⟨sp :: ps, f, .cons s1 s2 s3 s4 s5 s6 (fun e0 h => by cases h) hS, hK⟩
        · obtain ⟨τ', hp, hk⟩ := dst v H' _ hk
          obtain ⟨sp, s1, s2, s3, s4, s5, s6⟩ := hres.step hc hj hw hp
          obtain ⟨ps, f, hS, hK⟩ := ih' _ τ' H' (hres.lives hc hL hp) hk
          exact ⟨sp :: ps, f, .cons s1 s2 s3 s4 s5 s6 (fun e0 h => by injection h with h; subst h; exact hcl) hS, hK⟩
      have no : awanted ops (restr τ (o.looksAt ops)) o = some false → (match o.dst with
            | none => regL cx N ops.toList K l inf (j + 1) prev τ H
            | some d => d < N ∧ regL cx N ops.toList K l inf (j + 1) prev (τ.put d (some undef)) H) → ∃ ps f, Steps2 cx N ops (o :: l) ((o.looksAt ops, un, near) :: inf) j prev τ H ps f ∧ K f.1 f.2 := by
        intro hw hk
        obtain ⟨τ', hp, hk⟩ := dst undef H prev hk
        have hL' : Lives cx N τ' H := by
          obtain ⟨μ, a, w, hR, hT⟩ := hL
          exact Lives.put hR hT (.undef μ) hp
        obtain ⟨ps, f, hS, hK⟩ := ih' prev τ' H hL' hk
        exact ⟨_ :: ps, f, .cons (e := none) rfl rfl rfl rfl (sok_skip hc hj hw hp) ⟨rfl, rfl, rfl⟩ (fun e0 h => by cases h) hS, hK⟩
      split at h
      · rename_i hgd
        exact yes (by unfold awanted; rw [hgd]) h
      · rename_i g want hgd
        unfold gdW at h
        split at h
        · rename_i b hb
          obtain ⟨d, hd, hv⟩ := Option.map_eq_some_iff.1 hb
          have hd : (ops[g]?).bind (·.dst) = some d := by simpa using hd
          by_cases e : b = want
          · exact yes (by unfold awanted; rw [hgd]; simp only [hd, hv, e, beq_self_eq_true]) (h.1 e)
          · have e' : b = !want := by cases b <;> cases want <;> simp_all
            exact no (by unfold awanted; rw [hgd]; simp only [hd, hv, e']; cases want <;> rfl) (h.2 e')
        · rename_i c hb
          obtain ⟨d, hd, hv⟩ := Option.map_eq_some_iff.1 hb
          have hd : (ops[g]?).bind (·.dst) = some d := by simpa using hd
          exact no (by unfold awanted; rw [hgd]; simp only [hd, hv]) h
        · cases h

/-! ### The rule -/
theorem noTo_ok {s t : Stp} (h : noTo s.rd s.o t.o = true) : noT s t = true := h
theorem statPrev_at {M : List Nat} {j : Nat} {rd un : List Nat} {o : Oper} : ∀ (l : List Oper) (inf : Info) (k : Nat), statPrev M j rd un o l inf k = true → ∀ a o' x, l[a]? = some o' → inf[a]? = some x → k + a < j →
    befB M (k + a) j = true ∨ ((k + a) ∈ un ∧ noTo x.1 o' o = true ∧ noTo rd o o' = true) := by
  intro l
  induction l with
  | nil => intro inf k _ a o' x h; simp at h
  | cons y l ih =>
    intro inf k h a o' x ha hx hlt
    cases inf with
    | nil => simp at hx
    | cons z inf =>
      obtain ⟨rd', un', nr'⟩ := z
      simp only [statPrev, Bool.and_eq_true, Bool.or_eq_true, Nat.ble_eq] at h
      cases a with
      | zero =>
        simp at ha hx
        subst ha; subst hx
        rcases h.1 with h1 | h1 | h1
        · omega
        · exact .inl h1
        · exact .inr ⟨inL_iff.1 h1.1.1, h1.1.2, h1.2⟩
      | succ a =>
        have := ih inf (k + 1) h.2 a o' x (by simpa using ha) (by simpa using hx) (by omega)
        rw [show k + (a + 1) = k + 1 + a by omega]
        exact this
theorem statGo_at {M : List Nat} {inf0 : Info} : ∀ (l : List Oper) (inf : Info) (j : Nat), statGo M ops inf0 l inf j = true → ∀ i o, l[i]? = some o → ∃ x, inf[i]? = some x ∧ x.1 = o.looksAt ops ∧ statPrev M (j + i) x.1 x.2.1 o ops.toList inf0 0 = true := by
  intro l
  induction l with
  | nil => intro inf j _ i o h; simp at h
  | cons y l ih =>
    intro inf j h i o hi
    cases inf with
    | nil => simp [statGo] at h
    | cons z inf =>
      obtain ⟨rd, un, nr⟩ := z
      simp only [statGo, Bool.and_eq_true, beq_iff_eq] at h
      cases i with
      | zero =>
        simp at hi
        subst hi
        exact ⟨_, rfl, h.1.1, h.1.2⟩
      | succ i =>
        obtain ⟨x, h1, h2, h3⟩ := ih inf (j + 1) h.2 i o (by simpa using hi)
        exact ⟨x, by simpa using h1, h2, by rw [show j + (i + 1) = j + 1 + i by omega]; exact h3⟩

/-- A region in whatever order. -/
theorem codeW_any (hc : CxOK cx) {id : Nat} {l : List Oper} {Q : PostW} {τ : Tmps} {H : AHeap} (inf : Info) (hs : statAll l.toArray inf = true) (h : Lives cx N τ H → regL cx N l (Q .normal) l inf 0 [] τ H) : codeW cx N (.region id l.toArray true) Q τ H := by
  rw [codeW_draws]
  intro μ a w hR hT hd
  have hL : Lives cx N τ H := ⟨μ, a, w, hR, hT⟩
  have hM : Nat.beq (masksGo l.toArray.toList []).length l.toArray.size = true ∧ ordOkGo (masksGo l.toArray.toList []) l.toArray.toList 0 = true ∧ statGo (masksGo l.toArray.toList []) l.toArray inf l.toArray.toList inf 0 = true := by
    unfold statAll at hs
    simp only [Bool.and_eq_true] at hs
    exact ⟨hs.1.1, hs.1.2, hs.2⟩
  obtain ⟨h1, h2, h3⟩ := hM
  have hO := ord_ok (Nat.eq_of_beq_eq_true h1) h2
  have sg := statGo_at _ _ 0 h3
  obtain ⟨ps, f, hS, hK⟩ := regL_ok (ops := l.toArray) hc l inf 0 [] τ H (fun i o h => by simpa using h) (fun i o x h1 h2 => by
    obtain ⟨y, e1, e2, _⟩ := sg i o (by simpa using h1)
    rw [e1] at h2; injection h2 with h2; subst h2; exact e2) hL (h hL)
  have key := steps_ok (cx := cx) (N := N) (ops := l.toArray) hc (id := id) (s := (τ, H)) (f := f) (ps := ps) hO (by rw [hS.len]; simp) hS.first hS.last
    (fun j o hj => by
      obtain ⟨sp, e1, e2, _, e3⟩ := hS.ok j o (by simpa using hj)
      exact ⟨sp, e1, e2, by simpa using e3⟩)
    (fun a b s t hab ha hb => by
      have hbl : b < l.length := by rw [← hS.len]; exact (List.getElem?_eq_some_iff.1 hb).1
      have hob : l[b]? = some l[b] := List.getElem?_eq_getElem hbl
      have hoa : l[a]? = some l[a] := List.getElem?_eq_getElem (by omega)
      obtain ⟨x, x1, x2, x3⟩ := sg b l[b] (by simp)
      obtain ⟨y, y1, y2, y3⟩ := sg a l[a] (by simp)
      obtain ⟨sb, b1, b2, b3, _⟩ := hS.ok b l[b] hob
      obtain ⟨sa, a1, a2, a3, _⟩ := hS.ok a l[a] hoa
      rw [hb] at b1; injection b1 with b1; subst b1
      rw [ha] at a1; injection a1 with a1; subst a1
      rcases statPrev_at _ _ 0 x3 a l[a] y (by simp) y1 (by omega) with h | ⟨m1, m2, m3⟩
      · left; simpa using h
      · right
        obtain ⟨rdx, unx, nrx⟩ := x
        have hn := hS.pairs a b s t rdx unx nrx hab ha hb x1 m1
        unfold pairOk
        rw [hn.1, hn.2, Bool.true_and, Bool.true_and, Bool.and_eq_true]
        refine ⟨noTo_ok ?_, noTo_ok ?_⟩
        · rw [a3, a2, b2, ← y2]; exact m2
        · rw [b3, a2, b2, ← x2]; exact m3)
  exact (key.mono fun e τ1 H1 ⟨e1, e2, e3⟩ => by subst e1; subst e2; subst e3; exact hK) μ a w hR hT hd
end
end Go.Eng
set_option linter.unusedVariables false
set_option linter.unusedSimpArgs false
namespace Go.Eng
open Go
section
variable (cx : Cx) (N : Nat) (ops : List Oper) (K : Tmps → AHeap → Prop)
@[congr] theorem regL_congr {cx : Cx} {N : Nat} {ops : List Oper} {K : Tmps → AHeap → Prop} {l : List Oper} {inf : Info} {j : Nat} {prev : List (Nat × Eff)} {τ τ' : Tmps} {H H' : AHeap} (h1 : τ = τ') (h2 : H = H') : regL cx N ops K l inf j prev τ H = regL cx N ops K l inf j prev τ' H' := by rw [h1, h2]
@[congr] theorem regOp_congr {cx : Cx} {near : Bool} {op : Op} {τ τ' : Tmps} {H H' : AHeap} {K : Value → AHeap → Eff → Prop} {Kp : Value → Prop} (h1 : τ = τ') (h2 : H = H') : regOp cx near op τ H K Kp = regOp cx near op τ' H' K Kp := by rw [h1, h2]
theorem regL_nil (inf : Info) (j : Nat) (prev : List (Nat × Eff)) (τ : Tmps) (H : AHeap) : regL cx N ops K [] inf j prev τ H = K τ H := id rfl
variable (l : List Oper) (rd un : List Nat) (nr : Bool) (inf : Info) (j : Nat) (prev : List (Nat × Eff)) (τ : Tmps) (H : AHeap) (d g : Nat) (w : Bool) (op : Op) (ty : TypeId) (ps : String) (af : Array Edge)
theorem regL_d : regL cx N ops K ({ dst := some d, op := op, type := ty, pos := ps, after := af, guard := none } :: l) ((rd, un, nr) :: inf) j prev τ H =
    regOp cx nr op (restr τ rd) H (fun v H' e => clean un prev e ∧ d < N ∧ regL cx N ops K l inf (j + 1) ((j, e) :: prev) (τ.put d (some v)) H') (fun v => d < N ∧ regL cx N ops K l inf (j + 1) prev (τ.put d (some v)) H) := id rfl
theorem regL_0 : regL cx N ops K ({ dst := none, op := op, type := ty, pos := ps, after := af, guard := none } :: l) ((rd, un, nr) :: inf) j prev τ H =
    regOp cx nr op (restr τ rd) H (fun v H' e => clean un prev e ∧ regL cx N ops K l inf (j + 1) ((j, e) :: prev) τ H') (fun v => regL cx N ops K l inf (j + 1) prev τ H) := id rfl
theorem regL_gd : regL cx N ops K ({ dst := some d, op := op, type := ty, pos := ps, after := af, guard := some (g, w) } :: l) ((rd, un, nr) :: inf) j prev τ H =
    gdW (dstV ops g (restr τ rd)) w (regOp cx nr op (restr τ rd) H (fun v H' e => clean un prev e ∧ d < N ∧ regL cx N ops K l inf (j + 1) ((j, e) :: prev) (τ.put d (some v)) H') (fun v => d < N ∧ regL cx N ops K l inf (j + 1) prev (τ.put d (some v)) H))
      (d < N ∧ regL cx N ops K l inf (j + 1) prev (τ.put d (some undef)) H) := id rfl
theorem regL_g0 : regL cx N ops K ({ dst := none, op := op, type := ty, pos := ps, after := af, guard := some (g, w) } :: l) ((rd, un, nr) :: inf) j prev τ H =
    gdW (dstV ops g (restr τ rd)) w (regOp cx nr op (restr τ rd) H (fun v H' e => clean un prev e ∧ regL cx N ops K l inf (j + 1) ((j, e) :: prev) τ H') (fun v => regL cx N ops K l inf (j + 1) prev τ H))
      (regL cx N ops K l inf (j + 1) prev τ H) := id rfl
end
attribute [go_sem ↓] regL_nil regL_d regL_0 regL_gd regL_g0
section
variable (cx : Cx) (near : Bool) (τ : Tmps) (H : AHeap) (K : Value → AHeap → Eff → Prop) (Kp : Value → Prop)
@[go_sem ↓] theorem regOp_load (t : TypeId) (x : Operand) : regOp cx near (.load t x) τ H K Kp = bindV (aeval cx.G τ x) fun v => ptrW v fun b => bindR (aLoad cx.T t v H) fun u _ => K u H (.some [b] [] 0 0) := id rfl
@[go_sem ↓] theorem regOp_lookup (t : TypeId) (x i : Operand) (ok : Bool) : regOp cx near (.lookup t x i ok) τ H K Kp = bindV (aeval cx.G τ x) fun m => bindV (aeval cx.G τ i) fun k => mapW m fun bs => bindV (aLookup cx.P cx.T t m k ok H) fun u => K u H (.some bs [] 0 0) := id rfl
@[go_sem ↓] theorem regOp_alloc (t : TypeId) : regOp cx near (.alloc t) τ H K Kp = bindR (aAlloc cx.T t H) fun u H' => K u H' (.some [] [] H.next H'.next) := id rfl
@[go_sem ↓] theorem regOp_box (t : TypeId) (x : Operand) : regOp cx near (.box t x) τ H K Kp = bindV (aeval cx.G τ x) fun v => bindR (aBox v H) fun u H' => K u H' (.some [] [] H.next H'.next) := id rfl
@[go_sem ↓] theorem regOp_buildSlice (t : TypeId) (n : Nat) (ps : List (Nat × Operand)) : regOp cx near (.buildSlice t n ps.toArray) τ H K Kp = bindP (aparts cx.G τ ps) fun vs => bindR (aBuildSlice cx.T t n vs H) fun u H' => K u H' (.some [] [] H.next H'.next) := id rfl
@[go_sem ↓] theorem regOp_store (t : TypeId) (x y : Operand) : regOp cx near (.store t x y) τ H K Kp = bindV (aeval cx.G τ x) fun v => bindV (aeval cx.G τ y) fun u => ptrW v fun b => bindH (aStore cx.T t v u H) fun H' => (∀ cs ro par gs, H.get b = some (.cells cs ro par gs) → par = []) ∧ K undef H' (.some [b] [b] 0 0) := id rfl
@[go_sem ↓] theorem regOp_mapUpdate (t : TypeId) (m k x : Operand) : regOp cx near (.mapUpdate t m k x) τ H K Kp = bindV (aeval cx.G τ m) fun v => bindV (aeval cx.G τ k) fun u => bindV (aeval cx.G τ x) fun y => mapW v fun bs => bindH (aMapUpdate cx.P cx.T t v u y H) fun H' => K undef H' (.some bs bs 0 0) := id rfl
@[go_sem ↓] theorem regOp_mapEntry (t : TypeId) (m k : Operand) : regOp cx near (.mapEntry t m k) τ H K Kp = bindV (aeval cx.G τ m) fun v => bindV (aeval cx.G τ k) fun u => mapW v fun bs => bindR (aMapEntry cx.P cx.T t v u H) fun r H' => K r H' (.some bs bs 0 0) := id rfl
@[go_sem ↓] theorem regOp_entryStore (t : TypeId) (m s x : Operand) : regOp cx near (.entryStore t m s x) τ H K Kp = bindV (aeval cx.G τ m) fun v => bindV (aeval cx.G τ s) fun u => bindV (aeval cx.G τ x) fun y => mapW v fun bs => bindH (aEntryStore v u y H) fun H' => K undef H' (.some bs bs 0 0) := id rfl
@[go_sem ↓] theorem regOp_append (args : List Operand) (ts : Array TypeId) : regOp cx near (.call { callee := .builtin .append, args := args.toArray, argTypes := ts }) τ H K Kp = bindL (aevals cx.G τ args) fun vs => apW cx ts vs H K := id rfl
@[go_sem ↓] theorem regOp_len (args : List Operand) (ts : Array TypeId) : regOp cx near (.call { callee := .builtin .len, args := args.toArray, argTypes := ts }) τ H K Kp = bindL (aevals cx.G τ args) fun vs => lnW cx ts vs H Kp := id rfl
@[go_sem ↓] theorem regOp_call (f : Operand) (args : List Operand) (ts : Array TypeId) : regOp cx near (.call { callee := .value f, args := args.toArray, argTypes := ts }) τ H K Kp = bindV (aeval cx.G τ f) fun fv => bindL (aevals cx.G τ args) fun vs => clW cx near fv vs H K := id rfl
@[go_sem ↓] theorem regOp_binOp (op : BinOp) (t t2 : TypeId) (x y : Operand) : regOp cx near (.binOp op t x y t2) τ H K Kp = bindV (aeval cx.G τ x) fun v => bindV (aeval cx.G τ y) fun u => bindV (aBinF cx.P cx.T op t x y v u (viewL [] [] H)) fun r => Kp r := id rfl
@[go_sem ↓] theorem regOp_move (x : Operand) : regOp cx near (.move x) τ H K Kp = bindV (aeval cx.G τ x) Kp := id rfl
@[go_sem ↓] theorem regOp_assign (x : Operand) : regOp cx near (.assign x) τ H K Kp = bindV (aeval cx.G τ x) Kp := id rfl
@[go_sem ↓] theorem regOp_pick (c x y : Operand) : regOp cx near (.pick c x y) τ H K Kp = ifW (aeval cx.G τ c) (bindV (aeval cx.G τ x) Kp) (bindV (aeval cx.G τ y) Kp) := id rfl
@[go_sem ↓] theorem regOp_build (t : TypeId) (ps : List (Nat × Operand)) : regOp cx near (.build t ps.toArray) τ H K Kp = bindP (aparts cx.G τ ps) fun vs => bindV (aBuild cx.T t vs) Kp := id rfl
@[go_sem ↓] theorem regOp_nilCheck (x : Operand) : regOp cx near (.nilCheck x) τ H K Kp = bindV (aeval cx.G τ x) fun v => nlW v Kp := id rfl
@[go_sem ↓] theorem regOp_unOp (op : UnOp) (t : TypeId) (x : Operand) : regOp cx near (.unOp op t x) τ H K Kp = bindV (aeval cx.G τ x) fun v => bindV (aUnF cx.P op v) Kp := id rfl
@[go_sem ↓] theorem regOp_convert (s d : TypeId) (x : Operand) : regOp cx near (.convert s d x) τ H K Kp = bindV (aeval cx.G τ x) fun v => cvW cx s d v H Kp := id rfl
@[go_sem ↓] theorem regOp_fieldAddr (t : TypeId) (x : Operand) (f : Nat) : regOp cx near (.fieldAddr t x f) τ H K Kp = bindV (aeval cx.G τ x) fun v => bindV (aFieldAddr cx.T t v f) Kp := id rfl
@[go_sem ↓] theorem regOp_field (t : TypeId) (x : Operand) (f : Nat) : regOp cx near (.field t x f) τ H K Kp = bindV (aeval cx.G τ x) fun v => bindV (aField cx.T t v f) Kp := id rfl
@[go_sem ↓] theorem regOp_indexAddr (t : TypeId) (x i : Operand) : regOp cx near (.indexAddr t x i) τ H K Kp = bindV (aeval cx.G τ x) fun v => bindV (aeval cx.G τ i) fun u => bindV (aIndexAddr cx.T t v u) Kp := id rfl
@[go_sem ↓] theorem regOp_index (t : TypeId) (x i : Operand) : regOp cx near (.index t x i) τ H K Kp = bindV (aeval cx.G τ x) fun v => bindV (aeval cx.G τ i) fun u => bindV (aIndex cx.T t v u) Kp := id rfl
@[go_sem ↓] theorem regOp_extract (x : Operand) (i : Nat) : regOp cx near (.extract x i) τ H K Kp = bindV (aeval cx.G τ x) fun v => bindV (aExtract v i) Kp := id rfl
end
attribute [go_sem] reach_nil
attribute [go_sem ↓] ptrW_ptr mapW_some nlW_ptr cvW_int apW_two lnW_slice lnW_string clW_far clW_near
@[go_sem] theorem tget_restr1 (τ : Tmps) (l : List Nat) (t : Nat) : tget (restr τ l) t = if t ∈ l then tget τ t else unk := tget_restr τ l t
@[go_sem] theorem clean_nil (un : List Nat) (e : Eff) : clean un [] e = True := by simp [clean]
@[go_sem] theorem clean_cons (un : List Nat) (k : Nat) (e' : Eff) (l : List (Nat × Eff)) (e : Eff) : clean un ((k, e') :: l) e = ((k ∈ un → apart e e') ∧ clean un l e) := id rfl
@[go_sem] theorem apart_some (F W F' W' : List Nat) (a b a' b' : Nat) : apart (.some F W a b) (.some F' W' a' b') = (free1 F W' a' b' ∧ free1 F' W a b) := id rfl
@[go_sem] theorem free1_eq (F W : List Nat) (a b : Nat) : free1 F W a b = ((∀ i ∈ F, i ∉ W) ∧ ∀ i ∈ F, i < a ∨ b ≤ i) := id rfl
attribute [go_sem] List.mem_cons List.not_mem_nil List.mem_singleton forall_eq_or_imp forall_eq
@[go_sem] theorem view_next' (W F : List Nat) (H : AHeap) : (viewL W F H).next = H.next := id rfl
@[go_sem] theorem zle (n : Nat) : (0 ≤ n) = True := by simp
attribute [go_sem] and_self or_self
def appS (F : Option (List Value → AHeap → Option (Value × AHeap))) (vs : List Value) (H : AHeap) : Option (Value × AHeap) := match F with | some F => F vs H | none => none
@[go_sem] theorem appS_some (F : List Value → AHeap → Option (Value × AHeap)) (vs : List Value) (H : AHeap) : appS (some F) vs H = F vs H := id rfl
theorem callS_app {cx : Cx} {g : FuncId} (h : ∃ fn, cx.fn g = some fn) (vs : List Value) (H : AHeap) : callS cx g vs H = appS (cx.sp g) vs H := by
  obtain ⟨fn, hfn⟩ := h
  unfold callS appS
  rw [hfn]
  cases cx.sp g <;> rfl
def rowsW (r : Option AObj) (b : Nat) : List Nat := match r with | some o => b :: o.par | none => []
@[go_sem] theorem rowsOf_slice (H : AHeap) (b o : Nat) (sp : Option Nat) (l c : Nat) : rowsOf H (.slice (some ⟨b, o, sp⟩) l c) = rowsW (H.get b) b := id rfl
@[go_sem] theorem rowsOf_nil (H : AHeap) (l c : Nat) : rowsOf H (.slice none l c) = [] := id rfl
@[go_sem] theorem rowsW_cells (b : Nat) (cs : List Value) (ro : Bool) (par : List Nat) (gs : Nat) : rowsW (some (.cells cs ro par gs)) b = b :: par := id rfl
@[go_sem] theorem rowOf_slice (b o : Nat) (sp : Option Nat) (l c : Nat) : rowOf (.slice (some ⟨b, o, sp⟩) l c) = [b] := id rfl
@[go_sem] theorem rowOf_nil (l c : Nat) : rowOf (.slice none l c) = [] := id rfl
@[go_sem] theorem srcOf_one (H : AHeap) (sz b o : Nat) (sp : Option Nat) : srcOf H sz (.slice (some ⟨b, o, sp⟩) 1 1) = (ldN (H.get b) o (1 * sz)).map fun vs => (1, vs) := id rfl
attribute [go_sem] appW_nil
@[go_sem] theorem mem_append_iff (i : Nat) (a b : List Nat) : (i ∈ a ++ b) = (i ∈ a ∨ i ∈ b) := by simp
@[go_sem] theorem par_none (cs : List Value) (ro : Bool) (gs : Nat) : (∀ cs' ro' par' gs', some (AObj.cells cs ro [] gs) = some (.cells cs' ro' par' gs') → par' = []) = True := by
  simp only [eq_iff_iff, iff_true]
  intro cs' ro' par' gs' h
  injection h with h
  injection h with _ _ h _
  exact h.symm
end Go.Eng
set_option linter.unusedVariables false
set_option linter.unusedSimpArgs false
set_option maxRecDepth 100000
namespace Go.Proofs.YtkjclebafpomhaaDoor
open Go Go.Eng

/-! ### Rows of structs -/
theorem flat_len {α : Type} {f : α → List Value} {n : Nat} (hf : ∀ a, (f a).length = n) (l : List α) : (l.flatMap f).length = l.length * n := by
  induction l with
  | nil => simp
  | cons a l ih => simp [ih, hf, Nat.succ_mul, Nat.add_comm]
theorem flat_at {α : Type} {f : α → List Value} {n : Nat} (hf : ∀ a, (f a).length = n) : ∀ (l : List α) (k : Nat) (a : α), l[k]? = some a → ((l.flatMap f).drop (k * n)).take n = f a ∧ k * n + n ≤ (l.flatMap f).length := by
  intro l
  induction l with
  | nil => intro k a h; simp at h
  | cons x l ih =>
    intro k a h
    cases k with
    | zero =>
      simp at h
      subst h
      simp [List.take_append_of_le_length, hf]
    | succ k =>
      obtain ⟨h1, h2⟩ := ih k a (by simpa using h)
      have e : (k + 1) * n = (f x).length + k * n := by rw [hf, Nat.succ_mul, Nat.add_comm]
      rw [List.flatMap_cons, e]
      refine ⟨?_, ?_⟩
      · rw [← List.drop_drop, List.drop_left]; exact h1
      · rw [List.length_append]
        omega

structure GeoD where
  base : Int
  bitmap : Int
  table : Int
  data : Int
  blocks : Int
  nodes : Int
def GeoD.cells (g : GeoD) : List Value := [.int .i64 g.base, .int .i64 g.bitmap, .int .i64 g.table, .int .i64 g.data, .int .i64 g.blocks, .int .i64 g.nodes]
theorem GeoD.cells_length (g : GeoD) : g.cells.length = 6 := rfl
theorem RegD.cells_length (r : RegD) : r.cells.length = 9 := rfl

/-- A configuration in memory. -/
structure IsConf (H : AHeap) (i ir ig : Nat) (regs : List RegD) (geos : List GeoD) (total : Int) : Prop where
  row : ∃ cr t m n l cg ro par gs, H.get i = some (.cells [.slice (some ⟨ir, 0, none⟩) regs.length cr, t, m, n, l, .slice (some ⟨ig, 0, none⟩) geos.length cg, .int .i64 total] ro par gs)
  rregs : ∃ ro par gs, H.get ir = some (.cells (regs.flatMap RegD.cells) ro par gs)
  rgeos : ∃ ro par gs, H.get ig = some (.cells (geos.flatMap GeoD.cells) ro par gs)
  same : geos.length = regs.length
  few : geos.length ≤ 64
theorem IsConf.keeps {H H' : AHeap} {i ir ig : Nat} {regs : List RegD} {geos : List GeoD} {total : Int} (h : IsConf H i ir ig regs geos total) (k : Keeps [] H H') : IsConf H' i ir ig regs geos total := by
  obtain ⟨⟨cr, t, m, n, l, cg, ro, par, gs, h1⟩, ⟨a, b, c, h2⟩, ⟨a', b', c', h3⟩, h4, h5⟩ := h
  exact ⟨⟨cr, t, m, n, l, cg, ro, par, gs, k.get h1 (by simp)⟩, ⟨a, b, c, k.get h2 (by simp)⟩, ⟨a', b', c', k.get h3 (by simp)⟩, h4, h5⟩

theorem wrap64 {n : Int} (h1 : -9223372036854775808 ≤ n) (h2 : n < 9223372036854775808) : IntKind.wrap .i64 n = n := by
  rw [IntKind.wrap_i64]; omega
def groupFrom (b : Int) : List GeoD → Nat → Int × Int × Bool
  | [], _ => (0, 0, false)
  | g :: l, k => if b < g.base then groupFrom b l (k + 1) else if IntKind.wrap .i64 (g.data + g.blocks) ≤ b then groupFrom b l (k + 1) else
      if b < g.data then (k, 0, true) else (k, IntKind.wrap .i64 (IntKind.wrap .i64 (b - g.data) + 1), true)
def grpV (r : Int × Int × Bool) : Value := .tuple #[.int .i64 r.1, .int .i64 r.2.1, .bool r.2.2]
theorem drop_at {α : Type} {l : List α} {k : Nat} {a : α} (h : l[k]? = some a) : l.drop k = a :: l.drop (k + 1) := by
  obtain ⟨h1, h2⟩ := List.getElem?_eq_some_iff.1 h
  rw [List.drop_eq_getElem_cons h1, h2]
def inf15_8 : Info := [([7], [], false), ([1], [0], false), ([8], [0, 1], false), ([43], [0, 1], false), ([42, 44], [0], false), ([45], [0], false), ([41], [1, 2, 3, 4, 5], false), ([46], [], false), ([], [], false)]
theorem group_c {H : AHeap} {i ir ig : Nat} {regs : List RegD} {geos : List GeoD} {total : Int} (hC : IsConf H i ir ig regs geos total) (b : Int) :
    ACalls Tryd.prog 4 15 [.pointer (some ⟨i, 0, none⟩), .int .i64 b] H fun v H' => v = grpV (groupFrom b geos 0) ∧ H' = H := by
  refine ACalls.trim1 rfl ?_
  refine walk s2_ok (fn := Tryd.f15) (by kernel_rfl) (c := Tryd.f15.body.get (by kernel_rfl)) (by kernel_rfl) (by simp [Tryd.f15]) ?_
  simp only [Tryd.f15, Option.get]
  obtain ⟨cr, t, m, n, l, cg, ro, par, gs, hrow⟩ := hC.row
  have h17 : F17 [.pointer (some ⟨i, 0, none⟩)] H = some (.int .i64 regs.length, H) := F17_ptr (by rw [hrow]; rfl)
  simp only [go_sem, Nat.reduceLT, Nat.reduceEqDiff, ↓reduceIte, Nat.reduceAdd, Nat.zero_add, Nat.add_zero, Nat.reduceLeDiff, Int.reduceEq, Nat.reduceMul, s2_17, fn_ex, h17]
  refine codeW_loop (fun nn τ H' => ∃ k : Nat, nn = geos.length - k ∧ k ≤ geos.length ∧ tget τ 0 = .pointer (some ⟨i, 0, none⟩) ∧ tget τ 1 = .int .i64 b ∧ tget τ 10 = .int .i64 regs.length ∧ tget τ 11 = .int .i64 k ∧
    Keeps [] H H' ∧ groupFrom b geos 0 = groupFrom b (geos.drop k) k) (n := geos.length) ⟨0, rfl, Nat.zero_le _, ?_, ?_, ?_, ?_, Keeps.refl _ _, rfl⟩ ?_
  · simp only [go_sem, Nat.reduceLT, Nat.reduceEqDiff, ↓reduceIte, Nat.reduceAdd, Nat.zero_add, Nat.add_zero, Nat.reduceLeDiff, Int.reduceEq, Nat.reduceMul]
  · simp only [go_sem, Nat.reduceLT, Nat.reduceEqDiff, ↓reduceIte, Nat.reduceAdd, Nat.zero_add, Nat.add_zero, Nat.reduceLeDiff, Int.reduceEq, Nat.reduceMul]
  · simp only [go_sem, Nat.reduceLT, Nat.reduceEqDiff, ↓reduceIte, Nat.reduceAdd, Nat.zero_add, Nat.add_zero, Nat.reduceLeDiff, Int.reduceEq, Nat.reduceMul]
  · simp only [go_sem, Nat.reduceLT, Nat.reduceEqDiff, ↓reduceIte, Nat.reduceAdd, Nat.zero_add, Nat.add_zero, Nat.reduceLeDiff, Int.reduceEq, Nat.reduceMul]; rfl
  rintro nn τ H' ⟨k, rfl, hk, h0, h1, h10, h11, hK, hG⟩
  obtain ⟨cr, t, m, n, l, cg, ro, par, gs, hrow⟩ := (hC.keeps hK).row
  obtain ⟨ro2, par2, gs2, hgeo⟩ := (hC.keeps hK).rgeos
  by_cases hlt : k < geos.length
  · have hd : decide ((k : Int) < (regs.length : Int)) = true := by have := hC.same; simp; omega
    obtain ⟨g, hg⟩ : ∃ g, geos[k]? = some g := ⟨_, List.getElem?_eq_getElem hlt⟩
    obtain ⟨e1, e2⟩ := flat_at GeoD.cells_length geos k g hg
    have hix : (0 ≤ (k : Int) ∧ (k : Int) < (geos.length : Int)) = True := by simp; omega
    have hw : IntKind.wrap .i64 ((k : Int) + 1) = ((k + 1 : Nat) : Int) := by rw [wrap64] <;> have := hC.few <;> omega
    have hn : groupFrom b (geos.drop k) k = groupFrom b (g :: geos.drop (k + 1)) k := by rw [drop_at hg]
    rw [hn] at hG
    simp only [groupFrom] at hG
    have hnext : ∀ G : AHeap, Keeps [] H G → groupFrom b geos 0 = groupFrom b (List.drop (k + 1) geos) (k + 1) → ∃ m, m < geos.length - k ∧ ∃ k_1, m = geos.length - k_1 ∧ k_1 ≤ geos.length ∧ Value.int IntKind.i64 ((k + 1 : Nat) : Int) = Value.int IntKind.i64 (k_1 : Int) ∧ Keeps [] H G ∧ groupFrom b geos 0 = groupFrom b (List.drop k_1 geos) k_1 :=
      fun G h1 h2 => ⟨geos.length - (k + 1), by omega, k + 1, rfl, hlt, rfl, h1, h2⟩
    have hkeep : ∀ o o2 : AObj, Keeps [] H ((H'.new o).set H'.next o2) := fun o o2 => (Keeps.new' o hK).set' hK.le (by simp)
    by_cases c1 : b < g.base
    · rw [if_pos c1] at hG
      simp only [go_sem, Nat.reduceLT, Nat.reduceEqDiff, ↓reduceIte, Nat.reduceAdd, Nat.zero_add, Nat.add_zero, Nat.reduceLeDiff, Int.reduceEq, Nat.reduceMul, List.take_zero, List.drop_succ_cons, List.drop_zero, List.nil_append, List.append_nil, List.drop_nil, List.take_succ_cons, List.take_nil, List.cons_append, Int.toNat_natCast, Int.toNat_zero, Int.toNat_one, h0, h1, h10, h11, hd, hrow, hgeo, hix, e1, e2, GeoD.cells, c1, hw]
      exact hnext _ (hkeep _ _) hG
    rw [if_neg c1] at hG
    by_cases c2 : IntKind.wrap .i64 (g.data + g.blocks) ≤ b
    · rw [if_pos c2] at hG
      simp only [go_sem, Nat.reduceLT, Nat.reduceEqDiff, ↓reduceIte, Nat.reduceAdd, Nat.zero_add, Nat.add_zero, Nat.reduceLeDiff, Int.reduceEq, Nat.reduceMul, List.take_zero, List.drop_succ_cons, List.drop_zero, List.nil_append, List.append_nil, List.drop_nil, List.take_succ_cons, List.take_nil, List.cons_append, Int.toNat_natCast, Int.toNat_zero, Int.toNat_one, h0, h1, h10, h11, hd, hrow, hgeo, hix, e1, e2, GeoD.cells, c1, c2, hw]
      exact hnext _ (hkeep _ _) hG
    rw [if_neg c2] at hG
    by_cases c3 : b < g.data
    · rw [if_pos c3] at hG
      simp only [go_sem, Nat.reduceLT, Nat.reduceEqDiff, ↓reduceIte, Nat.reduceAdd, Nat.zero_add, Nat.add_zero, Nat.reduceLeDiff, Int.reduceEq, Nat.reduceMul, List.take_zero, List.drop_succ_cons, List.drop_zero, List.nil_append, List.append_nil, List.drop_nil, List.take_succ_cons, List.take_nil, List.cons_append, Int.toNat_natCast, Int.toNat_zero, Int.toNat_one, h0, h1, h10, h11, hd, hrow, hgeo, hix, e1, e2, GeoD.cells, c1, c2, c3, hw, hG, grpV]
      exact hkeep _ _
    · rw [if_neg c3] at hG
      simp only [go_sem, Nat.reduceLT, Nat.reduceEqDiff, ↓reduceIte, Nat.reduceAdd, Nat.zero_add, Nat.add_zero, Nat.reduceLeDiff, Int.reduceEq, Nat.reduceMul, List.take_zero, List.drop_succ_cons, List.drop_zero, List.nil_append, List.append_nil, List.drop_nil, List.take_succ_cons, List.take_nil, List.cons_append, Int.toNat_natCast, Int.toNat_zero, Int.toNat_one, h0, h1, h10, h11, hd, hrow, hgeo, hix, e1, e2, GeoD.cells, c1, c2, c3, hw, hG, grpV]
      refine codeW_any (cxS_ok s2_ok) inf15_8 (by kernel_rfl) fun _ => ?_
      simp only [inf15_8, go_sem, Nat.reduceLT, Nat.reduceEqDiff, ↓reduceIte, Nat.reduceAdd, Nat.zero_add, Nat.add_zero, Nat.reduceLeDiff, Int.reduceEq, Nat.reduceMul, List.take_zero, List.drop_succ_cons, List.drop_zero, List.nil_append, List.append_nil, List.drop_nil, List.take_succ_cons, List.take_nil, List.cons_append, Int.toNat_natCast, Int.toNat_zero, Int.toNat_one, h0, h1, h10, h11, hd, hrow, hgeo, hix, e1, e2, GeoD.cells, c1, c2, c3, hw, hG, grpV]
      exact hkeep _ _
  · have hk' : k = geos.length := by omega
    have hd : decide ((k : Int) < (regs.length : Int)) = false := by have := hC.same; simp; omega
    subst hk'
    rw [List.drop_length] at hG
    simp only [groupFrom] at hG
    simp only [go_sem, Nat.reduceLT, Nat.reduceEqDiff, ↓reduceIte, Nat.reduceAdd, Nat.zero_add, Nat.add_zero, Nat.reduceLeDiff, Int.reduceEq, Nat.reduceMul, List.take_zero, List.drop_succ_cons, List.drop_zero, List.nil_append, List.append_nil, List.drop_nil, List.take_succ_cons, List.take_nil, List.cons_append, Int.toNat_natCast, Int.toNat_zero, Int.toNat_one, h0, h1, h10, h11, hd, hrow, hgeo, hG, grpV, hK]
end Go.Proofs.YtkjclebafpomhaaDoor
set_option linter.unusedVariables false
set_option linter.unusedSimpArgs false
set_option maxRecDepth 100000
namespace Go.Proofs.YtkjclebafpomhaaDoor
open Go Go.Eng

def s3 : Specs := spAdd s2 41 F41
theorem s3_17 : s3 17 = some F17 := id rfl
theorem s3_94 : s3 94 = some F94 := id rfl
theorem s3_41 : s3 41 = some F41 := id rfl
theorem s3_ok : SpsOK s3 := spAdd_ok s2_ok sp41
theorem callS_cxS (sp : Specs) {g : FuncId} (h : g < 175) (vs : List Value) (H : AHeap) : callS (cxS sp) g vs H = appS (sp g) vs H := callS_app (by rw [fn_ex sp g h]; trivial) vs H

theorem IsConf.len {H : AHeap} {i ir ig : Nat} {regs : List RegD} {geos : List GeoD} {total : Int} (h : IsConf H i ir ig regs geos total) : F17 [.pointer (some ⟨i, 0, none⟩)] H = some (.int .i64 regs.length, H) := by
  obtain ⟨cr, t, m, n, l, cg, ro, par, gs, hrow⟩ := h.row
  exact F17_ptr (by rw [hrow]; rfl)
theorem IsConf.has {H : AHeap} {i ir ig : Nat} {regs : List RegD} {geos : List GeoD} {total : Int} (h : IsConf H i ir ig regs geos total) (k : Int) : F41 [.pointer (some ⟨i, 0, none⟩), .int .i64 k] H = some (.bool (decide (0 ≤ k) && decide (k < regs.length)), H) := F41_eq h.len

theorem RegD.all_one (r : RegD) : r.cells.all one = true := rfl
def zeroReg : RegD := ⟨⟨#[]⟩, 0, 0, 0, 0, 0, 0, 0, 0⟩
def regV (regs : List RegD) (k : Int) : Value := if 0 ≤ k ∧ k < regs.length then .tuple #[.agg (regs.getD k.toNat zeroReg).cells.toArray, .bool true] else .tuple #[.agg zeroReg.cells.toArray, .bool false]
theorem reg_c {H : AHeap} {i ir ig : Nat} {regs : List RegD} {geos : List GeoD} {total : Int} (hC : IsConf H i ir ig regs geos total) (k : Int) :
    ACalls Tryd.prog 4 16 [.pointer (some ⟨i, 0, none⟩), .int .i64 k] H fun v H' => v = regV regs k ∧ H' = H := by
  refine ACalls.trimD (d := 2) (by unfold regV; split <;> rfl) ?_
  refine walk s3_ok (fn := Tryd.f16) (by kernel_rfl) (c := Tryd.f16.body.get (by kernel_rfl)) (by kernel_rfl) (by simp [Tryd.f16]) ?_
  simp only [Tryd.f16, Option.get]
  obtain ⟨cr, t, m, n, l, cg, ro, par, gs, hrow⟩ := hC.row
  obtain ⟨ro2, par2, gs2, hreg⟩ := hC.rregs
  have hi : i < H.next := AHeap.get_lt hrow
  have hir : ir < H.next := AHeap.get_lt hreg
  have hh : ∀ o, F41 [.pointer (some ⟨i, 0, none⟩), .int .i64 k] (H.new o) = some (.bool (decide (0 ≤ k) && decide (k < regs.length)), H.new o) := fun o => (hC.keeps (Keeps.new _ _ _)).has k
  by_cases hk : 0 ≤ k ∧ k < regs.length
  · obtain ⟨j, rfl⟩ : ∃ j : Nat, k = j := ⟨k.toNat, by omega⟩
    have hj : j < regs.length := by omega
    obtain ⟨r, hr⟩ : ∃ r, regs[j]? = some r := ⟨_, List.getElem?_eq_getElem hj⟩
    obtain ⟨e1, e2⟩ := flat_at RegD.cells_length regs j r hr
    have hb : (decide (0 ≤ (j : Int)) && decide ((j : Int) < (regs.length : Int))) = true := by simp; omega
    have hix : (0 ≤ (j : Int) ∧ (j : Int) < (regs.length : Int)) = True := by simp; omega
    have hv : regV regs (j : Int) = .tuple #[.agg r.cells.toArray, .bool true] := by
      unfold regV; rw [if_pos (by omega)]; simp [List.getD_eq_getElem?_getD, hr]
    rw [hv]
    simp only [go_sem, Nat.reduceLT, Nat.reduceEqDiff, ↓reduceIte, Nat.reduceAdd, Nat.zero_add, Nat.add_zero, Nat.reduceLeDiff, Int.reduceEq, Nat.reduceMul, List.take_zero, List.drop_succ_cons, List.drop_zero, List.nil_append, List.append_nil, List.drop_nil, List.take_succ_cons, List.take_nil, List.cons_append, Int.toNat_natCast, Int.toNat_zero, Int.toNat_one, s3_41, fn_ex, hh, hb, hrow, hreg, hix, e1, e2, RegD.cells, hi, hir]
  · have hb : (decide (0 ≤ k) && decide (k < (regs.length : Int))) = false := by
      rw [Bool.eq_false_iff]; simpa using hk
    have hv : regV regs k = .tuple #[.agg zeroReg.cells.toArray, .bool false] := by unfold regV; rw [if_neg hk]
    rw [hv]
    simp only [go_sem, Nat.reduceLT, Nat.reduceEqDiff, ↓reduceIte, Nat.reduceAdd, Nat.zero_add, Nat.add_zero, Nat.reduceLeDiff, Int.reduceEq, Nat.reduceMul, List.take_zero, List.drop_succ_cons, List.drop_zero, List.nil_append, List.append_nil, List.drop_nil, List.take_succ_cons, List.take_nil, List.cons_append, Int.toNat_natCast, Int.toNat_zero, Int.toNat_one, s3_41, fn_ex, hh, hb, RegD.cells, zeroReg]

def leqR (regs : List RegD) (a b : Int) : Bool := if 0 ≤ a ∧ a < regs.length ∧ 0 ≤ b ∧ b < regs.length then
  leqB (regs.getD a.toNat zeroReg).lev (regs.getD a.toNat zeroReg).cats (regs.getD b.toNat zeroReg).lev (regs.getD b.toNat zeroReg).cats else false
def inf45_1 : Info := [([0], [], false), ([1], [0], false), ([7, 8], [], false), ([9], [], false), ([0, 10], [], false), ([2, 10], [4], false), ([11, 12, 10], [], false), ([10, 13], [], false), ([14], [], false), ([0, 15], [], false), ([16, 15], [], false), ([17, 15], [], false), ([18, 15], [], false), ([1, 15], [9, 10, 11, 12], false), ([19, 20, 15], [], false), ([21, 15], [], false), ([22, 15], [], false), ([0, 15], [9, 10, 11, 12, 13, 14, 15, 16], false), ([24, 15], [9, 10, 11, 12, 13, 14, 15, 16], false), ([25, 15], [9, 10, 11, 12, 13, 14, 15, 16], false), ([26, 15], [9, 10, 11, 12, 13, 14, 15, 16], false), ([2, 15], [9, 10, 11, 12, 13, 14, 15, 16, 17, 18, 19, 20], false), ([27, 28, 15], [9, 10, 11, 12, 13, 14, 15, 16], false), ([29, 15], [9, 10, 11, 12, 13, 14, 15, 16], false), ([30, 15], [9, 10, 11, 12, 13, 14, 15, 16], false), ([23, 31, 15], [], false), ([15, 32], [], false), ([33], [], false)]
theorem flat_part {α : Type} {f : α → List Value} {n : Nat} (hf : ∀ a, (f a).length = n) (l : List α) (k o m : Nat) (a : α) (h : l[k]? = some a) (hm : o + m ≤ n) : ((l.flatMap f).drop (k * n + o)).take m = ((f a).drop o).take m ∧ k * n + o + m ≤ (l.flatMap f).length := by
  obtain ⟨h1, h2⟩ := flat_at hf l k a h
  refine ⟨?_, by omega⟩
  rw [← h1, ← List.drop_drop, List.drop_take, List.take_take]
  congr 1
  omega
theorem leq_c {H : AHeap} {i ir ig : Nat} {regs : List RegD} {geos : List GeoD} {total : Int} (hC : IsConf H i ir ig regs geos total) (a b : Int) :
    ACalls Tryd.prog 4 45 [.pointer (some ⟨i, 0, none⟩), .int .i64 a, .int .i64 b] H fun v H' => v = .bool (leqR regs a b) ∧ H' = H := by
  refine walk s3_ok (fn := Tryd.f45) (by kernel_rfl) (c := Tryd.f45.body.get (by kernel_rfl)) (by kernel_rfl) (by simp [Tryd.f45]) ?_
  simp only [Tryd.f45, Option.get]
  obtain ⟨cr, t, m, n, l, cg, ro, par, gs, hrow⟩ := hC.row
  obtain ⟨ro2, par2, gs2, hreg⟩ := hC.rregs
  simp only [go_sem, Nat.reduceLT, Nat.reduceEqDiff, ↓reduceIte, Nat.reduceAdd, Nat.zero_add, Nat.add_zero, Nat.reduceLeDiff, Int.reduceEq, Nat.reduceMul, List.take_zero, List.drop_succ_cons, List.drop_zero, List.nil_append, List.append_nil, List.drop_nil, List.take_succ_cons, List.take_nil, List.cons_append, Int.toNat_natCast, Int.toNat_zero, Int.toNat_one]
  refine codeW_any (cxS_ok s3_ok) inf45_1 (by kernel_rfl) fun _ => ?_
  cases hb1 : (decide (0 ≤ a) && decide (a < (regs.length : Int)))
  · have hv : leqR regs a b = false := by
      unfold leqR; rw [if_neg]; intro h; rw [Bool.eq_false_iff] at hb1; apply hb1; simp; omega
    simp only [inf45_1, go_sem, Nat.reduceLT, Nat.reduceEqDiff, ↓reduceIte, Nat.reduceAdd, Nat.zero_add, Nat.add_zero, Nat.reduceLeDiff, Int.reduceEq, Nat.reduceMul, List.take_zero, List.drop_succ_cons, List.drop_zero, List.nil_append, List.append_nil, List.drop_nil, List.take_succ_cons, List.take_nil, List.cons_append, Int.toNat_natCast, Int.toNat_zero, Int.toNat_one, s3_41, s3_94, callS_cxS, hC.has, hb1, hv]
  cases hb2 : (decide (0 ≤ b) && decide (b < (regs.length : Int)))
  · have hv : leqR regs a b = false := by
      unfold leqR; rw [if_neg]; intro h; rw [Bool.eq_false_iff] at hb2; apply hb2; simp; omega
    simp only [inf45_1, go_sem, Nat.reduceLT, Nat.reduceEqDiff, ↓reduceIte, Nat.reduceAdd, Nat.zero_add, Nat.add_zero, Nat.reduceLeDiff, Int.reduceEq, Nat.reduceMul, List.take_zero, List.drop_succ_cons, List.drop_zero, List.nil_append, List.append_nil, List.drop_nil, List.take_succ_cons, List.take_nil, List.cons_append, Int.toNat_natCast, Int.toNat_zero, Int.toNat_one, s3_41, s3_94, callS_cxS, hC.has, hb1, hb2, hv]
  have h1 : 0 ≤ a ∧ a < regs.length := by simpa using hb1
  have h2 : 0 ≤ b ∧ b < regs.length := by simpa using hb2
  obtain ⟨p, rfl⟩ : ∃ p : Nat, a = p := ⟨a.toNat, by omega⟩
  obtain ⟨q, rfl⟩ : ∃ q : Nat, b = q := ⟨b.toNat, by omega⟩
  obtain ⟨r, hr⟩ : ∃ r, regs[p]? = some r := ⟨_, List.getElem?_eq_getElem (by omega)⟩
  obtain ⟨u, hu⟩ : ∃ u, regs[q]? = some u := ⟨_, List.getElem?_eq_getElem (by omega)⟩
  obtain ⟨e1, e2⟩ := flat_part RegD.cells_length regs p 1 2 r hr (by omega)
  obtain ⟨e3, e4⟩ := flat_part RegD.cells_length regs q 1 2 u hu (by omega)
  have hi1 : (0 ≤ (p : Int) ∧ (p : Int) < (regs.length : Int)) = True := by simp; omega
  have hi2 : (0 ≤ (q : Int) ∧ (q : Int) < (regs.length : Int)) = True := by simp; omega
  have hv : leqR regs (p : Int) (q : Int) = leqB r.lev r.cats u.lev u.cats := by
    unfold leqR; rw [if_pos (by omega)]; simp [List.getD_eq_getElem?_getD, hr, hu]
  simp only [inf45_1, go_sem, Nat.reduceLT, Nat.reduceEqDiff, ↓reduceIte, Nat.reduceAdd, Nat.zero_add, Nat.add_zero, Nat.reduceLeDiff, Int.reduceEq, Nat.reduceMul, List.take_zero, List.drop_succ_cons, List.drop_zero, List.nil_append, List.append_nil, List.drop_nil, List.take_succ_cons, List.take_nil, List.cons_append, Int.toNat_natCast, Int.toNat_zero, Int.toNat_one, s3_41, s3_94, callS_cxS, hC.has, hb1, hb2, hv, hrow, hreg, hi1, hi2, e1, e2, e3, e4, RegD.cells, F94_eq]

/-! ### name -/
def nameB (s : ByteArray) : Bool := decide (1 ≤ s.size) && decide (s.size ≤ 8) && s.data.toList.all fun b => decide (97 ≤ b.toNat) && decide (b.toNat ≤ 122)
def nxt (r : Option AObj) (i : Nat) (H : AHeap) : Option (Value × AHeap) := match r with
  | some (.iter s pos) => if pos < s.size then some (.tuple #[.bool true, .int .i64 pos, .int .i32 (Utf8.decode s pos).1], H.set i (.iter s (pos + (Utf8.decode s pos).2))) else some (.tuple #[.bool false], H)
  | _ => none
@[go_sem] theorem nxt_iter (s : ByteArray) (pos i : Nat) (H : AHeap) : nxt (some (.iter s pos)) i H = if pos < s.size then some (.tuple #[.bool true, .int .i64 pos, .int .i32 (Utf8.decode s pos).1], H.set i (.iter s (pos + (Utf8.decode s pos).2))) else some (.tuple #[.bool false], H) := id rfl
@[go_sem] theorem aNext_ptr (r : Nat) (sp : Option Nat) (H : AHeap) : aNext (.pointer (some ⟨r, 0, sp⟩)) true H = nxt (H.get r) r H := by
  unfold aNext nxt
  simp only
  generalize H.get r = x
  cases x with
  | none => rfl
  | some o => cases o <;> rfl
theorem size_list (s : ByteArray) : s.data.toList.length = s.size := rfl
theorem rune_at (s : ByteArray) (pos : Nat) (h : pos < s.size) : ∃ b : UInt8, s.data.toList[pos]? = some b ∧ ((b.toNat < 128 ∧ Utf8.decode s pos = (b.toNat, 1)) ∨ (128 ≤ b.toNat ∧ 128 ≤ (Utf8.decode s pos).1)) := by
  refine ⟨s[pos]'h, by rw [List.getElem?_eq_getElem (show pos < s.data.toList.length from h)]; rfl, ?_⟩
  rcases Nat.lt_or_ge (s[pos]'h).toNat 128 with h1 | h1
  · exact .inl ⟨h1, decode_ascii s pos h h1⟩
  · exact .inr ⟨h1, (decode_high s pos h h1).1⟩
def F90 : Spec := fun vs H => match vs with
  | [.string s] => some (.bool (nameB s), H)
  | _ => none
theorem F90_eq (s : ByteArray) (H : AHeap) : F90 [.string s] H = some (.bool (nameB s), H) := id rfl
theorem sp90 : SpOK 90 F90 := by
  refine .of (fn := Tryd.f90) (by kernel_rfl) (by kernel_rfl) ?_
  intro vs H v H' h
  unfold F90 at h
  split at h
  · rename_i s
    injection h with h; injection h with h1 h2; subst h1; subst h2
    refine ACalls.trim1 rfl ?_
    refine walk sp0_ok (fn := Tryd.f90) (by kernel_rfl) (c := Tryd.f90.body.get (by kernel_rfl)) (by kernel_rfl) (by simp [Tryd.f90]) ?_
    simp only [Tryd.f90, Option.get]
    by_cases c1 : (s.size : Int) < 1
    · have hv : nameB s = false := by unfold nameB; rw [decide_eq_false (by omega)]; rfl
      simp only [go_sem, Nat.reduceLT, Nat.reduceEqDiff, ↓reduceIte, Nat.reduceAdd, Nat.zero_add, Nat.add_zero, Nat.reduceLeDiff, Int.reduceEq, Nat.reduceMul, c1, hv]
    by_cases c2 : 8 < (s.size : Int)
    · have hv : nameB s = false := by unfold nameB; rw [decide_eq_false (p := s.size ≤ 8) (by omega)]; simp
      simp only [go_sem, Nat.reduceLT, Nat.reduceEqDiff, ↓reduceIte, Nat.reduceAdd, Nat.zero_add, Nat.add_zero, Nat.reduceLeDiff, Int.reduceEq, Nat.reduceMul, c1, c2, hv]
    simp only [go_sem, Nat.reduceLT, Nat.reduceEqDiff, ↓reduceIte, Nat.reduceAdd, Nat.zero_add, Nat.add_zero, Nat.reduceLeDiff, Int.reduceEq, Nat.reduceMul, c1, c2]
    refine codeW_loop (fun nn τ H' => ∃ pos : Nat, nn = s.size - pos ∧ pos ≤ s.size ∧ tget τ 14 = .pointer (some ⟨H.next, 0, none⟩) ∧ H'.get H.next = some (.iter s pos) ∧ Keeps [] H H' ∧
      ∀ j < pos, ∃ b : UInt8, s.data.toList[j]? = some b ∧ 97 ≤ b.toNat ∧ b.toNat ≤ 122) (n := s.size) ⟨0, rfl, Nat.zero_le _, ?_, ?_, ?_, fun j hj => absurd hj (by omega)⟩ ?_
    · simp only [go_sem, Nat.reduceLT, Nat.reduceEqDiff, ↓reduceIte, Nat.reduceAdd, Nat.zero_add, Nat.add_zero, Nat.reduceLeDiff, Int.reduceEq, Nat.reduceMul]
    · simp only [go_sem, Nat.reduceLT, Nat.reduceEqDiff, ↓reduceIte, Nat.reduceAdd, Nat.zero_add, Nat.add_zero, Nat.reduceLeDiff, Int.reduceEq, Nat.reduceMul]
    · exact Keeps.new _ _ _
    rintro nn τ H' ⟨pos, rfl, hp, h14, hit, hK, hall⟩
    have hlt : H.next < H'.next := AHeap.get_lt hit
    by_cases c3 : pos < s.size
    · obtain ⟨b, hb, hd⟩ := rune_at s pos c3
      have bad : ¬ (97 ≤ b.toNat ∧ b.toNat ≤ 122) → nameB s = false := by
        intro hn
        unfold nameB
        have : (s.data.toList.all fun b => decide (97 ≤ b.toNat) && decide (b.toNat ≤ 122)) = false := by
          rw [List.all_eq_false]
          exact ⟨b, List.mem_of_getElem? hb, by simpa using hn⟩
        rw [this, Bool.and_false]
      by_cases c4 : ((Utf8.decode s pos).1 : Int) < 97
      · have hv := bad (by
          rcases hd with ⟨_, hd⟩ | ⟨h1, hd⟩
          · rw [hd] at c4; have c4 : (b.toNat : Int) < 97 := c4; omega
          · omega)
        simp only [go_sem, Nat.reduceLT, Nat.reduceEqDiff, ↓reduceIte, Nat.reduceAdd, Nat.zero_add, Nat.add_zero, Nat.reduceLeDiff, Int.reduceEq, Nat.reduceMul, h14, hit, c3, c4, hv]
        exact hK.set' (Nat.le_refl _) hlt
      by_cases c5 : 122 < ((Utf8.decode s pos).1 : Int)
      · have hv := bad (by
          rcases hd with ⟨_, hd⟩ | ⟨h1, hd⟩
          · rw [hd] at c5; have c5 : 122 < (b.toNat : Int) := c5; omega
          · omega)
        simp only [go_sem, Nat.reduceLT, Nat.reduceEqDiff, ↓reduceIte, Nat.reduceAdd, Nat.zero_add, Nat.add_zero, Nat.reduceLeDiff, Int.reduceEq, Nat.reduceMul, h14, hit, c3, c4, c5, hv]
        exact hK.set' (Nat.le_refl _) hlt
      · have hd1 : Utf8.decode s pos = (b.toNat, 1) ∧ 97 ≤ b.toNat ∧ b.toNat ≤ 122 := by
          rcases hd with ⟨_, hd⟩ | ⟨h1, hd⟩
          · rw [hd] at c4 c5; simp at c4 c5; exact ⟨hd, by omega, by omega⟩
          · omega
        simp only [go_sem, Nat.reduceLT, Nat.reduceEqDiff, ↓reduceIte, Nat.reduceAdd, Nat.zero_add, Nat.add_zero, Nat.reduceLeDiff, Int.reduceEq, Nat.reduceMul, h14, hit, c3, c4, c5]
        refine ⟨s.size - (pos + 1), by omega, pos + 1, rfl, c3, ?_, hK.set' (Nat.le_refl _) hlt, fun j hj => ?_⟩
        · rw [AHeap.get_set _ _ _ _ hlt, if_pos rfl, hd1.1]
        · rcases Nat.lt_or_ge j pos with h | h
          · exact hall j h
          · obtain rfl : j = pos := by omega
            exact ⟨b, hb, hd1.2⟩
    · have hv : nameB s = true := by
        unfold nameB
        rw [decide_eq_true (by omega), decide_eq_true (by omega), Bool.true_and, Bool.true_and, List.all_eq_true]
        intro b hb
        obtain ⟨j, hj⟩ := List.mem_iff_getElem?.1 hb
        have hjl : j < s.data.toList.length := (List.getElem?_eq_some_iff.1 hj).1
        obtain ⟨b', h1, h2, h3⟩ := hall j (by rw [size_list] at hjl; omega)
        rw [hj] at h1; injection h1 with h1; subst h1
        simp [h2, h3]
      simp only [go_sem, Nat.reduceLT, Nat.reduceEqDiff, ↓reduceIte, Nat.reduceAdd, Nat.zero_add, Nat.add_zero, Nat.reduceLeDiff, Int.reduceEq, Nat.reduceMul, h14, hit, c3, hv, hK]
  · cases h
end Go.Proofs.YtkjclebafpomhaaDoor
set_option linter.unusedVariables false
set_option linter.unusedSimpArgs false
set_option maxRecDepth 100000
namespace Go.Proofs.YtkjclebafpomhaaDoor
open Go Go.Eng

theorem und36 : Tryd.prog.underlying 36 = some (.struct #[{ name := "Level", type := 5, offset := 0, embedded := false, tag := "", pkgPath := "", byteOffset := 0 }, { name := "Cats", type := 34, offset := 1, embedded := false, tag := "", pkgPath := "", byteOffset := 2 }]) := by kernel_rfl
theorem und5 : Tryd.prog.underlying 5 = some (.int .u8) := by kernel_rfl
theorem und34 : Tryd.prog.underlying 34 = some (.int .u16) := by kernel_rfl
theorem eqInt (d : Nat) (t : TypeId) (k : IntKind) (k' : IntKind) (a b : Int) (h : Tryd.prog.underlying t = some (.int k')) : prun Tryd.prog (Op.equalIn (d + 1) t (.int k a) (.int k b)) = some (a == b) := by
  unfold Op.equalIn
  simp only [prun_bind, prun_underlying h, Option.bind_some]
  rfl
theorem stood36 : Tryd.prog.stoodInHeld 36 = false := by kernel_rfl
theorem part_at (t : TypeId) (k : IntKind) (ht : Tryd.prog.underlying t = some (.int k)) (l : Array Value) (o : Nat) (v : Value) (h : l[o]? = some v) : prun Tryd.prog (part t l o) = some v := by
  unfold part isAgg
  simp only [prun_bind, prun_underlying ht, Option.bind_some]
  rw [h]
  rfl
theorem und48 : Tryd.prog.underlying 48 = some (.struct #[{ name := "Lab", type := 5, offset := 0, embedded := false, tag := "", pkgPath := "", byteOffset := 0 }, { name := "Num", type := 34, offset := 1, embedded := false, tag := "", pkgPath := "", byteOffset := 2 }]) := by kernel_rfl
theorem stood48 : Tryd.prog.stoodInHeld 48 = false := by kernel_rfl
theorem eq36 (a b c d : Int) : prun Tryd.prog (Op.equal 36 (.agg #[.int .u8 a, .int .u16 b]) (.agg #[.int .u8 c, .int .u16 d])) = some ((a == c) && (b == d)) := by
  show prun Tryd.prog (Op.equalIn 10000 36 _ _) = _
  unfold Op.equalIn
  simp only [prun_bind, prun_underlying und36, Option.bind_some, prun_program, stood36]
  simp only [Bool.false_eq_true, if_false, List.forIn_toArray, List.forIn_cons, List.forIn_nil, prun_bind]
  have n1 : ("Level" ≠ "_") = True := by simp
  have n2 : ("Cats" ≠ "_") = True := by simp
  simp only [n1, n2, if_true, prun_bind, part_at 5 _ und5 #[Value.int IntKind.u8 a, Value.int IntKind.u16 b] 0 (.int .u8 a) rfl, part_at 5 _ und5 #[Value.int IntKind.u8 c, Value.int IntKind.u16 d] 0 (.int .u8 c) rfl, part_at 34 _ und34 #[Value.int IntKind.u8 a, Value.int IntKind.u16 b] 1 (.int .u16 b) rfl, part_at 34 _ und34 #[Value.int IntKind.u8 c, Value.int IntKind.u16 d] 1 (.int .u16 d) rfl, Option.bind_some]
  have e1 : prun Tryd.prog (Op.equalIn 9999 5 (.int .u8 a) (.int .u8 c)) = some (a == c) := eqInt 9998 5 .u8 .u8 a c und5
  have e2 : prun Tryd.prog (Op.equalIn 9999 34 (.int .u16 b) (.int .u16 d)) = some (b == d) := eqInt 9998 34 .u16 .u16 b d und34
  rw [e1]
  cases (a == c)
  · rfl
  · simp only [Option.bind_some, Bool.not_true, Bool.false_eq_true, if_false, prun_pure, prun_bind, part_at 34 _ und34 #[Value.int IntKind.u8 a, Value.int IntKind.u16 b] 1 (.int .u16 b) rfl, part_at 34 _ und34 #[Value.int IntKind.u8 c, Value.int IntKind.u16 d] 1 (.int .u16 d) rfl, e2]
    cases (b == d) <;> rfl
theorem eq48 (a b c d : Int) : prun Tryd.prog (Op.equal 48 (.agg #[.int .u8 a, .int .u16 b]) (.agg #[.int .u8 c, .int .u16 d])) = some ((a == c) && (b == d)) := by
  show prun Tryd.prog (Op.equalIn 10000 48 _ _) = _
  unfold Op.equalIn
  simp only [prun_bind, prun_underlying und48, Option.bind_some, prun_program, stood48]
  simp only [Bool.false_eq_true, if_false, List.forIn_toArray, List.forIn_cons, List.forIn_nil, prun_bind]
  have n1 : ("Lab" ≠ "_") = True := by simp
  have n2 : ("Num" ≠ "_") = True := by simp
  simp only [n1, n2, if_true, prun_bind, part_at 5 _ und5 #[Value.int IntKind.u8 a, Value.int IntKind.u16 b] 0 (.int .u8 a) rfl, part_at 5 _ und5 #[Value.int IntKind.u8 c, Value.int IntKind.u16 d] 0 (.int .u8 c) rfl, part_at 34 _ und34 #[Value.int IntKind.u8 a, Value.int IntKind.u16 b] 1 (.int .u16 b) rfl, part_at 34 _ und34 #[Value.int IntKind.u8 c, Value.int IntKind.u16 d] 1 (.int .u16 d) rfl, Option.bind_some]
  have e1 : prun Tryd.prog (Op.equalIn 9999 5 (.int .u8 a) (.int .u8 c)) = some (a == c) := eqInt 9998 5 .u8 .u8 a c und5
  have e2 : prun Tryd.prog (Op.equalIn 9999 34 (.int .u16 b) (.int .u16 d)) = some (b == d) := eqInt 9998 34 .u16 .u16 b d und34
  rw [e1]
  cases (a == c)
  · rfl
  · simp only [Option.bind_some, Bool.not_true, Bool.false_eq_true, if_false, prun_pure, prun_bind, part_at 34 _ und34 #[Value.int IntKind.u8 a, Value.int IntKind.u16 b] 1 (.int .u16 b) rfl, part_at 34 _ und34 #[Value.int IntKind.u8 c, Value.int IntKind.u16 d] 1 (.int .u16 d) rfl, e2]
    cases (b == d) <;> rfl

/-! ### Entries, in the order in which they came -/
def ents {α : Type} (kf : α → Value) (l : List α) : List MapEntry := l.zipIdx.map fun p => { key := kf p.1, val := .int .i64 p.2, born := p.2 }
theorem ents_append {α : Type} (kf : α → Value) (l : List α) (a : α) : ents kf (l ++ [a]) = ents kf l ++ [{ key := kf a, val := .int .i64 l.length, born := l.length }] := by
  unfold ents
  rw [List.zipIdx_append, List.map_append]
  simp
theorem ents_length {α : Type} (kf : α → Value) (l : List α) : (ents kf l).length = l.length := by simp [ents]
theorem ents_mem {α : Type} {kf : α → Value} {l : List α} {e : MapEntry} (h : e ∈ ents kf l) : ∃ (a : α) (i : Nat), l[i]? = some a ∧ e = { key := kf a, val := .int .i64 i, born := i } := by
  unfold ents at h
  obtain ⟨⟨a, i⟩, h1, rfl⟩ := List.mem_map.1 h
  exact ⟨a, i, by have := List.mem_zipIdx_iff_getElem?.1 h1; simpa using this, rfl⟩
/-- Whether a key is there, and where. -/
def spot {α : Type} (eq : α → Bool) : List α → Nat → Option Nat
  | [], _ => none
  | a :: l, i => if eq a then some i else spot eq l (i + 1)
theorem spot_some {α : Type} {eq : α → Bool} : ∀ (l : List α) (i j : Nat), spot eq l i = some j → i ≤ j ∧ ∃ a, l[j - i]? = some a ∧ eq a = true := by
  intro l
  induction l with
  | nil => intro i j h; cases h
  | cons a l ih =>
    intro i j h
    simp only [spot] at h
    split at h
    · rename_i he; injection h with h; subst h; exact ⟨Nat.le_refl _, a, by simp, he⟩
    · obtain ⟨h1, b, h2, h3⟩ := ih _ _ h
      refine ⟨by omega, b, ?_, h3⟩
      rw [show j - i = (j - (i + 1)) + 1 by omega]
      simpa using h2
theorem spot_any {α : Type} (eq : α → Bool) : ∀ (l : List α) (i : Nat), (spot eq l i).isSome = l.any eq := by
  intro l
  induction l with
  | nil => intro i; rfl
  | cons a l ih =>
    intro i
    simp only [spot, List.any_cons]
    split
    · rename_i h; simp [h]
    · rename_i h; rw [ih]; simp [h]
theorem spot_none {α : Type} {eq : α → Bool} {l : List α} {i : Nat} (h : l.any eq = false) : spot eq l i = none := by
  have := spot_any eq l i
  rw [h] at this
  cases hs : spot eq l i with
  | none => rfl
  | some j => rw [hs] at this; cases this

theorem findNow_ents (s : ByteArray) : ∀ (l : List (ByteArray × Nat)) (i : Nat), aFindNow .string (.string s) (l.map fun p => ({ key := .string p.1, val := .int .i64 p.2, born := p.2 } : MapEntry)) i = some (spot (fun x => s == x.1) l i) := by
  intro l
  induction l with
  | nil => intro i; rfl
  | cons a l ih =>
    intro i
    simp only [List.map_cons, aFindNow, spot]
    rw [if_pos (show flat 2 (.string a.1) = true from rfl)]
    have e : Instr.sameNow .string (.string s) (.string a.1) = some (s == a.1) := rfl
    rw [e]
    by_cases h : (s == a.1) = true
    · rw [if_pos h, h]
    · rw [if_neg h, Bool.eq_false_iff.2 h]
      simp only
      rw [ih]
theorem spot_map {α β : Type} (f : α → β) (eq : β → Bool) : ∀ (l : List α) (i : Nat), spot eq (l.map f) i = spot (fun a => eq (f a)) l i := by
  intro l
  induction l with
  | nil => intro i; rfl
  | cons a l ih => intro i; simp only [List.map_cons, spot, ih]
theorem spot_zip {α : Type} (eq : α → Bool) : ∀ (l : List α) (i k : Nat), spot (fun p : α × Nat => eq p.1) (l.zipIdx k) i = spot eq l i := by
  intro l
  induction l with
  | nil => intro i k; rfl
  | cons a l ih => intro i k; simp only [List.zipIdx_cons, spot, ih]
theorem findAsk_ents {α : Type} (t : TypeId) (kf : α → Value) (k : Value) (eq : α → Bool) (hf : ∀ a, flat 2 (kf a) = true) (he : ∀ a, prun Tryd.prog (Op.equal t k (kf a)) = some (eq a)) : ∀ (l : List α) (es : List MapEntry) (i : Nat), es.map (·.key) = l.map kf → aFindAsk Tryd.prog t k es i = some (spot eq l i) := by
  intro l
  induction l with
  | nil => intro es i h; cases es with | nil => rfl | cons e es => cases h
  | cons a l ih =>
    intro es i h
    cases es with
    | nil => cases h
    | cons e es =>
      simp only [List.map_cons, List.cons.injEq] at h
      simp only [aFindAsk, spot, h.1]
      rw [if_pos (hf a), he a]
      cases eq a with
      | true => simp
      | false => simp only []; rw [ih es _ h.2]; simp
theorem ents_keys {α : Type} (kf : α → Value) (l : List α) : (ents kf l).map (·.key) = l.map kf := by
  unfold ents
  rw [List.map_map]
  have : ((fun x : MapEntry => x.key) ∘ fun p : α × Nat => ({ key := kf p.1, val := .int .i64 p.2, born := p.2 } : MapEntry)) = kf ∘ Prod.fst := rfl
  rw [this, ← List.map_map, List.zipIdx_map_fst]
theorem find97 (s : ByteArray) (l : List ByteArray) : aFind Tryd.prog tb 9 (.string s) (ents .string l) = some (spot (fun x => s == x) l 0) := by
  have h : tb.und 9 = some .string := by kernel_rfl
  unfold aFind
  rw [h]
  show aFindNow .string (.string s) (ents .string l) 0 = _
  unfold ents
  rw [findNow_ents, spot_zip]
def labV (p : Int × Int) : Value := .agg #[.int .u8 p.1, .int .u16 p.2]
theorem find98 (a b : Int) (l : List (Int × Int)) : aFind Tryd.prog tb 36 (labV (a, b)) (ents labV l) = some (spot (fun x => (a == x.1) && (b == x.2)) l 0) := by
  have h : tb.und 36 = Tryd.prog.underlying 36 := rfl
  unfold aFind
  rw [h, und36]
  show aFindAsk Tryd.prog 36 (labV (a, b)) (ents labV l) 0 = _
  exact findAsk_ents 36 labV _ _ (fun _ => rfl) (fun x => eq36 a b x.1 x.2) l _ 0 (ents_keys _ _)
theorem find96 (a b : Int) (l : List (Int × Int)) (es : List MapEntry) (hk : es.map (·.key) = l.map labV) : aFind Tryd.prog tb 48 (labV (a, b)) es = some (spot (fun x => (a == x.1) && (b == x.2)) l 0) := by
  have h : tb.und 48 = Tryd.prog.underlying 48 := rfl
  unfold aFind
  rw [h, und48]
  show aFindAsk Tryd.prog 48 (labV (a, b)) es 0 = _
  exact findAsk_ents 48 labV _ _ (fun _ => rfl) (fun x => eq48 a b x.1 x.2) l es 0 hk

theorem und97 : tb.und 97 = some (.map 9 3) := by kernel_rfl
theorem und98 : tb.und 98 = some (.map 36 3) := by kernel_rfl
theorem und96 : tb.und 96 = some (.map 48 4) := by kernel_rfl
theorem chk9 (e : Bool) (s : ByteArray) : prun Tryd.prog (Instr.checkKey e 10000 9 (.string s)) = some () := by cases e <;> kernel_rfl
theorem chk36 (e : Bool) (a b : Int) : prun Tryd.prog (Instr.checkKey e 10000 36 (.agg #[.int .u8 a, .int .u16 b])) = some () := by cases e <;> kernel_rfl
theorem chk48 (e : Bool) (a b : Int) : prun Tryd.prog (Instr.checkKey e 10000 48 (.agg #[.int .u8 a, .int .u16 b])) = some () := by cases e <;> kernel_rfl

theorem look97 {H : AHeap} {r ck : Nat} {ro : Bool} {l : List ByteArray} (hg : H.get r = some (.map (ents .string l) ck ro)) (s : ByteArray) : ∃ v, aLookup Tryd.prog tb 97 (.map (some r)) (.string s) true H = some (.tuple #[v, .bool (l.any fun x => s == x)]) := by
  have hz : zeroT tb 3 = some (.int .i64 0) := by kernel_rfl
  unfold aLookup
  simp only [und97, hg, chk9, find97]
  rw [if_pos (show flat 2 (.string s) = true from rfl)]
  have := spot_any (fun x => s == x) l 0
  cases h : spot (fun x => s == x) l 0 with
  | none =>
    rw [h] at this
    rw [← this]
    exact ⟨_, by simp only [hz, Option.map_some, if_true]; rfl⟩
  | some j =>
    rw [h] at this
    rw [← this]
    exact ⟨_, by simp only [if_true]; rfl⟩
theorem look98 {H : AHeap} {r ck : Nat} {ro : Bool} {l : List (Int × Int)} (hg : H.get r = some (.map (ents labV l) ck ro)) (a b : Int) : ∃ v, aLookup Tryd.prog tb 98 (.map (some r)) (.agg #[.int .u8 a, .int .u16 b]) true H = some (.tuple #[v, .bool (l.any fun x => (a == x.1) && (b == x.2))]) := by
  have hz : zeroT tb 3 = some (.int .i64 0) := by kernel_rfl
  have hf := find98 a b l
  unfold labV at hf
  unfold aLookup
  simp only [und98, hg, chk36]
  have hf : aFind Tryd.prog tb 36 (.agg #[.int .u8 a, .int .u16 b]) (ents labV l) = _ := hf
  rw [if_pos (show flat 2 (.agg #[.int .u8 a, .int .u16 b]) = true from rfl), hf]
  have := spot_any (fun x : Int × Int => (a == x.1) && (b == x.2)) l 0
  cases h : spot (fun x : Int × Int => (a == x.1) && (b == x.2)) l 0 with
  | none =>
    rw [h] at this
    rw [← this]
    exact ⟨_, by simp only [hz, Option.map_some, if_true]; rfl⟩
  | some j =>
    rw [h] at this
    rw [← this]
    exact ⟨_, by simp only [if_true]; rfl⟩
theorem entry97 {H : AHeap} {r : Nat} {l : List ByteArray} (hg : H.get r = some (.map (ents .string l) l.length false)) {s : ByteArray} (hn : (l.any fun x => s == x) = false) :
    aMapEntry Tryd.prog tb 97 (.map (some r)) (.string s) H = some (.tuple #[.int .i64 0, .int .i64 l.length], H.set r (.map (ents .string l ++ [{ key := .string s, val := .int .i64 0, born := l.length }]) (l.length + 1))) := by
  have hz : zeroT tb 3 = some (.int .i64 0) := by kernel_rfl
  unfold aMapEntry
  simp only [und97, hg, chk9, find97, spot_none hn, hz, Option.map_some]
  rw [if_pos (show flat 2 (.string s) = true from rfl)]
theorem entry98 {H : AHeap} {r : Nat} {l : List (Int × Int)} (hg : H.get r = some (.map (ents labV l) l.length false)) {a b : Int} (hn : (l.any fun x => (a == x.1) && (b == x.2)) = false) :
    aMapEntry Tryd.prog tb 98 (.map (some r)) (.agg #[.int .u8 a, .int .u16 b]) H = some (.tuple #[.int .i64 0, .int .i64 l.length], H.set r (.map (ents labV l ++ [{ key := .agg #[.int .u8 a, .int .u16 b], val := .int .i64 0, born := l.length }]) (l.length + 1))) := by
  have hz : zeroT tb 3 = some (.int .i64 0) := by kernel_rfl
  have hf := find98 a b l
  have hf : aFind Tryd.prog tb 36 (.agg #[.int .u8 a, .int .u16 b]) (ents labV l) = _ := hf
  unfold aMapEntry
  simp only [und98, hg, chk36, hf, spot_none hn, hz, Option.map_some]
  rw [if_pos (show flat 2 (.agg #[.int .u8 a, .int .u16 b]) = true from rfl)]
theorem bornAt_last (n : Nat) (e : MapEntry) (he : e.born = n) : ∀ (es : List MapEntry) (i : Nat), (∀ x ∈ es, x.born ≠ n) → bornAt (n : Int) (es ++ [e]) i = some (i + es.length) := by
  intro es
  induction es with
  | nil =>
    intro i _
    simp only [List.nil_append, bornAt, he, beq_self_eq_true, if_true, List.length_nil, Nat.add_zero]
  | cons x es ih =>
    intro i h
    have hx := h x (List.mem_cons_self ..)
    simp only [List.cons_append, bornAt]
    rw [if_neg (by simp; omega), ih _ (fun y hy => h y (List.mem_cons_of_mem _ hy))]
    simp; omega
theorem emod_last (es : List MapEntry) (e : MapEntry) (f : MapEntry → MapEntry) : emod (es ++ [e]) es.length f = es ++ [f e] := by
  unfold emod
  simp
theorem estore {α : Type} {H : AHeap} {r ck : Nat} {kf : α → Value} {l : List α} {k v0 v : Value} (hg : H.get r = some (.map (ents kf l ++ [{ key := k, val := v0, born := l.length }]) ck false)) :
    aEntryStore (.map (some r)) (.int .i64 l.length) v H = some (H.set r (.map (ents kf l ++ [{ key := k, val := v, born := l.length }]) ck)) := by
  unfold aEntryStore
  simp only [hg]
  have hb := bornAt_last l.length { key := k, val := v0, born := l.length } rfl (ents kf l) 0 (fun x hx => by
    obtain ⟨a, i, h1, rfl⟩ := ents_mem hx
    have := (List.getElem?_eq_some_iff.1 h1).1
    simp; omega)
  rw [hb]
  simp only [Option.map_some, Nat.zero_add]
  rw [ents_length, show l.length = (ents kf l).length by rw [ents_length], emod_last]
/-- Two labels held against each other. -/
theorem neq36 (ox oy : Operand) (H : AHeap) (a b c d : Int) : aBinF Tryd.prog tb .neq 36 ox oy (.agg #[.int .u8 a, .int .u16 b]) (.agg #[.int .u8 c, .int .u16 d]) H = some (.bool !((a == c) && (b == d))) := by
  have hq : prun Tryd.prog (eqGuard .neq 36 ox oy (.agg #[.int .u8 a, .int .u16 b]) (.agg #[.int .u8 c, .int .u16 d])) = some () := by
    have : (Tryd.prog).eqGuardType (Tryd.prog).depth 36 = false := by kernel_rfl
    unfold eqGuard
    simp [this]
  have e : prun Tryd.prog (do eqGuard .neq 36 ox oy (.agg #[.int .u8 a, .int .u16 b]) (.agg #[.int .u8 c, .int .u16 d]); binOp .neq 36 (.agg #[.int .u8 a, .int .u16 b]) (.agg #[.int .u8 c, .int .u16 d])) = some (.bool !((a == c) && (b == d))) := by
    simp only [prun_bind, hq, Option.bind_some]
    have h2 : binOp .neq 36 (.agg #[.int .u8 a, .int .u16 b]) (.agg #[.int .u8 c, .int .u16 d]) = (do pure (.bool (!(← Op.equal 36 (.agg #[.int .u8 a, .int .u16 b]) (.agg #[.int .u8 c, .int .u16 d]))))) := rfl
    rw [h2]
    simp only [prun_bind, eq36, Option.bind_some, prun_pure]
  unfold aBinF aBin
  rw [if_pos (by rfl), e]
  rfl
end Go.Proofs.YtkjclebafpomhaaDoor
