/- Contracts: how they are kept; small functions of conf and label. -/
import Derived.Test.YtkjclebafpomhaaDoorTy
import Derived.Test.YtkjclebafpomhaaDoorEngU
set_option linter.unusedVariables false
set_option linter.unusedSimpArgs false
set_option maxRecDepth 100000
namespace Go.Proofs.YtkjclebafpomhaaDoor
open Go Go.Eng

abbrev Spec := List Value → AHeap → Option (Value × AHeap)
abbrev Specs := FuncId → Option Spec
/-- A function does what a specification reckons. -/
def SpOK (g : FuncId) (F : Spec) : Prop := (∃ fn, Tryd.prog.funcs[g]? = some fn ∧ fn.body.isSome = true) ∧ ∀ vs H v H', F vs H = some (v, H') → ACalls Tryd.prog 4 g vs H fun v1 H1 => v1 = v ∧ H1 = H'
def SpsOK (sp : Specs) : Prop := ∀ g F, sp g = some F → SpOK g F
noncomputable def cxS (sp : Specs) : Cx := { cx with sp := sp }
@[go_sem] theorem cxS_T (sp : Specs) : (cxS sp).T = tb := id rfl
@[go_sem] theorem cxS_P (sp : Specs) : (cxS sp).P = Tryd.prog := id rfl
@[go_sem] theorem cxS_G (sp : Specs) : (cxS sp).G = 4 := id rfl
@[go_sem] theorem cxS_sp (sp : Specs) : (cxS sp).sp = sp := id rfl
theorem nfuncs : Tryd.prog.funcs.size = 175 := by kernel_rfl
theorem fn_ex (sp : Specs) (g : FuncId) (h : g < 175) : (∃ fn, (cxS sp).fn g = some fn) = True := by
  simp only [eq_iff_iff, iff_true]
  exact ⟨_, Array.getElem?_eq_getElem (by rw [nfuncs]; exact h)⟩
@[go_sem ↓] theorem spW_some (sp : Specs) (g : FuncId) (F : Spec) (vs : List Value) (H : AHeap) (K : Value → AHeap → Prop) : spW (cxS sp) g (some F) vs H K = ((∃ fn, (cxS sp).fn g = some fn) ∧ bindR (F vs H) K) := id rfl
@[go_sem ↓] theorem spW_none (sp : Specs) (g : FuncId) (vs : List Value) (H : AHeap) (K : Value → AHeap → Prop) : spW (cxS sp) g none vs H K = CallsXu (cxS sp) g vs H K () := id rfl
theorem cxS_ok {sp : Specs} (h : SpsOK sp) : CxOK (cxS sp) where
  tb := cxOK.tb
  fn := cxOK.fn
  ext := cxOK.ext
  mix := cxOK.mix
  sp := fun f fn g hf hg => by
    obtain ⟨⟨fn', e1, e2⟩, e3⟩ := h f g hg
    have : fn' = fn := by
      have hf : Tryd.prog.funcs[f]? = some fn := hf
      rw [e1] at hf; injection hf
    subst this
    exact ⟨e2, e3⟩
def sp0 : Specs := fun _ => none
theorem sp0_ok : SpsOK sp0 := fun g F h => by cases h
def spAdd (sp : Specs) (g : FuncId) (F : Spec) : Specs := fun i => if i = g then some F else sp i
theorem spAdd_ok {sp : Specs} {g : FuncId} {F : Spec} (h : SpsOK sp) (hF : SpOK g F) : SpsOK (spAdd sp g F) := fun i G hi => by
  unfold spAdd at hi
  split at hi
  · rename_i e; injection hi with hi; subst hi; subst e; exact hF
  · exact h i G hi
theorem spAdd_self (sp : Specs) (g : FuncId) (F : Spec) : spAdd sp g F g = some F := by simp [spAdd]
theorem spAdd_ne (sp : Specs) (g i : FuncId) (F : Spec) (h : (i == g) = false) : spAdd sp g F i = sp i := by unfold spAdd; rw [if_neg (by simpa using h)]
theorem walk {sp : Specs} (hs : SpsOK sp) {f : FuncId} {fn : Func} {c : Code} {args : List Value} {H : AHeap} {Q : Value → AHeap → Prop} (hf : Tryd.prog.funcs[f]? = some fn) (hb : fn.body = some c) (hN : args.length ≤ fn.ntmps)
    (h : codeW (cxS sp) fn.ntmps c (resW (cxS sp) fn.results.toList Q) (initT 0 args) H) : ACalls Tryd.prog 4 f args H Q := acalls_w (cx := cxS sp) (cxS_ok hs) hf hb hN h
theorem SpOK.of {g : FuncId} {fn : Func} {F : Spec} (hf : Tryd.prog.funcs[g]? = some fn) (hb : fn.body.isSome = true) (h : ∀ vs H v H', F vs H = some (v, H') → ACalls Tryd.prog 4 g vs H fun v1 H1 => v1 = v ∧ H1 = H') : SpOK g F := ⟨⟨fn, hf, hb⟩, h⟩

def F93 : Spec := fun vs H => match vs with
  | [.int .i64 a, .int .i64 b, .int .i64 c] => some (.bool (decide (b ≤ a) && decide (a ≤ c)), H)
  | _ => none
theorem F93_eq (a b c : Int) (H : AHeap) : F93 [.int .i64 a, .int .i64 b, .int .i64 c] H = some (.bool (decide (b ≤ a) && decide (a ≤ c)), H) := id rfl
theorem sp93 : SpOK 93 F93 := by
  refine .of (fn := Tryd.f93) (by kernel_rfl) (by kernel_rfl) ?_
  intro vs H v H' h
  unfold F93 at h
  split at h
  · rename_i a b c
    injection h with h; injection h with h1 h2; subst h1; subst h2
    refine walk sp0_ok (fn := Tryd.f93) (by kernel_rfl) (c := Tryd.f93.body.get (by kernel_rfl)) (by kernel_rfl) (by simp [Tryd.f93]) ?_
    simp only [Tryd.f93, Option.get]
    cases h1 : decide (b ≤ a) <;> simp only [go_sem, Nat.reduceLT, Nat.reduceEqDiff, ↓reduceIte, Nat.reduceAdd, Nat.zero_add, Nat.add_zero, Nat.reduceLeDiff, Int.reduceEq, Nat.reduceMul, h1]
  · cases h

/-- A registered label's cells. -/
structure RegD where
  name : ByteArray
  lev : Int
  cats : Int
  blocks : Int
  nodes : Int
  frames : Int
  procs : Int
  opens : Int
  clear : Int
def RegD.cells (r : RegD) : List Value := [.string r.name, .int .u8 r.lev, .int .u16 r.cats, .int .i64 r.blocks, .int .i64 r.nodes, .int .i64 r.frames, .int .i64 r.procs, .int .i64 r.opens, .int .i64 r.clear]
def RegD.sound (r : RegD) : Bool := (4 ≤ r.blocks && r.blocks ≤ 512) && (4 ≤ r.nodes && r.nodes ≤ 128) && r.nodes.tmod 2 = 0 && (1 ≤ r.frames && r.frames ≤ 256) && (1 ≤ r.procs && r.procs ≤ 16) && (1 ≤ r.opens && r.opens ≤ 32)
def F92 : Spec := fun vs H => match vs with
  | [.agg ⟨[.string a, .int .u8 b, .int .u16 c, .int .i64 d, .int .i64 e, .int .i64 f, .int .i64 g, .int .i64 h, .int .i64 i]⟩] => some (.bool (RegD.mk a b c d e f g h i).sound, H)
  | _ => none
def s1 : Specs := spAdd sp0 93 F93
theorem s1_93 : s1 93 = some F93 := id rfl
theorem s1_ok : SpsOK s1 := spAdd_ok sp0_ok sp93
theorem F92_eq (a : ByteArray) (b c d e f g h i : Int) (H : AHeap) : F92 [.agg ⟨[.string a, .int .u8 b, .int .u16 c, .int .i64 d, .int .i64 e, .int .i64 f, .int .i64 g, .int .i64 h, .int .i64 i]⟩] H = some (.bool (RegD.mk a b c d e f g h i).sound, H) := id rfl
theorem sp92 : SpOK 92 F92 := by
  refine .of (fn := Tryd.f92) (by kernel_rfl) (by kernel_rfl) ?_
  intro vs H v H' h
  unfold F92 at h
  split at h
  · rename_i a b c d e f g h i
    injection h with h; injection h with h1 h2; subst h1; subst h2
    refine ACalls.trim1 rfl ?_
    refine walk s1_ok (fn := Tryd.f92) (by kernel_rfl) (c := Tryd.f92.body.get (by kernel_rfl)) (by kernel_rfl) (by simp [Tryd.f92]) ?_
    simp only [Tryd.f92, Option.get, RegD.sound]
    cases h1 : (decide (4 ≤ d) && decide (d ≤ 512))
    · simp only [go_sem, Nat.reduceLT, Nat.reduceEqDiff, ↓reduceIte, Nat.reduceAdd, Nat.zero_add, Nat.add_zero, Nat.reduceLeDiff, Int.reduceEq, Nat.reduceMul, s1_93, F93_eq, fn_ex, h1]
    cases h2 : (decide (4 ≤ e) && decide (e ≤ 128))
    · simp only [go_sem, Nat.reduceLT, Nat.reduceEqDiff, ↓reduceIte, Nat.reduceAdd, Nat.zero_add, Nat.add_zero, Nat.reduceLeDiff, Int.reduceEq, Nat.reduceMul, s1_93, F93_eq, fn_ex, h1, h2]
    cases h3 : decide (e.tmod 2 = 0)
    · simp only [go_sem, Nat.reduceLT, Nat.reduceEqDiff, ↓reduceIte, Nat.reduceAdd, Nat.zero_add, Nat.add_zero, Nat.reduceLeDiff, Int.reduceEq, Nat.reduceMul, s1_93, F93_eq, fn_ex, h1, h2, h3]
    cases h4 : (decide (1 ≤ f) && decide (f ≤ 256))
    · simp only [go_sem, Nat.reduceLT, Nat.reduceEqDiff, ↓reduceIte, Nat.reduceAdd, Nat.zero_add, Nat.add_zero, Nat.reduceLeDiff, Int.reduceEq, Nat.reduceMul, s1_93, F93_eq, fn_ex, h1, h2, h3, h4]
    cases h5 : (decide (1 ≤ g) && decide (g ≤ 16))
    · simp only [go_sem, Nat.reduceLT, Nat.reduceEqDiff, ↓reduceIte, Nat.reduceAdd, Nat.zero_add, Nat.add_zero, Nat.reduceLeDiff, Int.reduceEq, Nat.reduceMul, s1_93, F93_eq, fn_ex, h1, h2, h3, h4, h5]
    · simp only [go_sem, Nat.reduceLT, Nat.reduceEqDiff, ↓reduceIte, Nat.reduceAdd, Nat.zero_add, Nat.add_zero, Nat.reduceLeDiff, Int.reduceEq, Nat.reduceMul, s1_93, F93_eq, fn_ex, h1, h2, h3, h4, h5]
  · cases h
end Go.Proofs.YtkjclebafpomhaaDoor
