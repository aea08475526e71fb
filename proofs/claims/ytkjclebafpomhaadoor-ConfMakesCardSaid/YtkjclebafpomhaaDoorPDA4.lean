/- Contracts: how they are kept; small functions of conf and label. -/
import Derived.Test.YtkjclebafpomhaaDoorPDA3
import Derived.Laws.Strings
set_option linter.unusedVariables false
set_option linter.unusedSimpArgs false
set_option maxRecDepth 100000
namespace Go.Proofs.YtkjclebafpomhaaDoor
open Go Go.Eng

abbrev Spec := List Value → AHeap → Option (Value × AHeap)
abbrev Specs := FuncId → Option Spec
/-- A function does what a specification reckons. -/
def SpOK (g : FuncId) (F : Spec) : Prop := (∃ fn, Tryd.prog.funcs[g]? = some fn ∧ fn.body.isSome = true) ∧ ∀ vs H v H', F vs H = some (v, H') → ACalls Tryd.prog 4 g vs H fun v1 H1 => v1 = v ∧ H1 = H'
def SpsOK (sp : Specs) : Prop := ∀ g F, sp g = some F → SpOK g F
noncomputable def cxS (sp : Specs) : Cx := { cx with sp := sp }
@[go_sem] theorem cxS_T (sp : Specs) : (cxS sp).T = tb := id rfl
@[go_sem] theorem cxS_P (sp : Specs) : (cxS sp).P = Tryd.prog := id rfl
@[go_sem] theorem cxS_G (sp : Specs) : (cxS sp).G = 4 := id rfl
@[go_sem] theorem cxS_sp (sp : Specs) : (cxS sp).sp = sp := id rfl
theorem nfuncs : Tryd.prog.funcs.size = 175 := by kernel_rfl
theorem fn_ex (sp : Specs) (g : FuncId) (h : g < 175) : (∃ fn, (cxS sp).fn g = some fn) = True := by
  simp only [eq_iff_iff, iff_true]
  exact ⟨_, Array.getElem?_eq_getElem (by rw [nfuncs]; exact h)⟩
@[go_sem ↓] theorem spW_some (sp : Specs) (g : FuncId) (F : Spec) (vs : List Value) (H : AHeap) (K : Value → AHeap → Prop) : spW (cxS sp) g (some F) vs H K = ((∃ fn, (cxS sp).fn g = some fn) ∧ bindR (F vs H) K) := id rfl
@[go_sem ↓] theorem spW_none (sp : Specs) (g : FuncId) (vs : List Value) (H : AHeap) (K : Value → AHeap → Prop) : spW (cxS sp) g none vs H K = CallsXu (cxS sp) g vs H K () := id rfl
theorem cxS_ok {sp : Specs} (h : SpsOK sp) : CxOK (cxS sp) where
  tb := cxOK.tb
  fn := cxOK.fn
  ext := cxOK.ext
  mix := cxOK.mix
  sp := fun f fn g hf hg => by
    obtain ⟨⟨fn', e1, e2⟩, e3⟩ := h f g hg
    have : fn' = fn := by
      have hf : Tryd.prog.funcs[f]? = some fn := hf
      rw [e1] at hf; injection hf
    subst this
    exact ⟨e2, e3⟩
def sp0 : Specs := fun _ => none
theorem sp0_ok : SpsOK sp0 := fun g F h => by cases h
def spAdd (sp : Specs) (g : FuncId) (F : Spec) : Specs := fun i => if i = g then some F else sp i
theorem spAdd_ok {sp : Specs} {g : FuncId} {F : Spec} (h : SpsOK sp) (hF : SpOK g F) : SpsOK (spAdd sp g F) := fun i G hi => by
  unfold spAdd at hi
  split at hi
  · rename_i e; injection hi with hi; subst hi; subst e; exact hF
  · exact h i G hi
theorem spAdd_self (sp : Specs) (g : FuncId) (F : Spec) : spAdd sp g F g = some F := by simp [spAdd]
theorem spAdd_ne (sp : Specs) (g i : FuncId) (F : Spec) (h : (i == g) = false) : spAdd sp g F i = sp i := by unfold spAdd; rw [if_neg (by simpa using h)]
theorem walk {sp : Specs} (hs : SpsOK sp) {f : FuncId} {fn : Func} {c : Code} {args : List Value} {H : AHeap} {Q : Value → AHeap → Prop} (hf : Tryd.prog.funcs[f]? = some fn) (hb : fn.body = some c) (hN : args.length ≤ fn.ntmps)
    (h : codeW (cxS sp) fn.ntmps c (resW (cxS sp) fn.results.toList Q) (initT 0 args) H) : ACalls Tryd.prog 4 f args H Q := acalls_w (cx := cxS sp) (cxS_ok hs) hf hb hN h
theorem SpOK.of {g : FuncId} {fn : Func} {F : Spec} (hf : Tryd.prog.funcs[g]? = some fn) (hb : fn.body.isSome = true) (h : ∀ vs H v H', F vs H = some (v, H') → ACalls Tryd.prog 4 g vs H fun v1 H1 => v1 = v ∧ H1 = H') : SpOK g F := ⟨⟨fn, hf, hb⟩, h⟩

def F93 : Spec := fun vs H => match vs with
  | [.int .i64 a, .int .i64 b, .int .i64 c] => some (.bool (decide (b ≤ a) && decide (a ≤ c)), H)
  | _ => none
theorem F93_eq (a b c : Int) (H : AHeap) : F93 [.int .i64 a, .int .i64 b, .int .i64 c] H = some (.bool (decide (b ≤ a) && decide (a ≤ c)), H) := id rfl
theorem sp93 : SpOK 93 F93 := by
  refine .of (fn := Tryd.f93) (by kernel_rfl) (by kernel_rfl) ?_
  intro vs H v H' h
  unfold F93 at h
  split at h
  · rename_i a b c
    injection h with h; injection h with h1 h2; subst h1; subst h2
    refine walk sp0_ok (fn := Tryd.f93) (by kernel_rfl) (c := Tryd.f93.body.get (by kernel_rfl)) (by kernel_rfl) (by simp [Tryd.f93]) ?_
    simp only [Tryd.f93, Option.get]
    cases h1 : decide (b ≤ a) <;> simp only [go_sem, Nat.reduceLT, Nat.reduceEqDiff, ↓reduceIte, Nat.reduceAdd, Nat.zero_add, Nat.add_zero, Nat.reduceLeDiff, Int.reduceEq, Nat.reduceMul, h1]
  · cases h

/-- A registered label's cells. -/
structure RegD where
  name : ByteArray
  lev : Int
  cats : Int
  blocks : Int
  nodes : Int
  frames : Int
  procs : Int
  opens : Int
  clear : Int
def RegD.cells (r : RegD) : List Value := [.string r.name, .int .u8 r.lev, .int .u16 r.cats, .int .i64 r.blocks, .int .i64 r.nodes, .int .i64 r.frames, .int .i64 r.procs, .int .i64 r.opens, .int .i64 r.clear]
def RegD.sound (r : RegD) : Bool := (4 ≤ r.blocks && r.blocks ≤ 512) && (4 ≤ r.nodes && r.nodes ≤ 128) && r.nodes.tmod 2 = 0 && (1 ≤ r.frames && r.frames ≤ 256) && (1 ≤ r.procs && r.procs ≤ 16) && (1 ≤ r.opens && r.opens ≤ 32)
def F92 : Spec := fun vs H => match vs with
  | [.agg ⟨[.string a, .int .u8 b, .int .u16 c, .int .i64 d, .int .i64 e, .int .i64 f, .int .i64 g, .int .i64 h, .int .i64 i]⟩] => some (.bool (RegD.mk a b c d e f g h i).sound, H)
  | _ => none
def s1 : Specs := spAdd sp0 93 F93
theorem s1_93 : s1 93 = some F93 := id rfl
theorem s1_ok : SpsOK s1 := spAdd_ok sp0_ok sp93
theorem F92_eq (a : ByteArray) (b c d e f g h i : Int) (H : AHeap) : F92 [.agg ⟨[.string a, .int .u8 b, .int .u16 c, .int .i64 d, .int .i64 e, .int .i64 f, .int .i64 g, .int .i64 h, .int .i64 i]⟩] H = some (.bool (RegD.mk a b c d e f g h i).sound, H) := id rfl
theorem sp92 : SpOK 92 F92 := by
  refine .of (fn := Tryd.f92) (by kernel_rfl) (by kernel_rfl) ?_
  intro vs H v H' h
  unfold F92 at h
  split at h
  · rename_i a b c d e f g h i
    injection h with h; injection h with h1 h2; subst h1; subst h2
    refine ACalls.trim1 rfl ?_
    refine walk s1_ok (fn := Tryd.f92) (by kernel_rfl) (c := Tryd.f92.body.get (by kernel_rfl)) (by kernel_rfl) (by simp [Tryd.f92]) ?_
    simp only [Tryd.f92, Option.get, RegD.sound]
    cases h1 : (decide (4 ≤ d) && decide (d ≤ 512))
    · simp only [go_sem, Nat.reduceLT, Nat.reduceEqDiff, ↓reduceIte, Nat.reduceAdd, Nat.zero_add, Nat.add_zero, Nat.reduceLeDiff, Int.reduceEq, Nat.reduceMul, s1_93, F93_eq, fn_ex, h1]
    cases h2 : (decide (4 ≤ e) && decide (e ≤ 128))
    · simp only [go_sem, Nat.reduceLT, Nat.reduceEqDiff, ↓reduceIte, Nat.reduceAdd, Nat.zero_add, Nat.add_zero, Nat.reduceLeDiff, Int.reduceEq, Nat.reduceMul, s1_93, F93_eq, fn_ex, h1, h2]
    cases h3 : decide (e.tmod 2 = 0)
    · simp only [go_sem, Nat.reduceLT, Nat.reduceEqDiff, ↓reduceIte, Nat.reduceAdd, Nat.zero_add, Nat.add_zero, Nat.reduceLeDiff, Int.reduceEq, Nat.reduceMul, s1_93, F93_eq, fn_ex, h1, h2, h3]
    cases h4 : (decide (1 ≤ f) && decide (f ≤ 256))
    · simp only [go_sem, Nat.reduceLT, Nat.reduceEqDiff, ↓reduceIte, Nat.reduceAdd, Nat.zero_add, Nat.add_zero, Nat.reduceLeDiff, Int.reduceEq, Nat.reduceMul, s1_93, F93_eq, fn_ex, h1, h2, h3, h4]
    cases h5 : (decide (1 ≤ g) && decide (g ≤ 16))
    · simp only [go_sem, Nat.reduceLT, Nat.reduceEqDiff, ↓reduceIte, Nat.reduceAdd, Nat.zero_add, Nat.add_zero, Nat.reduceLeDiff, Int.reduceEq, Nat.reduceMul, s1_93, F93_eq, fn_ex, h1, h2, h3, h4, h5]
    · simp only [go_sem, Nat.reduceLT, Nat.reduceEqDiff, ↓reduceIte, Nat.reduceAdd, Nat.zero_add, Nat.add_zero, Nat.reduceLeDiff, Int.reduceEq, Nat.reduceMul, s1_93, F93_eq, fn_ex, h1, h2, h3, h4, h5]
  · cases h
end Go.Proofs.YtkjclebafpomhaaDoor
set_option linter.unusedVariables false
set_option linter.unusedSimpArgs false
namespace Go.Eng
open Go

/-! ### What an operation touches -/
/-- 'some F W a b': it looks at the rows of F and W, writes those of W, makes those from a on ahead of b; 'all': whatever. -/
inductive Eff where
  | some (F W : List Nat) (a b : Nat)
  | all
/-- Neither sees what the other does. -/
def free1 (F W : List Nat) (a b : Nat) : Prop := (∀ i ∈ F, i ∉ W) ∧ ∀ i ∈ F, i < a ∨ b ≤ i
def apart : Eff → Eff → Prop
  | .some F W a b, .some F' W' a' b' => free1 F W' a' b' ∧ free1 F' W a b
  | _, _ => False
/-- An operation and those ahead of it. -/
def clean (un : List Nat) (prev : List (Nat × Eff)) (e : Eff) : Prop := match prev with
  | [] => True
  | (k, e') :: l => (k ∈ un → apart e e') ∧ clean un l e

/-- What comes of an operation, of what it touches. -/
structure Local (f : AHeap → Option (Value × AHeap)) (H : AHeap) (F W : List Nat) (v : Value) (H' : AHeap) : Prop where
  run : ∃ R, f (viewL W (W ++ F) H) = some (v, R) ∧ R.next = H'.next ∧ ∀ i, H'.get i = if i ∈ W ∨ (H.next ≤ i ∧ i < H'.next) then R.get i else H.get i
  le : H.next ≤ H'.next
  okw : okW H W = true

section
variable {cx : Cx} {N : Nat} {ops : Array Oper}

def effOf (s : Stp) : Option Eff := match s.foot, s.wr with
  | .ids F, some W => some (.some F W s.h.next s.R.next)
  | .but [], none => some .all
  | _, _ => none

/-- A step that touches little. -/
def mkStp (τ : Tmps) (H : AHeap) (F W : List Nat) (R : AHeap) (v : Value) (rd : List Nat) (o : Oper) : Stp := ⟨τ, H, viewL W (W ++ F) H, R, v, .ids (W ++ F), some W, rd, o⟩

theorem sok_local (hc : CxOK cx) {j : Nat} {o : Oper} {τ τ' : Tmps} {H H' : AHeap} {F W : List Nat} {v : Value} (hj : ops[j]? = some o) (hw : awanted ops (restr τ (o.looksAt ops)) o = some true) (h : Local (aop cx.P cx.T cx.G (restr τ (o.looksAt ops)) o.op) H F W v H')
    (hp : aput N o.dst v τ = some τ') : ∃ R, R.next = H'.next ∧ SOK cx N ops j (mkStp τ H F W R v (o.looksAt ops) o) (τ', H') := by
  obtain ⟨R, h1, h2, h3⟩ := h.run
  obtain ⟨d1, d2⟩ := aput_dst hp
  have vf := view_facts (F := W ++ F) h.okw (fun i hi => List.mem_append_left _ hi)
  refine ⟨R, h2, ⟨fun Q μ a w K hR hT hd hK => wpOp_aop hc hj hw h1 hR hT hK, d1, d2, fun i => ?_, ⟨h2.symm, by simp only [mkStp, h2]; exact h.le⟩, rfl, vf.1, vf.2.1, vf.2.2.1, vf.2.2.2⟩⟩
  have := h3 i
  rw [← h2] at this
  exact ⟨fun hi => this.trans (if_pos hi), fun hi => this.trans (if_neg hi)⟩
theorem sok_skip (hc : CxOK cx) {j : Nat} {o : Oper} {τ τ' : Tmps} {H : AHeap} (hj : ops[j]? = some o) (hw : awanted ops (restr τ (o.looksAt ops)) o = some false) (hp : aput N o.dst undef τ = some τ') : SOK cx N ops j (mkStp τ H [] [] (viewL [] [] H) undef (o.looksAt ops) o) (τ', H) := by
  obtain ⟨d1, d2⟩ := aput_dst hp
  have vf := view_facts (H := H) (W := []) (F := []) rfl (fun _ h => h)
  refine ⟨fun Q μ a w K hR hT hd hK => wpOp_skip hj hw hT (hK μ w undef (.undef μ) hR (Tn.refl hR)), d1, d2, fun i => ⟨?_, fun _ => rfl⟩, ⟨rfl, Nat.le_refl _⟩, rfl, vf.1, vf.2.1, vf.2.2.1, vf.2.2.2⟩
  rintro (hi | hi)
  · cases hi
  · exact absurd (show H.next ≤ i ∧ i < H.next from hi) (by omega)
/-- A call that is ordered against all that touches memory. -/
def mkCall (τ : Tmps) (H R : AHeap) (v : Value) (rd : List Nat) (o : Oper) : Stp := ⟨τ, H, H, R, v, .but [], none, rd, o⟩
theorem sok_call (hc : CxOK cx) {call : Calling} (hcall : CallOK cx call) {j : Nat} {o : Oper} {τ τ' : Tmps} {H R : AHeap} {g : FuncId} {vs : List Value} {v : Value} (hj : ops[j]? = some o) (hw : awanted ops (restr τ (o.looksAt ops)) o = some true)
    (hg : acallee cx.G (restr τ (o.looksAt ops)) o.op = some (g, vs)) (hr : call g vs H = some (v, R)) (hn : H.next ≤ R.next) (hp : aput N o.dst v τ = some τ') : SOK cx N ops j (mkCall τ H R v (o.looksAt ops) o) (τ', R) := by
  obtain ⟨d1, d2⟩ := aput_dst hp
  refine ⟨fun Q μ a w K hR hT hd hK => wpOp_call hc hcall hj hw hg hr hR hT hK, d1, d2, fun i => ⟨fun _ => rfl, fun hi => ?_⟩, ⟨rfl, hn⟩, rfl, fun i o' hi => ⟨⟨rfl, AHeap.get_lt hi⟩, o', hi, .inl rfl⟩, fun i o hi _ => AHeap.get_lt hi, fun k ok i hk ha hi h => h, fun i hi => ⟨⟨rfl, hi⟩, rfl⟩⟩
  have h1 : ¬ i < H.next := fun h => hi (.inl h)
  have h2 : ¬ i < R.next := fun h => hi (.inr ⟨Nat.le_of_not_lt h1, h⟩)
  show R.get i = H.get i
  rw [AHeap.get_out (Nat.le_of_not_lt h1), AHeap.get_out (Nat.le_of_not_lt h2)]
/-- A call that needs none of the memory. -/
theorem sok_callN (hc : CxOK cx) {call : Calling} (hcall : CallOK cx call) {j : Nat} {o : Oper} {τ τ' : Tmps} {H H' : AHeap} {g : FuncId} {vs : List Value} {F W : List Nat} {v : Value} (hj : ops[j]? = some o) (hw : awanted ops (restr τ (o.looksAt ops)) o = some true)
    (hg : acallee cx.G (restr τ (o.looksAt ops)) o.op = some (g, vs)) (h : Local (call g vs) H F W v H') (hp : aput N o.dst v τ = some τ') : ∃ R, R.next = H'.next ∧ SOK cx N ops j (mkStp τ H F W R v (o.looksAt ops) o) (τ', H') := by
  obtain ⟨R, h1, h2, h3⟩ := h.run
  obtain ⟨d1, d2⟩ := aput_dst hp
  have vf := view_facts (F := W ++ F) h.okw (fun i hi => List.mem_append_left _ hi)
  refine ⟨R, h2, ⟨fun Q μ a w K hR hT hd hK => wpOp_call hc hcall hj hw hg h1 hR hT hK, d1, d2, fun i => ?_, ⟨h2.symm, by simp only [mkStp, h2]; exact h.le⟩, rfl, vf.1, vf.2.1, vf.2.2.1, vf.2.2.2⟩⟩
  have := h3 i
  rw [← h2] at this
  exact ⟨fun hi => this.trans (if_pos hi), fun hi => this.trans (if_neg hi)⟩

theorem clashNew_ids {F : List Nat} {n a b : Nat} (h : ∀ i ∈ F, i < a ∨ b ≤ i) : clashNew (.ids F) n a b = false := by
  simp only [clashNew, List.any_eq_false]
  intro i hi hh
  have := inR_iff.1 hh
  have := h i hi
  omega
theorem noclash_of {F W : List Nat} {n : Nat} {k : Stp} (hk : k.wr = some W) (h1 : ∀ i ∈ F, i ∉ W) (h2 : ∀ i ∈ F, i < k.h.next ∨ k.R.next ≤ i) : noclash (.ids F) n k = true := by
  unfold noclash
  rw [hk]
  simp only [Bool.and_eq_true, List.all_eq_true, Bool.or_eq_true, Bool.not_eq_true']
  refine ⟨fun i hi => .inl ?_, clashNew_ids h2⟩
  cases h : Foot.has (.ids F) i with
  | false => rfl
  | true => exact absurd hi (h1 i (inL_iff.1 h))
theorem apart_ok {s t : Stp} {e e' : Eff} (hs : effOf s = some e) (ht : effOf t = some e') (h : apart e e') : noclash s.foot s.h.next t = true ∧ noclash t.foot t.h.next s = true := by
  unfold effOf at hs ht
  split at hs
  · rename_i F W f1 f2
    split at ht
    · rename_i F' W' g1 g2
      injection hs with hs; injection ht with ht
      subst hs; subst ht
      rw [f1, g1]
      exact ⟨noclash_of g2 h.1.1 h.1.2, noclash_of f2 h.2.1 h.2.2⟩
    · injection ht with ht; subst ht; injection hs with hs; subst hs; cases h
    · cases ht
  · injection hs with hs; subst hs; cases h
  · cases hs

/-! ### The wp of such a region -/
/-- A place's row. -/
def ptrW (v : Value) (k : Nat → Prop) : Prop := match v with | .pointer (some a) => k a.block | _ => False
def mapW (v : Value) (k : List Nat → Prop) : Prop := match v with | .map none => k [] | .map (some r) => k [r] | _ => False
theorem ptrW_ptr (b o : Nat) (sp : Option Nat) (k : Nat → Prop) : ptrW (.pointer (some ⟨b, o, sp⟩)) k = k b := id rfl
theorem mapW_some (r : Nat) (k : List Nat → Prop) : mapW (.map (some r)) k = k [r] := id rfl
@[congr] theorem ptrW_congr {v v' : Value} {k : Nat → Prop} (h : v = v') : ptrW v k = ptrW v' k := by rw [h]
@[congr] theorem mapW_congr {v v' : Value} {k : List Nat → Prop} (h : v = v') : mapW v k = mapW v' k := by rw [h]
/-- What a slice's row is, with those that it may have grown out of. -/
def rowsOf (H : AHeap) (v : Value) : List Nat := match v with
  | .slice (some a) _ _ => (match H.get a.block with | some o => a.block :: o.par | none => [])
  | _ => []
def rowOf (v : Value) : List Nat := match v with
  | .slice (some a) _ _ => [a.block]
  | _ => []

def nlW (v : Value) (k : Value → Prop) : Prop := match v with | .pointer (some p) => k (.pointer (some p)) | _ => False
def cvW (cx : Cx) (s d : TypeId) (v : Value) (H : AHeap) (k : Value → Prop) : Prop := match v with
  | .int i n => bindR (aConv cx.T s d (.int i n) (viewL [] [] H)) fun u R => R = viewL [] [] H ∧ k u
  | _ => False
def apW (cx : Cx) (ts : Array TypeId) (vs : List Value) (H : AHeap) (K : Value → AHeap → Eff → Prop) : Prop := match vs with
  | [s, x] => bindR (aBuiltin cx.P cx.T .append ts [s, x] H) fun u H' => K u H' (.some (rowsOf H s ++ rowOf x) (rowsOf H s) H.next H'.next)
  | _ => False
def lnW (cx : Cx) (ts : Array TypeId) (vs : List Value) (H : AHeap) (k : Value → Prop) : Prop := match vs with
  | [.slice a n c] => bindR (aBuiltin cx.P cx.T .len ts [.slice a n c] H) fun u _ => k u
  | [.string s] => bindR (aBuiltin cx.P cx.T .len ts [.string s] H) fun u _ => k u
  | _ => False
/-- What a call may look at that was handed these: their rows, and what lies right behind them. -/
def refOf (v : Value) : List Nat := match v with
  | .pointer (some a) => [a.block]
  | .slice (some a) _ _ => [a.block]
  | .map (some r) => [r]
  | _ => []
def behindOf (H : AHeap) (b : Nat) : List Nat := match H.get b with
  | some (.cells cs _ _ _) => cs.flatMap refOf
  | _ => []
def reach : List Value → AHeap → List Nat
  | [], _ => []
  | v :: l, H => (refOf v ++ (refOf v).flatMap (behindOf H)) ++ reach l H
theorem reach_nil (H : AHeap) : reach [] H = [] := id rfl
def clW (cx : Cx) (near : Bool) (fv : Value) (vs : List Value) (H : AHeap) (K : Value → AHeap → Eff → Prop) : Prop := match fv with
  | .func (.func g) first cap => bif near then bindR (callS cx g (first.toList ++ vs ++ cap.toList) H) fun u H' => Local (callS cx g (first.toList ++ vs ++ cap.toList)) H (reach (first.toList ++ vs ++ cap.toList) H) [] u H' ∧ K u H' (.some (reach (first.toList ++ vs ++ cap.toList) H) [] H.next H'.next)
      else bindR (callS cx g (first.toList ++ vs ++ cap.toList) H) fun u R => H.next ≤ R.next ∧ K u R .all
  | _ => False
@[congr] theorem nlW_congr {v v' : Value} {k : Value → Prop} (h : v = v') : nlW v k = nlW v' k := by rw [h]
@[congr] theorem cvW_congr {cx : Cx} {s d : TypeId} {v v' : Value} {H : AHeap} {k : Value → Prop} (h : v = v') : cvW cx s d v H k = cvW cx s d v' H k := by rw [h]
@[congr] theorem apW_congr {cx : Cx} {ts : Array TypeId} {vs vs' : List Value} {H : AHeap} {K : Value → AHeap → Eff → Prop} (h : vs = vs') : apW cx ts vs H K = apW cx ts vs' H K := by rw [h]
@[congr] theorem lnW_congr {cx : Cx} {ts : Array TypeId} {vs vs' : List Value} {H : AHeap} {k : Value → Prop} (h : vs = vs') : lnW cx ts vs H k = lnW cx ts vs' H k := by rw [h]
@[congr] theorem clW_congr {cx : Cx} {near : Bool} {fv fv' : Value} {vs vs' : List Value} {H : AHeap} {K : Value → AHeap → Eff → Prop} (h : fv = fv') (h2 : vs = vs') : clW cx near fv vs H K = clW cx near fv' vs' H K := by rw [h, h2]
theorem nlW_ptr (a : Addr) (k : Value → Prop) : nlW (.pointer (some a)) k = k (.pointer (some a)) := id rfl
theorem cvW_int (cx : Cx) (s d : TypeId) (i : IntKind) (n : Int) (H : AHeap) (k : Value → Prop) : cvW cx s d (.int i n) H k = bindR (aConv cx.T s d (.int i n) (viewL [] [] H)) fun u R => R = viewL [] [] H ∧ k u := id rfl
theorem apW_two (cx : Cx) (ts : Array TypeId) (s x : Value) (H : AHeap) (K : Value → AHeap → Eff → Prop) : apW cx ts [s, x] H K = bindR (aBuiltin cx.P cx.T .append ts [s, x] H) fun u H' => K u H' (.some (rowsOf H s ++ rowOf x) (rowsOf H s) H.next H'.next) := id rfl
theorem lnW_slice (cx : Cx) (ts : Array TypeId) (a : Option Addr) (n c : Nat) (H : AHeap) (k : Value → Prop) : lnW cx ts [.slice a n c] H k = bindR (aBuiltin cx.P cx.T .len ts [.slice a n c] H) fun u _ => k u := id rfl
theorem lnW_string (cx : Cx) (ts : Array TypeId) (s : ByteArray) (H : AHeap) (k : Value → Prop) : lnW cx ts [.string s] H k = bindR (aBuiltin cx.P cx.T .len ts [.string s] H) fun u _ => k u := id rfl
theorem clW_far (cx : Cx) (g : FuncId) (vs : List Value) (H : AHeap) (K : Value → AHeap → Eff → Prop) : clW cx false (.func (.func g) #[] #[]) vs H K = bindR (callS cx g vs H) fun u R => H.next ≤ R.next ∧ K u R .all := by simp [clW]
theorem clW_near (cx : Cx) (g : FuncId) (vs : List Value) (H : AHeap) (K : Value → AHeap → Eff → Prop) : clW cx true (.func (.func g) #[] #[]) vs H K = bindR (callS cx g vs H) fun u H' => Local (callS cx g vs) H (reach vs H) [] u H' ∧ K u H' (.some (reach vs H) [] H.next H'.next) := by simp [clW]
/-- An operation on what is read; what it touches. -/
def regOp (cx : Cx) (near : Bool) (op : Op) (τ : Tmps) (H : AHeap) (K : Value → AHeap → Eff → Prop) (Kp : Value → Prop) : Prop := match op with
  | .load t x => bindV (aeval cx.G τ x) fun v => ptrW v fun b => bindR (aLoad cx.T t v H) fun u _ => K u H (.some [b] [] 0 0)
  | .lookup t x i ok => bindV (aeval cx.G τ x) fun m => bindV (aeval cx.G τ i) fun k => mapW m fun bs => bindV (aLookup cx.P cx.T t m k ok H) fun u => K u H (.some bs [] 0 0)
  | .alloc t => bindR (aAlloc cx.T t H) fun u H' => K u H' (.some [] [] H.next H'.next)
  | .box _ x => bindV (aeval cx.G τ x) fun v => bindR (aBox v H) fun u H' => K u H' (.some [] [] H.next H'.next)
  | .buildSlice t n ps => bindP (aparts cx.G τ ps.toList) fun vs => bindR (aBuildSlice cx.T t n vs H) fun u H' => K u H' (.some [] [] H.next H'.next)
  | .store t x y => bindV (aeval cx.G τ x) fun v => bindV (aeval cx.G τ y) fun u => ptrW v fun b => bindH (aStore cx.T t v u H) fun H' => (∀ cs ro par gs, H.get b = some (.cells cs ro par gs) → par = []) ∧ K undef H' (.some [b] [b] 0 0)
  | .mapUpdate t m k x => bindV (aeval cx.G τ m) fun v => bindV (aeval cx.G τ k) fun u => bindV (aeval cx.G τ x) fun y => mapW v fun bs => bindH (aMapUpdate cx.P cx.T t v u y H) fun H' => K undef H' (.some bs bs 0 0)
  | .mapEntry t m k => bindV (aeval cx.G τ m) fun v => bindV (aeval cx.G τ k) fun u => mapW v fun bs => bindR (aMapEntry cx.P cx.T t v u H) fun r H' => K r H' (.some bs bs 0 0)
  | .entryStore _ m s x => bindV (aeval cx.G τ m) fun v => bindV (aeval cx.G τ s) fun u => bindV (aeval cx.G τ x) fun y => mapW v fun bs => bindH (aEntryStore v u y H) fun H' => K undef H' (.some bs bs 0 0)
  | .call { callee := .builtin .append, args, argTypes } => bindL (aevals cx.G τ args.toList) fun vs => apW cx argTypes vs H K
  | .call { callee := .builtin .len, args, argTypes } => bindL (aevals cx.G τ args.toList) fun vs => lnW cx argTypes vs H Kp
  | .call { callee := .value f, args, .. } => bindV (aeval cx.G τ f) fun fv => bindL (aevals cx.G τ args.toList) fun vs => clW cx near fv vs H K
  | .binOp op t x y t2 => bindV (aeval cx.G τ x) fun v => bindV (aeval cx.G τ y) fun u => bindV ((aBin cx.P cx.T op t x y v u (viewL [] [] H)).bind fun v => if flat 1 v then some v else none) fun r => Kp r
  | .move x | .assign x => bindV (aeval cx.G τ x) Kp
  | .pick c x y => ifW (aeval cx.G τ c) (bindV (aeval cx.G τ x) Kp) (bindV (aeval cx.G τ y) Kp)
  | .build t ps => bindP (aparts cx.G τ ps.toList) fun vs => bindV (aBuild cx.T t vs) Kp
  | .nilCheck x => bindV (aeval cx.G τ x) fun v => nlW v Kp
  | .unOp op _ x => bindV (aeval cx.G τ x) fun v => bindV ((aUn cx.P op v).bind fun v => if flat 1 v then some v else none) Kp
  | .convert s d x => bindV (aeval cx.G τ x) fun v => cvW cx s d v H Kp
  | .slice t x lo hi none => bindV (aeval cx.G τ x) fun v => bindO (aopt cx.G τ lo) fun l => bindO (aopt cx.G τ hi) fun h => bindV (aSlice cx.T t v l h none (viewL [] [] H)) Kp
  | .fieldAddr t x f => bindV (aeval cx.G τ x) fun v => bindV (aFieldAddr cx.T t v f) Kp
  | .field t x f => bindV (aeval cx.G τ x) fun v => bindV (aField cx.T t v f) Kp
  | .indexAddr t x i => bindV (aeval cx.G τ x) fun v => bindV (aeval cx.G τ i) fun u => bindV (aIndexAddr cx.T t v u) Kp
  | .index t x i => bindV (aeval cx.G τ x) fun v => bindV (aeval cx.G τ i) fun u => bindV (aIndex cx.T t v u) Kp
  | .extract x i => bindV (aeval cx.G τ x) fun v => bindV (aExtract v i) Kp
  | _ => False

abbrev Info := List (List Nat × List Nat × Bool)
/-- Through a region's operations; 'inf': of each, the places that it looks at, those ahead of it that no edge orders with it, whether it is a call that needs none of the memory. -/
def regL (cx : Cx) (N : Nat) (ops : List Oper) (K : Tmps → AHeap → Prop) : List Oper → Info → Nat → List (Nat × Eff) → Tmps → AHeap → Prop
  | [], _, _, _, τ, H => K τ H
  | o :: l, (rd, un, near) :: inf, j, prev, τ, H =>
    let yes := regOp cx near o.op (restr τ rd) H
      (fun v H' e => clean un prev e ∧ match o.dst with
        | none => regL cx N ops K l inf (j + 1) ((j, e) :: prev) τ H'
        | some d => d < N ∧ regL cx N ops K l inf (j + 1) ((j, e) :: prev) (τ.put d (some v)) H')
      (fun v => match o.dst with
        | none => regL cx N ops K l inf (j + 1) prev τ H
        | some d => d < N ∧ regL cx N ops K l inf (j + 1) prev (τ.put d (some v)) H)
    let no := match o.dst with
        | none => regL cx N ops K l inf (j + 1) prev τ H
        | some d => d < N ∧ regL cx N ops K l inf (j + 1) prev (τ.put d (some undef)) H
    match o.guard with
    | none => yes
    | some (g, w) => gdW (dstV ops g (restr τ rd)) w yes no
  | _ :: _, [], _, _, _, _ => False

/-! ### Places -/
def noTo (rd : List Nat) (o t : Oper) : Bool := match t.dst with
  | none => true
  | some d => !(inL rd d) && !(match o.dst with | some d' => Nat.beq d d' | none => false)
def statPrev (M : List Nat) (j : Nat) (rd un : List Nat) (o : Oper) : List Oper → Info → Nat → Bool
  | o' :: l, (rd', _, _) :: inf, k => (Nat.ble j k || ((M.getD j 0).testBit k || (inL un k && noTo rd' o' o && noTo rd o o'))) && statPrev M j rd un o l inf (k + 1)
  | _, _, _ => true
def statGo (M : List Nat) (ops : Array Oper) (inf0 : Info) : List Oper → Info → Nat → Bool
  | [], _, _ => true
  | o :: l, (rd, un, _) :: inf, j => (rd == o.looksAt ops) && statPrev M j rd un o ops.toList inf0 0 && statGo M ops inf0 l inf (j + 1)
  | _ :: _, [], _ => false
def statAll (ops : Array Oper) (inf : Info) : Bool := match masksGo ops.toList [] with
  | M => Nat.beq M.length ops.size && ordOkGo M ops.toList 0 && statGo M ops inf ops.toList inf 0

section
variable {cx : Cx} {N : Nat} {ops : Array Oper}
theorem loadN_view {W F : List Nat} {H : AHeap} {b o n : Nat} {sp : Option Nat} (hb : b ∈ W ∨ b ∈ F) : loadN (viewL W F H) ⟨b, o, sp⟩ n = loadN H ⟨b, o, sp⟩ n := by
  unfold loadN
  simp only [get_viewL]
  by_cases h1 : b ∈ W
  · rw [if_pos (inL_iff.2 h1)]
  · rw [if_neg (by rw [inL_iff]; exact h1), if_pos (inL_iff.2 (hb.resolve_left h1))]
    cases H.get b with
    | none => rfl
    | some ob => cases ob <;> rfl
theorem view_next (W F : List Nat) (H : AHeap) : (viewL W F H).next = H.next := rfl
theorem view_at {W F : List Nat} {H : AHeap} {i : Nat} (h : i ∈ W) : (viewL W F H).get i = H.get i := by rw [get_viewL, if_pos (inL_iff.2 h)]

variable {f : AHeap → Option (Value × AHeap)} {H : AHeap} {v : Value}
theorem Local.same {F : List Nat} (h : f (viewL [] F H) = some (v, viewL [] F H)) : Local f H F [] v H :=
  ⟨⟨_, h, rfl, fun i => by rw [if_neg]; simp⟩, Nat.le_refl _, rfl⟩
theorem Local.new {o : AObj} (h : ∀ E : AHeap, E.next = H.next → f E = some (v, E.new o)) : Local f H [] [] v (H.new o) :=
  ⟨⟨_, h _ (view_next ..), rfl, fun i => by
    rw [AHeap.get_new]
    by_cases e : i = H.next
    · rw [if_pos e, if_pos (.inr (by simp [e])), AHeap.get_new, if_pos (by rw [e]; rfl)]
    · rw [if_neg e, if_neg]
      simp; omega⟩, by simp, rfl⟩
theorem Local.set {r : Nat} {o : AObj} (h : ∀ E : AHeap, E.next = H.next → E.get r = H.get r → f E = some (v, E.set r o)) (hr : r < H.next) (hp : ∀ o, H.get r = some o → o.par = []) : Local f H [] [r] v (H.set r o) :=
  ⟨⟨_, h _ (view_next ..) (view_at (by simp)), rfl, fun i => by
    rw [AHeap.get_set _ _ _ _ hr]
    by_cases e : i = r
    · rw [if_pos e, if_pos (.inl (by simp [e])), AHeap.get_set _ _ _ _ (show r < (viewL [r] ([r] ++ []) H).next from hr), if_pos e]
    · rw [if_neg e, if_neg]
      simp; omega⟩, Nat.le_refl _, by
    simp only [okW, List.all_cons, List.all_nil, Bool.and_true, Bool.and_eq_true]
    refine ⟨by simpa [Nat.blt_eq] using hr, ?_⟩
    cases hg : H.get r with
    | none => rfl
    | some ob => simp [hp ob hg]⟩

theorem aLoad_local {T : Tb} {t : TypeId} {b o : Nat} {sp : Option Nat} {u : Value} {H' : AHeap} (h : aLoad T t (.pointer (some ⟨b, o, sp⟩)) H = some (u, H')) : H' = H ∧ aLoad T t (.pointer (some ⟨b, o, sp⟩)) (viewL [] [b] H) = some (u, viewL [] [b] H) := by
  unfold aLoad at h ⊢
  simp only [loadN_view (W := []) (F := [b]) (H := H) (.inr (List.mem_singleton.2 rfl))] at h ⊢
  split at h
  · rename_i d i hd hi
    split at h
    · rename_i hag
      obtain ⟨vs, hvs, h⟩ := Option.map_eq_some_iff.1 h
      injection h with h1 h2
      subst h1; subst h2
      exact ⟨rfl, by rw [if_pos hag, hvs]; rfl⟩
    · rename_i hag
      split at h
      · rename_i v hv
        injection h with h
        injection h with h1 h2
        subst h1; subst h2
        exact ⟨rfl, by rw [if_neg hag]⟩
      · cases h
  · cases h
theorem aLookup_local {P : Program} {T : Tb} {t : TypeId} {m k u : Value} {ok : Bool} {bs : List Nat} (hm : m = .map none ∧ bs = [] ∨ ∃ r, m = .map (some r) ∧ bs = [r]) (h : aLookup P T t m k ok H = some u) : aLookup P T t m k ok (viewL [] bs H) = some u := by
  rw [← h]
  rcases hm with ⟨rfl, rfl⟩ | ⟨r, rfl, rfl⟩
  · rfl
  · unfold aLookup
    have : (viewL [] [r] H).get r = (H.get r).bind AObj.shut := by rw [get_viewL, if_neg (by simp [inL]), if_pos (by simp [inL])]
    simp only [this]
    cases H.get r with
    | none => rfl
    | some ob => cases ob <;> rfl
theorem aNew_inv {cs : List Value} {gs : Nat} {r : Value × AHeap} (h : aNew cs gs H = some r) : cs.all one = true ∧ r = (.pointer (some ⟨H.next, 0, none⟩), H.new (.cells cs false [] gs)) := by
  unfold aNew at h
  split at h
  · rename_i h1; injection h with h; exact ⟨h1, h.symm⟩
  · cases h

theorem aStore_inv {T : Tb} {t : TypeId} {b o : Nat} {sp : Option Nat} {u : Value} {H' : AHeap} (h : aStore T t (.pointer (some ⟨b, o, sp⟩)) u H = some H') (hp : ∀ cs ro par gs, H.get b = some (.cells cs ro par gs) → par = []) :
    b < H.next ∧ (∀ ob, H.get b = some ob → ob.par = []) ∧ ∃ o', H' = H.set b o' ∧ ∀ E : AHeap, E.next = H.next → E.get b = H.get b → aStore T t (.pointer (some ⟨b, o, sp⟩)) u E = some (E.set b o') := by
  unfold aStore at h ⊢
  simp only at h ⊢
  split at h
  · rename_i i hi
    split at h
    · rename_i hk
      unfold storeN at h ⊢
      simp only at h ⊢
      split at h
      · rename_i cs ro par gs hg
        have := hp _ _ _ _ hg
        subst this
        split at h
        · rename_i hc
          injection h with h
          refine ⟨AHeap.get_lt hg, fun ob hob => by rw [hg] at hob; injection hob with hob; subst hob; rfl, _, h.symm, fun E _ hE => ?_⟩
          rw [if_pos hk, hE, hg]
          simp only
          rw [if_pos hc]
          rfl
        · cases h
      · cases h
    · cases h
  · cases h
theorem aMapUpdate_inv {P : Program} {T : Tb} {t : TypeId} {m k u : Value} {H' : AHeap} (h : aMapUpdate P T t m k u H = some H') :
    ∃ r, m = .map (some r) ∧ r < H.next ∧ (∀ ob, H.get r = some ob → ob.par = []) ∧ ∃ o', H' = H.set r o' ∧ ∀ E : AHeap, E.next = H.next → E.get r = H.get r → aMapUpdate P T t m k u E = some (E.set r o') := by
  unfold aMapUpdate at h ⊢
  split at h
  · rename_i kt e r hu
    split at h
    · rename_i es ck hg
      split at h
      · rename_i hf
        have hr := AHeap.get_lt hg
        have hpar : ∀ ob, H.get r = some ob → ob.par = [] := fun ob hob => by rw [hg] at hob; injection hob with hob; subst hob; rfl
        split at h
        · rename_i x1 j c1 c2
          split at h
          · rename_i hb
            injection h with h
            refine ⟨r, rfl, hr, hpar, _, h.symm, fun E _ hE => ?_⟩
            simp only [hu, hE, hg, if_pos hf, c1, c2]
            rw [if_pos hb]
          · cases h
        · rename_i x1 c1 c2
          injection h with h
          refine ⟨r, rfl, hr, hpar, _, h.symm, fun E _ hE => ?_⟩
          simp only [hu, hE, hg, if_pos hf, c1, c2]
        · cases h
      · cases h
    · cases h
  · cases h
theorem aMapEntry_inv {P : Program} {T : Tb} {t : TypeId} {m k v : Value} {H' : AHeap} (h : aMapEntry P T t m k H = some (v, H')) :
    ∃ r, m = .map (some r) ∧ r < H.next ∧ (∀ ob, H.get r = some ob → ob.par = []) ∧ ∃ o', H' = H.set r o' ∧ ∀ E : AHeap, E.next = H.next → E.get r = H.get r → aMapEntry P T t m k E = some (v, E.set r o') := by
  unfold aMapEntry at h ⊢
  split at h
  · rename_i kt e r hu
    split at h
    · rename_i es ck hg
      split at h
      · rename_i hf
        have hr := AHeap.get_lt hg
        have hpar : ∀ ob, H.get r = some ob → ob.par = [] := fun ob hob => by rw [hg] at hob; injection hob with hob; subst hob; rfl
        split at h
        · rename_i x1 j c1 c2
          split at h
          · rename_i hb
            injection h with h
            injection h with h1 h2
            refine ⟨r, rfl, hr, hpar, _, h2.symm, fun E _ hE => ?_⟩
            simp only [hu, hE, hg, if_pos hf, c1, c2]
            rw [if_pos hb, h1]
          · cases h
        · rename_i x1 c1 c2
          obtain ⟨z, hz, h⟩ := Option.map_eq_some_iff.1 h
          injection h with h1 h2
          refine ⟨r, rfl, hr, hpar, _, h2.symm, fun E _ hE => ?_⟩
          simp only [hu, hE, hg, if_pos hf, c1, c2, hz, Option.map_some, h1]
        · cases h
      · cases h
    · cases h
  · cases h
theorem aEntryStore_inv {m s u : Value} {H' : AHeap} (h : aEntryStore m s u H = some H') :
    ∃ r, m = .map (some r) ∧ r < H.next ∧ (∀ ob, H.get r = some ob → ob.par = []) ∧ ∃ o', H' = H.set r o' ∧ ∀ E : AHeap, E.next = H.next → E.get r = H.get r → aEntryStore m s u E = some (E.set r o') := by
  unfold aEntryStore at h ⊢
  split at h
  · rename_i r k n
    split at h
    · rename_i es ck hg
      obtain ⟨j, hj, h⟩ := Option.map_eq_some_iff.1 h
      refine ⟨r, rfl, AHeap.get_lt hg, fun ob hob => by rw [hg] at hob; injection hob with hob; subst hob; rfl, _, h.symm, fun E _ hE => ?_⟩
      simp only [hE, hg, hj, Option.map_some]
    · cases h
  · cases h

theorem Local.of {F W : List Nat} {H' R : AHeap} (h : f (viewL W (W ++ F) H) = some (v, R)) (hn : R.next = H'.next) (hle : H.next ≤ H'.next) (h1 : ∀ i, i ∈ W → R.get i = H'.get i) (h2 : ∀ i, H.next ≤ i → i < H'.next → R.get i = H'.get i)
    (h3 : ∀ i, i ∉ W → i < H.next → H'.get i = H.get i) (hw : okW H W = true) : Local f H F W v H' :=
  ⟨⟨R, h, hn, fun i => by
    by_cases e1 : i ∈ W
    · rw [if_pos (.inl e1), h1 i e1]
    · by_cases e2 : H.next ≤ i ∧ i < H'.next
      · rw [if_pos (.inr e2), h2 i e2.1 e2.2]
      · rw [if_neg (by rintro (h | h); exact e1 h; exact e2 h)]
        rcases Nat.lt_or_ge i H.next with e3 | e3
        · exact h3 i e1 e3
        · rw [AHeap.get_out e3, AHeap.get_out]
          rcases Nat.lt_or_ge i H'.next with e4 | e4
          · exact absurd ⟨e3, e4⟩ e2
          · exact e4⟩, hle, hw⟩

/-- Nothing that a row has grown out of is written any more. -/
def Grew (H : AHeap) : Prop := ∀ i o, H.get i = some o → ∀ p, p ∈ o.par → p < H.next ∧ ∀ q, H.get p = some q → q.alive = false
theorem rows_okW (hg : Grew H) (s : Value) : okW H (rowsOf H s) = true := by
  unfold rowsOf
  split
  · rename_i a l c
    cases ha : H.get a.block with
    | none => rfl
    | some o =>
      simp only [okW, List.all_cons, Bool.and_eq_true, List.all_eq_true]
      refine ⟨⟨by simpa [Nat.blt_eq] using AHeap.get_lt ha, ?_⟩, fun p hp => ?_⟩
      · rw [ha]
        simp only [Bool.or_eq_true, List.all_eq_true]
        exact .inr fun x hx => inL_iff.2 (List.mem_cons_of_mem _ hx)
      · obtain ⟨h1, h2⟩ := hg _ o ha p hp
        refine ⟨by simpa [Nat.blt_eq] using h1, ?_⟩
        cases hq : H.get p with
        | none => rfl
        | some q => simp [h2 q hq]
  · rfl
theorem src_view {W F : List Nat} {size : Nat} {x : Value} (hx : ∀ i ∈ rowOf x, i ∈ F) : srcOf (viewL W F H) size x = srcOf H size x := by
  unfold srcOf
  split
  · rfl
  · rename_i a n c
    obtain ⟨b, o, sp⟩ := a
    rw [loadN_view (.inr (hx b (by simp [rowOf])))]
  · rfl
  · rfl
theorem aAppend_local {T : Tb} {t xt : TypeId} {s x : Value} {H' : AHeap} (hg : Grew H) (h : aAppend T t xt s x H = some (v, H')) : Local (aAppend T t xt s x) H (rowOf x) (rowsOf H s) v H' := by
  have hsrc : ∀ size, srcOf (viewL (rowsOf H s) (rowsOf H s ++ rowOf x) H) size x = srcOf H size x := fun size => src_view fun i hi => List.mem_append_right _ hi
  unfold aAppend at h
  split at h
  · rename_i e d hu hd
    split at h
    · cases h
    · rename_i hni
      split at h
      · rename_i i z hi hz
        split at h
        · cases h
        · rename_i h0
          split at h
          · rename_i n vs hs
            split at h
            · -- nil
              split at h
              · rename_i hn
                injection h with h; injection h with h1 h2
                subst h1; subst h2
                refine .of (R := viewL [] ([] ++ rowOf x) H) ?_ rfl (Nat.le_refl _) (fun i hi => by cases hi) (fun i h1 h2 => absurd h1 (by omega)) (fun _ _ _ => rfl) rfl
                show aAppend T t xt _ x (viewL [] ([] ++ rowOf x) H) = _
                have := hsrc i.size
                simp only [rowsOf] at this
                unfold aAppend
                simp only [hu, hd, hi, hz, if_neg hni, if_neg h0, this, hs, hn, if_true]
              · rename_i hn
                split at h
                · rename_i hby
                  obtain ⟨r, hr, h⟩ := Option.map_eq_some_iff.1 h
                  obtain ⟨hall, rfl⟩ := aNew_inv hr
                  injection h with h1 h2
                  subst h1; subst h2
                  refine .of (R := (viewL [] ([] ++ rowOf x) H).new (.cells vs false [] i.size)) ?_ rfl (by simp) (fun i hi => by cases hi) (fun j h1 h2 => ?_) (fun j _ h2 => by rw [AHeap.get_new, if_neg (by omega)]) rfl
                  · show aAppend T t xt _ x (viewL [] ([] ++ rowOf x) H) = _
                    have := hsrc i.size
                    simp only [rowsOf] at this
                    unfold aAppend
                    simp only [hu, hd, hi, hz, if_neg hni, if_neg h0, this, hs, if_neg hn, if_pos hby, aNew, if_pos hall, Option.map_some]
                    rfl
                  · have e : j = H.next := by simp at h2; omega
                    rw [AHeap.get_new, AHeap.get_new, view_next, if_pos e, if_pos e]
                · cases h
            · rename_i a l c
              have hok : okW H (rowsOf H (.slice (some a) l c)) = true := rows_okW hg _
              have hrows : ∀ o, H.get a.block = some o → rowsOf H (.slice (some a) l c) = a.block :: o.par := fun o ho => by unfold rowsOf; simp only [ho]
              generalize hW : rowsOf H (.slice (some a) l c) = W at *
              have hin : ∀ o, H.get a.block = some o → a.block ∈ W := fun o ho => by rw [hrows o ho]; simp
              have hput : ∀ off vs' H1, storeN H ⟨a.block, off, none⟩ vs' = some H1 → ∃ R, storeN (viewL W (W ++ rowOf x) H) ⟨a.block, off, none⟩ vs' = some R ∧ R.next = H1.next ∧ H1.next = H.next ∧ (∀ i, i ∈ W → R.get i = H1.get i) ∧ (∀ i, i ∉ W → i < H.next → H1.get i = H.get i) ∧ okW H W = true := by
                intro off vs' H1 h1
                unfold storeN at h1
                simp only at h1
                split at h1
                · rename_i cs ro par gs ho
                  unfold storeN
                  simp only [view_at (hin _ ho), ho]
                  split at h1
                  · rename_i hc
                    injection h1 with h1
                    subst h1
                    have hb := AHeap.get_lt ho
                    rw [if_pos hc]
                    have hWe : W = a.block :: par := hrows _ ho
                    refine ⟨_, rfl, by simp [view_next], by simp, fun j hj => ?_, fun j hj hlt => ?_, hok⟩
                    · rw [AHeap.get_set _ _ _ _ (by simpa [view_next] using hb), AHeap.get_set _ _ _ _ (by simpa using hb)]
                      by_cases e : j = a.block
                      · rw [if_pos e, if_pos e]
                      · rw [if_neg e, if_neg e, AHeap.get_dels, AHeap.get_dels]
                        have : j ∈ par := by rw [hWe] at hj; exact (List.mem_cons.1 hj).resolve_left e
                        rw [if_pos this, if_pos this]
                    · rw [hWe] at hj
                      rw [AHeap.get_set _ _ _ _ (by simpa using hb), if_neg (fun e => hj (by simp [e])), AHeap.get_dels, if_neg (fun e => hj (List.mem_cons_of_mem _ e))]
                  · cases h1
                · cases h1
              have hload : ∀ o, H.get a.block = some o → ∀ n, loadN (viewL W (W ++ rowOf x) H) a n = loadN H a n := fun o ho n => loadN_view (.inl (hin o ho))
              have none_ : ∀ n old, loadN H a n = some old → ∃ o, H.get a.block = some o := fun n old h => by
                unfold loadN at h
                split at h
                · rename_i ho; exact ⟨_, ho⟩
                · cases h
              have start : aAppend T t xt (.slice (some a) l c) x (viewL W (W ++ rowOf x) H) = (if n = 0 then some (.slice (some a) l c, viewL W (W ++ rowOf x) H) else
                  if c < grow then
                    if l + n ≤ c then (storeN (viewL W (W ++ rowOf x) H) ⟨a.block, a.off + l * i.size, none⟩ vs).map fun H' => (.slice (some a) (l + n) c, H')
                    else if (l + n) * i.bytes ≤ 140737488355328 then
                      (loadN (viewL W (W ++ rowOf x) H) a (l * i.size)).bind fun old => (aNew (old ++ vs) i.size (viewL W (W ++ rowOf x) H)).map fun r => (.slice (some ⟨(viewL W (W ++ rowOf x) H).next, 0, none⟩) (l + n) (grow + (l + n)), r.2)
                    else none
                  else if c < empt then
                    if l + n ≤ c - grow then (storeN (viewL W (W ++ rowOf x) H) ⟨a.block, a.off + l * i.size, none⟩ vs).map fun H' => (.slice (some a) (l + n) c, H')
                    else match (viewL W (W ++ rowOf x) H).get a.block with
                      | some (.cells cs false par gs) =>
                        if gs = i.size ∧ l = c - grow ∧ a.off + l * i.size = cs.length ∧ (l + n) * i.bytes ≤ 140737488355328 then
                          some (.slice (some ⟨(viewL W (W ++ rowOf x) H).next, 0, none⟩) (l + n) (grow + (l + n)), ((viewL W (W ++ rowOf x) H).set a.block (.cells cs true par gs)).new (.cells (cs.drop a.off ++ vs) false (a.block :: par) gs))
                        else none
                      | _ => none
                  else none) := by
                unfold aAppend
                simp only [hu, hd, hi, hz, if_neg hni, if_neg h0, hsrc i.size, hs]
                rfl
              split at h
              · rename_i hn
                injection h with h; injection h with h1 h2
                subst h1; subst h2
                exact .of (R := viewL W (W ++ rowOf x) H) (start.trans (by rw [if_pos hn])) rfl (Nat.le_refl _) (fun j hj => view_at hj) (fun j h1 h2 => absurd h1 (by omega)) (fun _ _ _ => rfl) hok
              · rename_i hn
                split at h
                · rename_i hc
                  split at h
                  · rename_i hfit
                    obtain ⟨H1, hst, h⟩ := Option.map_eq_some_iff.1 h
                    injection h with h1 h2
                    subst h1; subst h2
                    obtain ⟨R, r1, r2, r3, r4, r5, r6⟩ := hput _ _ _ hst
                    refine .of (R := R) (start.trans (by rw [if_neg hn, if_pos hc, if_pos hfit, r1]; rfl)) r2 (by omega) r4 (fun i h1 h2 => absurd h1 (by omega)) r5 r6
                  · rename_i hfit
                    split at h
                    · rename_i hby
                      obtain ⟨old, ho, h⟩ := Option.bind_eq_some_iff.1 h
                      obtain ⟨r, hr, h⟩ := Option.map_eq_some_iff.1 h
                      obtain ⟨hall, rfl⟩ := aNew_inv hr
                      injection h with h1 h2
                      subst h1; subst h2
                      obtain ⟨ob, hob⟩ := none_ _ _ ho
                      refine .of (R := (viewL W (W ++ rowOf x) H).new (.cells (old ++ vs) false [] i.size)) (start.trans ?_) rfl (by simp) (fun j hj => ?_) (fun j h1 h2 => ?_) (fun j _ h2 => by rw [AHeap.get_new, if_neg (by omega)]) hok
                      · rw [if_neg hn, if_pos hc, if_neg hfit, if_pos hby, hload _ hob, ho]
                        simp only [Option.bind_some, aNew, if_pos hall, Option.map_some, view_next]
                      · rw [AHeap.get_new, AHeap.get_new, view_next, view_at hj]
                      · have e : j = H.next := by simp at h2; omega
                        rw [AHeap.get_new, AHeap.get_new, view_next, if_pos e, if_pos e]
                    · cases h
                · rename_i hc
                  split at h
                  · rename_i hce
                    split at h
                    · rename_i hfit
                      obtain ⟨H1, hst, h⟩ := Option.map_eq_some_iff.1 h
                      injection h with h1 h2
                      subst h1; subst h2
                      obtain ⟨R, r1, r2, r3, r4, r5, r6⟩ := hput _ _ _ hst
                      refine .of (R := R) (start.trans (by rw [if_neg hn, if_neg hc, if_pos hce, if_pos hfit, r1]; rfl)) r2 (by omega) r4 (fun i h1 h2 => absurd h1 (by omega)) r5 r6
                    · rename_i hfit
                      split at h
                      · rename_i cs par gs ho
                        split at h
                        · rename_i hcond
                          injection h with h; injection h with h1 h2
                          subst h1; subst h2
                          have hb := AHeap.get_lt ho
                          refine .of (R := ((viewL W (W ++ rowOf x) H).set a.block (.cells cs true par gs)).new (.cells (cs.drop a.off ++ vs) false (a.block :: par) gs)) (start.trans ?_) rfl (by simp) (fun j hj => ?_) (fun j h1 h2 => ?_) (fun j hj h2 => ?_) hok
                          · rw [if_neg hn, if_neg hc, if_pos hce, if_neg hfit, view_at (hin _ ho), ho]
                            simp only [if_pos hcond, view_next]
                          · rw [AHeap.get_new, AHeap.get_new, AHeap.get_set _ _ _ _ (by simpa [view_next] using hb), AHeap.get_set _ _ _ _ hb, view_at hj]
                            rfl
                          · have e : j = H.next := by simp at h2; omega
                            rw [AHeap.get_new, AHeap.get_new, if_pos (by simpa [view_next] using e), if_pos (by simpa using e)]
                          · rw [AHeap.get_new, if_neg (by simp; omega), AHeap.get_set _ _ _ _ hb, if_neg (fun e => hj (by rw [e]; exact hin _ ho))]
                        · cases h
                      · cases h
                  · cases h
            · cases h
          · cases h
      · cases h
  · cases h
end
end
end Go.Eng
set_option linter.unusedVariables false
set_option linter.unusedSimpArgs false
namespace Go.Eng
open Go
section
variable {cx : Cx} {N : Nat} {ops : Array Oper}

theorem bindV_inv {r : Option Value} {k : Value → Prop} (h : bindV r k) : ∃ v, r = some v ∧ k v := by cases r with | none => cases h | some v => exact ⟨v, rfl, h⟩
theorem bindR_inv {r : Option (Value × AHeap)} {k : Value → AHeap → Prop} (h : bindR r k) : ∃ v H, r = some (v, H) ∧ k v H := by cases r with | none => cases h | some v => exact ⟨v.1, v.2, rfl, h⟩
theorem bindH_inv {r : Option AHeap} {k : AHeap → Prop} (h : bindH r k) : ∃ v, r = some v ∧ k v := by cases r with | none => cases h | some v => exact ⟨v, rfl, h⟩
theorem bindL_inv {r : Option (List Value)} {k : List Value → Prop} (h : bindL r k) : ∃ v, r = some v ∧ k v := by cases r with | none => cases h | some v => exact ⟨v, rfl, h⟩
theorem bindO_inv {r : Option (Option Value)} {k : Option Value → Prop} (h : bindO r k) : ∃ v, r = some v ∧ k v := by cases r with | none => cases h | some v => exact ⟨v, rfl, h⟩
theorem bindP_inv {r : Option (List (Nat × Value))} {k : List (Nat × Value) → Prop} (h : bindP r k) : ∃ v, r = some v ∧ k v := by cases r with | none => cases h | some v => exact ⟨v, rfl, h⟩
theorem ptrW_inv {v : Value} {k : Nat → Prop} (h : ptrW v k) : ∃ b o sp, v = .pointer (some ⟨b, o, sp⟩) ∧ k b := by
  unfold ptrW at h
  split at h
  · rename_i a; obtain ⟨b, o, sp⟩ := a; exact ⟨b, o, sp, rfl, h⟩
  · cases h
theorem mapW_inv {v : Value} {k : List Nat → Prop} (h : mapW v k) : ∃ bs, (v = .map none ∧ bs = [] ∨ ∃ r, v = .map (some r) ∧ bs = [r]) ∧ k bs := by
  unfold mapW at h
  split at h
  · exact ⟨[], .inl ⟨rfl, rfl⟩, h⟩
  · rename_i r; exact ⟨[r], .inr ⟨r, rfl, rfl⟩, h⟩
  · cases h

/-- A declared touch covers a true one. -/
def covers (e : Option Eff) (F W : List Nat) (a b : Nat) : Prop := match e with
  | none => F = [] ∧ W = [] ∧ a = b
  | some (.some F1 W1 a1 b1) => F1 = F ∧ W1 = W ∧ ((a1 = a ∧ b1 = b) ∨ (a = b ∧ a1 = 0 ∧ b1 = 0))
  | some .all => True
inductive RegRes (cx : Cx) (op : Op) (τ : Tmps) (H : AHeap) (v : Value) (H' : AHeap) (e : Option Eff) : Prop
  | pure : aop cx.P cx.T cx.G τ op (viewL [] [] H) = some (v, viewL [] [] H) → H' = H → e = none → RegRes cx op τ H v H' e
  | op {F W : List Nat} : aop cx.P cx.T cx.G τ op H = some (v, H') → Local (aop cx.P cx.T cx.G τ op) H F W v H' → covers e (W ++ F) W H.next H'.next → RegRes cx op τ H v H' e
  | call {g : FuncId} {vs : List Value} : acallee cx.G τ op = some (g, vs) → callS cx g vs H = some (v, H') → H.next ≤ H'.next → e = some .all → RegRes cx op τ H v H' e
  | near {g : FuncId} {vs : List Value} {F : List Nat} : acallee cx.G τ op = some (g, vs) → callS cx g vs H = some (v, H') → Local (callS cx g vs) H F [] v H' → covers e F [] H.next H'.next → RegRes cx op τ H v H' e

theorem aLen_slice (T : Tb) (t : TypeId) (a : Option Addr) (n c : Nat) (H E : AHeap) : aLen T t (.slice a n c) H = aLen T t (.slice a n c) E := by
  unfold aLen
  cases T.und t with
  | none => rfl
  | some d => cases d <;> rfl
theorem aLen_string (T : Tb) (t : TypeId) (s : ByteArray) (H E : AHeap) : aLen T t (.string s) H = aLen T t (.string s) E := by
  unfold aLen
  cases T.und t with
  | none => rfl
  | some d => cases d <;> rfl
theorem regOp_ok {near : Bool} {op : Op} {τ : Tmps} {H : AHeap} {K : Value → AHeap → Eff → Prop} {Kp : Value → Prop} (hg : Grew H) (h : regOp cx near op τ H K Kp) :
    (∃ v, Kp v ∧ RegRes cx op τ H v H none) ∨ ∃ v H' e, K v H' e ∧ RegRes cx op τ H v H' (some e) := by
  unfold regOp at h
  split at h
  · -- load
    obtain ⟨v, hv, h⟩ := bindV_inv h
    obtain ⟨b, o, sp, rfl, h⟩ := ptrW_inv h
    obtain ⟨u, H', hu, h⟩ := bindR_inv h
    obtain ⟨rfl, h2⟩ := aLoad_local hu
    exact .inr ⟨u, H', _, h, .op (F := [b]) (W := []) (by simp only [aop, hv, Option.bind_some]; exact hu) (.same (by simp only [aop, hv, Option.bind_some]; exact h2)) ⟨rfl, rfl, .inr ⟨rfl, rfl, rfl⟩⟩⟩
  · -- lookup
    obtain ⟨m, hm, h⟩ := bindV_inv h
    obtain ⟨k, hk, h⟩ := bindV_inv h
    obtain ⟨bs, hb, h⟩ := mapW_inv h
    obtain ⟨u, hu, h⟩ := bindV_inv h
    exact .inr ⟨u, H, _, h, .op (F := bs) (W := []) (by simp only [aop, hm, hk, Option.bind_some, hu]; rfl) (.same (by simp only [aop, hm, hk, Option.bind_some, aLookup_local hb hu]; rfl)) ⟨rfl, rfl, .inr ⟨rfl, rfl, rfl⟩⟩⟩
  · -- alloc
    obtain ⟨u, H', hu, h⟩ := bindR_inv h
    have hu' := hu
    unfold aAlloc at hu
    obtain ⟨z, hz, hu⟩ := Option.bind_eq_some_iff.1 hu
    obtain ⟨hall, he⟩ := aNew_inv hu
    injection he with h1 h2
    subst h1; subst h2
    exact .inr ⟨_, _, _, h, .op (F := []) (W := []) hu' (.new fun E hE => by simp only [aop, aAlloc, hz, Option.bind_some, aNew, if_pos hall, hE]) ⟨rfl, rfl, .inl ⟨rfl, rfl⟩⟩⟩
  · -- box
    obtain ⟨x, hx, h⟩ := bindV_inv h
    obtain ⟨u, H', hu, h⟩ := bindR_inv h
    have hu' := hu
    unfold aBox at hu
    split at hu
    · rename_i hk
      obtain ⟨hall, he⟩ := aNew_inv hu
      injection he with h1 h2
      subst h1; subst h2
      exact .inr ⟨_, _, _, h, .op (F := []) (W := []) (by simp only [aop, hx, Option.bind_some]; exact hu') (.new fun E hE => by simp only [aop, hx, Option.bind_some, aBox, if_pos hk, aNew, if_pos hall, hE]) ⟨rfl, rfl, .inl ⟨rfl, rfl⟩⟩⟩
    · cases hu
  · -- buildSlice
    rename_i t n ps
    obtain ⟨x, hx, h⟩ := bindP_inv h
    obtain ⟨u, H', hu, h⟩ := bindR_inv h
    have hu' := hu
    unfold aBuildSlice at hu
    split at hu
    · rename_i e he
      split at hu
      · rename_i i z hi hz
        split at hu
        · rename_i hc
          obtain ⟨cs, hcs, hu⟩ := Option.bind_eq_some_iff.1 hu
          obtain ⟨r, hr, hu⟩ := Option.map_eq_some_iff.1 hu
          obtain ⟨hall, rfl⟩ := aNew_inv hr
          injection hu with h1 h2
          subst h1; subst h2
          exact .inr ⟨_, _, _, h, .op (F := []) (W := []) (by simp only [aop, hx, Option.bind_some]; exact hu') (.new fun E hE => by
            simp only [aop, hx, Option.bind_some, aBuildSlice, he, hi, hz, if_pos hc, hcs, aNew, if_pos hall, Option.map_some, hE]) ⟨rfl, rfl, .inl ⟨rfl, rfl⟩⟩⟩
        · cases hu
      · cases hu
    · cases hu
  · -- store
    obtain ⟨v, hv, h⟩ := bindV_inv h
    obtain ⟨u, hu, h⟩ := bindV_inv h
    obtain ⟨b, o, sp, rfl, h⟩ := ptrW_inv h
    obtain ⟨H', hs, hp, h⟩ := bindH_inv h
    obtain ⟨hlt, hpar, o', rfl, hE⟩ := aStore_inv hs hp
    exact .inr ⟨_, _, _, h, .op (F := []) (W := [b]) (by simp only [aop, hv, hu, Option.bind_some, hs]; rfl) (.set (fun E h1 h2 => by simp only [aop, hv, hu, Option.bind_some, hE E h1 h2]; rfl) hlt hpar) ⟨rfl, rfl, .inr ⟨rfl, rfl, rfl⟩⟩⟩
  · -- mapUpdate
    obtain ⟨m, hm, h⟩ := bindV_inv h
    obtain ⟨k, hk, h⟩ := bindV_inv h
    obtain ⟨y, hy, h⟩ := bindV_inv h
    obtain ⟨bs, hb, h⟩ := mapW_inv h
    obtain ⟨H', hs, h⟩ := bindH_inv h
    obtain ⟨r, rfl, hlt, hpar, o', rfl, hE⟩ := aMapUpdate_inv hs
    rcases hb with ⟨hb, _⟩ | ⟨r', hb, rfl⟩
    · cases hb
    · injection hb with hb; injection hb with hb; subst hb
      exact .inr ⟨_, _, _, h, .op (F := []) (W := [r]) (by simp only [aop, hm, hk, hy, Option.bind_some, hs]; rfl) (.set (fun E h1 h2 => by simp only [aop, hm, hk, hy, Option.bind_some, hE E h1 h2]; rfl) hlt hpar) ⟨rfl, rfl, .inr ⟨rfl, rfl, rfl⟩⟩⟩
  · -- mapEntry
    obtain ⟨m, hm, h⟩ := bindV_inv h
    obtain ⟨k, hk, h⟩ := bindV_inv h
    obtain ⟨bs, hb, h⟩ := mapW_inv h
    obtain ⟨u, H', hs, h⟩ := bindR_inv h
    obtain ⟨r, rfl, hlt, hpar, o', rfl, hE⟩ := aMapEntry_inv hs
    rcases hb with ⟨hb, _⟩ | ⟨r', hb, rfl⟩
    · cases hb
    · injection hb with hb; injection hb with hb; subst hb
      exact .inr ⟨_, _, _, h, .op (F := []) (W := [r]) (by simp only [aop, hm, hk, Option.bind_some, hs]) (.set (fun E h1 h2 => by simp only [aop, hm, hk, Option.bind_some, hE E h1 h2]) hlt hpar) ⟨rfl, rfl, .inr ⟨rfl, rfl, rfl⟩⟩⟩
  · -- entryStore
    obtain ⟨m, hm, h⟩ := bindV_inv h
    obtain ⟨k, hk, h⟩ := bindV_inv h
    obtain ⟨y, hy, h⟩ := bindV_inv h
    obtain ⟨bs, hb, h⟩ := mapW_inv h
    obtain ⟨H', hs, h⟩ := bindH_inv h
    obtain ⟨r, rfl, hlt, hpar, o', rfl, hE⟩ := aEntryStore_inv hs
    rcases hb with ⟨hb, _⟩ | ⟨r', hb, rfl⟩
    · cases hb
    · injection hb with hb; injection hb with hb; subst hb
      exact .inr ⟨_, _, _, h, .op (F := []) (W := [r]) (by simp only [aop, hm, hk, hy, Option.bind_some, hs]; rfl) (.set (fun E h1 h2 => by simp only [aop, hm, hk, hy, Option.bind_some, hE E h1 h2]; rfl) hlt hpar) ⟨rfl, rfl, .inr ⟨rfl, rfl, rfl⟩⟩⟩
  · -- append
    rename_i args ts
    obtain ⟨vs, hvs, h⟩ := bindL_inv h
    unfold apW at h
    split at h
    · rename_i s x
      obtain ⟨u, H', hu, h⟩ := bindR_inv h
      have hap : ∃ t xt, ts.toList = [t, xt] := by
        unfold aBuiltin at hu
        rcases hts : ts.toList with _ | ⟨t, _ | ⟨xt, _ | ⟨y, l⟩⟩⟩
        · rw [hts] at hu; cases hu
        · rw [hts] at hu; cases hu
        · exact ⟨t, xt, rfl⟩
        · rw [hts] at hu; cases hu
      obtain ⟨t, xt, ht⟩ := hap
      have hb : ∀ E, aBuiltin cx.P cx.T .append ts [s, x] E = aAppend cx.T t xt s x E := fun E => by simp only [aBuiltin, ht]
      have hu' := hu
      rw [hb] at hu
      have hL := aAppend_local hg hu
      refine .inr ⟨u, H', _, h, .op (F := rowOf x) (W := rowsOf H s) (by simp only [aop, hvs, Option.bind_some]; exact hu') ?_ ⟨rfl, rfl, .inl ⟨rfl, rfl⟩⟩⟩
      have e : aop cx.P cx.T cx.G τ (.call { callee := .builtin .append, args := args, argTypes := ts }) = aAppend cx.T t xt s x := by
        funext E
        simp only [aop, hvs, Option.bind_some, hb]
      rw [e]
      exact hL
    · cases h
  · -- len
    rename_i args ts
    obtain ⟨vs, hvs, h⟩ := bindL_inv h
    unfold lnW at h
    split at h
    · rename_i a n c
      obtain ⟨u, H', hu, h⟩ := bindR_inv h
      refine .inl ⟨u, h, .pure ?_ rfl rfl⟩
      simp only [aop, hvs, Option.bind_some]
      unfold aBuiltin at hu ⊢
      rcases hts : ts.toList with _ | ⟨t, l⟩
      · rw [hts] at hu; cases hu
      · rw [hts] at hu
        obtain ⟨w, hw, he⟩ := Option.map_eq_some_iff.1 hu
        injection he with h1 h2; subst h1
        show (aLen cx.T t (.slice a n c) (viewL [] [] H)).map (·, viewL [] [] H) = _
        rw [aLen_slice _ _ _ _ _ _ H, hw]; rfl
    · rename_i s
      obtain ⟨u, H', hu, h⟩ := bindR_inv h
      refine .inl ⟨u, h, .pure ?_ rfl rfl⟩
      simp only [aop, hvs, Option.bind_some]
      unfold aBuiltin at hu ⊢
      rcases hts : ts.toList with _ | ⟨t, l⟩
      · rw [hts] at hu; cases hu
      · rw [hts] at hu
        obtain ⟨w, hw, he⟩ := Option.map_eq_some_iff.1 hu
        injection he with h1 h2; subst h1
        show (aLen cx.T t (.string s) (viewL [] [] H)).map (·, viewL [] [] H) = _
        rw [aLen_string _ _ _ _ H, hw]; rfl
    · cases h
  · -- calls
    rename_i f args ts
    obtain ⟨fv, hf, h⟩ := bindV_inv h
    obtain ⟨vs, hvs, h⟩ := bindL_inv h
    unfold clW at h
    split at h
    · rename_i g first cap _
      have hg' : acallee cx.G τ (.call { callee := .value f, args := args, argTypes := ts }) = some (g, first.toList ++ vs ++ cap.toList) := by simp only [acallee, hf, hvs]
      cases near with
      | true =>
        obtain ⟨u, H', hu, hL, h⟩ := bindR_inv (show bindR _ _ from h)
        exact .inr ⟨u, H', _, h, .near hg' hu hL ⟨rfl, rfl, .inl ⟨rfl, rfl⟩⟩⟩
      | false =>
        obtain ⟨u, H', hu, hn, h⟩ := bindR_inv (show bindR _ _ from h)
        exact .inr ⟨u, H', _, h, .call hg' hu hn rfl⟩
    · cases h
  · -- binOp
    obtain ⟨v, hv, h⟩ := bindV_inv h
    obtain ⟨u, hu, h⟩ := bindV_inv h
    obtain ⟨r, hr, h⟩ := bindV_inv h
    obtain ⟨y, hy, hf⟩ := Option.bind_eq_some_iff.1 hr
    refine .inl ⟨r, h, .pure ?_ rfl rfl⟩
    split at hf
    · rename_i hfl
      injection hf with hf; subst hf
      simp only [aop, hv, hu, Option.bind_some, okFlat, hy, if_pos hfl]
    · cases hf
  · obtain ⟨v, hv, h⟩ := bindV_inv h
    exact .inl ⟨v, h, .pure (by simp only [aop, hv]; rfl) rfl rfl⟩
  · obtain ⟨v, hv, h⟩ := bindV_inv h
    exact .inl ⟨v, h, .pure (by simp only [aop, hv]; rfl) rfl rfl⟩
  · -- pick
    unfold ifW at h
    split at h
    · rename_i b hb
      cases b with
      | true =>
        obtain ⟨v, hv, h⟩ := bindV_inv (h.1 rfl)
        exact .inl ⟨v, h, .pure (by simp only [aop, hb, hv]; rfl) rfl rfl⟩
      | false =>
        obtain ⟨v, hv, h⟩ := bindV_inv (h.2 rfl)
        exact .inl ⟨v, h, .pure (by simp only [aop, hb, hv]; rfl) rfl rfl⟩
    · cases h
  · -- build
    obtain ⟨x, hx, h⟩ := bindP_inv h
    obtain ⟨v, hv, h⟩ := bindV_inv h
    exact .inl ⟨v, h, .pure (by simp only [aop, hx, Option.bind_some, hv]; rfl) rfl rfl⟩
  · -- nilCheck
    obtain ⟨v, hv, h⟩ := bindV_inv h
    unfold nlW at h
    split at h
    · rename_i p
      exact .inl ⟨_, h, .pure (by simp only [aop, hv]) rfl rfl⟩
    · cases h
  · -- unOp
    obtain ⟨v, hv, h⟩ := bindV_inv h
    obtain ⟨r, hr, h⟩ := bindV_inv h
    obtain ⟨y, hy, hf⟩ := Option.bind_eq_some_iff.1 hr
    refine .inl ⟨r, h, .pure ?_ rfl rfl⟩
    split at hf
    · rename_i hfl
      injection hf with hf; subst hf
      simp only [aop, hv, Option.bind_some, okFlat, hy, if_pos hfl]
    · cases hf
  · -- convert
    obtain ⟨v, hv, h⟩ := bindV_inv h
    unfold cvW at h
    split at h
    · obtain ⟨u, R, hu, rfl, h⟩ := bindR_inv h
      exact .inl ⟨u, h, .pure (by simp only [aop, hv, Option.bind_some]; exact hu) rfl rfl⟩
    · cases h
  · -- slice
    obtain ⟨v, hv, h⟩ := bindV_inv h
    obtain ⟨l, hl, h⟩ := bindO_inv h
    obtain ⟨g, hg, h⟩ := bindO_inv h
    obtain ⟨u, hu, h⟩ := bindV_inv h
    have hm : aopt cx.G τ none = some none := rfl
    exact .inl ⟨u, h, .pure (by simp only [aop, hv, hl, hg, hm, Option.bind_some, hu, Option.map_some]) rfl rfl⟩
  · obtain ⟨v, hv, h⟩ := bindV_inv h
    obtain ⟨u, hu, h⟩ := bindV_inv h
    exact .inl ⟨u, h, .pure (by simp only [aop, hv, Option.bind_some, hu]; rfl) rfl rfl⟩
  · obtain ⟨v, hv, h⟩ := bindV_inv h
    obtain ⟨u, hu, h⟩ := bindV_inv h
    exact .inl ⟨u, h, .pure (by simp only [aop, hv, Option.bind_some, hu]; rfl) rfl rfl⟩
  · obtain ⟨v, hv, h⟩ := bindV_inv h
    obtain ⟨i, hi, h⟩ := bindV_inv h
    obtain ⟨u, hu, h⟩ := bindV_inv h
    exact .inl ⟨u, h, .pure (by simp only [aop, hv, hi, Option.bind_some, hu]; rfl) rfl rfl⟩
  · obtain ⟨v, hv, h⟩ := bindV_inv h
    obtain ⟨i, hi, h⟩ := bindV_inv h
    obtain ⟨u, hu, h⟩ := bindV_inv h
    exact .inl ⟨u, h, .pure (by simp only [aop, hv, hi, Option.bind_some, hu]; rfl) rfl rfl⟩
  · obtain ⟨v, hv, h⟩ := bindV_inv h
    obtain ⟨u, hu, h⟩ := bindV_inv h
    exact .inl ⟨u, h, .pure (by simp only [aop, hv, Option.bind_some, hu]; rfl) rfl rfl⟩
  · cases h

/-! ### A region's steps -/
theorem Rel.grew {G : Nat} {μ : Mu} {H : AHeap} {w : World} (hR : Rel G μ H w) : Grew H := fun i o h p hp => by
  obtain ⟨q, hq⟩ := hR.plt i o p h hp
  exact ⟨hR.fin p q hq, fun o' h' => hR.ro p i o' o h' h hp⟩
theorem TRel.restr {μ : Mu} {τ : Tmps} {tmps : Array Value} (h : TRel μ N τ tmps) (l : List Nat) : TRel μ N (restr τ l) tmps := ⟨h.size, fun t => by
  rw [tget_restr]
  split
  · exact h.at_ t
  · exact .any _⟩
/-- There is a world that says the same. -/
def Lives (cx : Cx) (N : Nat) (τ : Tmps) (H : AHeap) : Prop := ∃ (μ : Mu) (a : Act) (w : World), Rel cx.G μ H w ∧ TRel μ N τ a.tmps

theorem view_rel {G : Nat} {μ : Mu} {H : AHeap} {w : World} (hR : Rel G μ H w) : Rel G μ (viewL [] [] H) w := by
  have no : ∀ i o, (viewL [] [] H).get i = some o → False := fun i o h => by rw [get_viewL] at h; simp [inL] at h
  exact ⟨fun i o h => (no i o h).elim, fun i p h => hR.fin i p h, hR.base, hR.glob, fun i j oi oj pi pj _ h => (no _ _ h).elim, fun i j oi oj h => (no _ _ h).elim, fun i o j h => (no _ _ h).elim, fun i j oi oj pi pj h => (no _ _ h).elim⟩
theorem view_stay {G : Nat} {μ μ' : Mu} {H : AHeap} {w w' : World} (hR : Rel G μ H w) (hR' : Rel G μ' (viewL [] [] H) w') (t : Tn μ (viewL [] [] H) w μ' (viewL [] [] H) w') : Rel G μ H w' ∧ μ'.le μ := by
  have no : ∀ b, ¬ Img μ (viewL [] [] H) b := by
    rintro b ⟨i, o, p, h, _⟩
    rw [get_viewL] at h; simp [inL] at h
  have same : ∀ k, k < w.heap.size → w'.heap[k]? = w.heap[k]? := fun k hk => t.ext.block k hk (no k)
  refine ⟨⟨fun i o h => ?_, hR.fin, hR.base, hR.glob, hR.sep, hR.ro, hR.plt, hR.pend⟩, fun i p h => ?_⟩
  · obtain ⟨p, x, h1, h2, h3⟩ := hR.dom i o h
    exact ⟨p, x, h1, by rw [same _ (Array.getElem?_eq_some_iff.1 h2).1]; exact h2, h3⟩
  · have := t.old i (hR'.fin i p h)
    rw [← this]; exact h

theorem Lives.put {τ τ' : Tmps} {H' : AHeap} {μ' : Mu} {dst : Option Tmp} {v v' : Value} {a : Act} {w' : World} (hR : Rel cx.G μ' H' w') (hT : TRel μ' N τ a.tmps) (hv : VRel μ' v v') (hp : aput N dst v τ = some τ') : Lives cx N τ' H' :=
  ⟨μ', a.put dst v', w', hR, aput_ok hT hv hp⟩

theorem RegRes.lives (hc : CxOK cx) {o : Oper} {τ τ' : Tmps} {H H' : AHeap} {v : Value} {e : Option Eff} (h : RegRes cx o.op (restr τ (o.looksAt ops)) H v H' e) (hL : Lives cx N τ H) (hp : aput N o.dst v τ = some τ') : Lives cx N τ' H' := by
  obtain ⟨μ, a, w, hR, hT⟩ := hL
  have hT' := hT.restr (o.looksAt ops)
  have fromCall : ∀ g vs, acallee cx.G (restr τ (o.looksAt ops)) o.op = some (g, vs) → callS cx g vs H = some (v, H') → Lives cx N τ' H' := by
    intro g vs hg hcall
    obtain ⟨vs', k1, k2⟩ := acallee_ok (a := a) hR hT' hg
    obtain ⟨fn, f1, f2⟩ := callS_ok hc g vs H v H' hcall
    rcases f2 with ⟨hb, hA⟩ | ⟨hb, hfl, hx, hv, rfl⟩
    · obtain ⟨e1, w1, fr, hq, _⟩ := hA μ w vs' hR k1 []
      obtain ⟨v1, v', H1, μ', rfl, q1, q2, q3, rfl, rfl⟩ := hq
      exact Lives.put q2 (hT.mono q3.le) q1 hp
    · exact Lives.put hR hT (flat_rel 1 _ hv) hp
  cases h with
  | pure h1 h2 h3 =>
    subst h2
    obtain ⟨n, w', μ', k1, k2, k3, k4⟩ := aop_ok (a := a) hc.tb (view_rel hR) hT' h1
    obtain ⟨r1, r2⟩ := view_stay hR k3 k4
    rcases k2 with ⟨v', _, hv⟩ | ⟨_, hv⟩
    · exact Lives.put r1 hT (hv.mono r2) hp
    · exact Lives.put (v' := undef) r1 hT (by have hv : v = undef := hv; rw [hv]; exact .undef μ) hp
  | op h1 h2 h3 =>
    obtain ⟨n, w', μ', k1, k2, k3, k4⟩ := aop_ok (a := a) hc.tb hR hT' h1
    rcases k2 with ⟨v', _, hv⟩ | ⟨_, hv⟩
    · exact Lives.put k3 (hT.mono k4.le) hv hp
    · exact Lives.put (v' := undef) k3 (hT.mono k4.le) (by have hv : v = undef := hv; rw [hv]; exact .undef μ') hp
  | call h1 h2 h3 h4 => exact fromCall _ _ h1 h2
  | near h1 h2 h3 h4 => exact fromCall _ _ h1 h2

/-- What was declared of a step. -/
def Decl (s : Stp) (e : Option Eff) : Prop := match e with
  | none => s.foot = .ids [] ∧ s.wr = some [] ∧ s.h.next = s.R.next
  | some (.some F W a b) => s.foot = .ids F ∧ s.wr = some W ∧ ((a = s.h.next ∧ b = s.R.next) ∨ (s.h.next = s.R.next ∧ a = 0 ∧ b = 0))
  | some .all => True
def Nc (s t : Stp) : Prop := noclash s.foot s.h.next t = true ∧ noclash t.foot t.h.next s = true
theorem Nc.symm {s t : Stp} (h : Nc s t) : Nc t s := ⟨h.2, h.1⟩
theorem nc_pure {s t : Stp} (h : Decl s none) : Nc s t := by
  obtain ⟨h1, h2, h3⟩ := h
  unfold Nc
  constructor
  · rw [h1]
    unfold noclash
    split
    · rfl
    · simp [Foot.has, inL, clashNew]
  · unfold noclash
    rw [h2]
    simp only [List.all_nil, Bool.true_and, Bool.not_eq_true']
    unfold clashNew
    split
    · simp only [List.any_eq_false]
      intro i _ hh
      have := inR_iff.1 hh
      omega
    · simp only [Bool.not_eq_false', Bool.or_eq_true, Nat.ble_eq]
      exact .inl (.inl (by omega))
theorem nc_apart {s t : Stp} {e e' : Eff} (hs : Decl s (some e)) (ht : Decl t (some e')) (h : apart e e') : Nc s t := by
  cases e with
  | all => cases e' <;> cases h
  | some F W a b =>
    cases e' with
    | all => cases h
    | some F' W' a' b' =>
      obtain ⟨⟨a1, a2⟩, b1, b2⟩ := h
      obtain ⟨s1, s2, s3⟩ := hs
      obtain ⟨t1, t2, t3⟩ := ht
      unfold Nc
      rw [s1, t1]
      refine ⟨noclash_of t2 a1 fun i hi => ?_, noclash_of s2 b1 fun i hi => ?_⟩
      · rcases t3 with ⟨rfl, rfl⟩ | ⟨h, _⟩
        · exact a2 i hi
        · omega
      · rcases s3 with ⟨rfl, rfl⟩ | ⟨h, _⟩
        · exact b2 i hi
        · omega

theorem clean_at {un : List Nat} {e : Eff} : ∀ {prev : List (Nat × Eff)}, clean un prev e → ∀ k e', (k, e') ∈ prev → k ∈ un → apart e e' := by
  intro prev
  induction prev with
  | nil => intro _ k e' h; cases h
  | cons x l ih =>
    obtain ⟨k0, e0⟩ := x
    intro h k e' hm hk
    obtain ⟨h1, h2⟩ := h
    rcases List.mem_cons.1 hm with h | h
    · injection h with a b; subst a; subst b; exact h1 hk
    · exact ih h2 k e' h hk

/-- What is known of a region's steps. -/
structure Steps2 (cx : Cx) (N : Nat) (ops : Array Oper) (l : List Oper) (inf : Info) (j : Nat) (prev : List (Nat × Eff)) (τ : Tmps) (H : AHeap) (ps : List Stp) (f : St) : Prop where
  len : ps.length = l.length
  first : stAt ps f 0 = (τ, H)
  last : stAt ps f ps.length = f
  ok : ∀ i o, l[i]? = some o → ∃ sp, ps[i]? = some sp ∧ sp.o = o ∧ sp.rd = o.looksAt ops ∧ SOK cx N ops (j + i) sp (stAt ps f (i + 1))
  old : ∀ (b : Nat) (t : Stp) (rd un : List Nat) (nr : Bool), ps[b]? = some t → inf[b]? = some (rd, un, nr) → ∀ (k : Nat) (e : Eff) (s : Stp), (k, e) ∈ prev → k ∈ un → Decl s (some e) → Nc s t
  pairs : ∀ (a b : Nat) (s t : Stp) (rd un : List Nat) (nr : Bool), a < b → ps[a]? = some s → ps[b]? = some t → inf[b]? = some (rd, un, nr) → (j + a) ∈ un → Nc s t

theorem RegRes.step (hc : CxOK cx) {j : Nat} {o : Oper} {τ τ' : Tmps} {H H' : AHeap} {v : Value} {e : Option Eff} (hj : ops[j]? = some o) (hw : awanted ops (restr τ (o.looksAt ops)) o = some true) (h : RegRes cx o.op (restr τ (o.looksAt ops)) H v H' e) (hp : aput N o.dst v τ = some τ') :
    ∃ sp : Stp, sp.o = o ∧ sp.τ = τ ∧ sp.h = H ∧ sp.rd = o.looksAt ops ∧ SOK cx N ops j sp (τ', H') ∧ Decl sp e := by
  cases h with
  | pure h1 h2 h3 =>
    subst h2; subst h3
    obtain ⟨R, r1, r2⟩ := sok_local (F := []) (W := []) (H' := H') hc hj hw ⟨⟨_, h1, rfl, fun i => by rw [if_neg]; simp⟩, Nat.le_refl _, rfl⟩ hp
    exact ⟨_, rfl, rfl, rfl, rfl, r2, rfl, rfl, r1.symm⟩
  | op h1 h2 h3 =>
    obtain ⟨R, r1, r2⟩ := sok_local hc hj hw h2 hp
    refine ⟨_, rfl, rfl, rfl, rfl, r2, ?_⟩
    cases e with
    | none =>
      obtain ⟨q1, q2, q3⟩ := h3
      subst q2
      exact ⟨by simp only [mkStp, q1], rfl, by simp only [mkStp, r1]; exact q3⟩
    | some e =>
      cases e with
      | all => trivial
      | some F1 W1 a1 b1 =>
        obtain ⟨q1, q2, q3⟩ := h3
        subst q1; subst q2
        refine ⟨rfl, rfl, ?_⟩
        simp only [mkStp, r1]
        exact q3
  | call h1 h2 h3 h4 =>
    subst h4
    exact ⟨_, rfl, rfl, rfl, rfl, sok_call hc (callS_ok hc) hj hw h1 h2 h3 hp, trivial⟩
  | near h1 h2 h3 h4 =>
    obtain ⟨R, r1, r2⟩ := sok_callN hc (callS_ok hc) hj hw h1 h3 hp
    refine ⟨_, rfl, rfl, rfl, rfl, r2, ?_⟩
    cases e with
    | none =>
      obtain ⟨rfl, q2, q3⟩ := h4
      exact ⟨rfl, rfl, by simp only [mkStp, r1]; exact q3⟩
    | some e =>
      cases e with
      | all => trivial
      | some F1 W1 a1 b1 =>
        obtain ⟨q1, q2, q3⟩ := h4
        subst q1; subst q2
        refine ⟨rfl, rfl, ?_⟩
        simp only [mkStp, r1]
        exact q3

theorem Steps2.cons {l : List Oper} {inf : Info} {j : Nat} {prev : List (Nat × Eff)} {τ τ' : Tmps} {H H' : AHeap} {ps : List Stp} {f : St} {o : Oper} {sp : Stp} {rd un : List Nat} {nr : Bool} {e : Option Eff}
    (h1 : sp.o = o) (h2 : sp.τ = τ) (h3 : sp.h = H) (hrd : sp.rd = o.looksAt ops) (h4 : SOK cx N ops j sp (τ', H')) (h5 : Decl sp e) (hcl : ∀ e0, e = some e0 → clean un prev e0)
    (h : Steps2 cx N ops l inf (j + 1) (match e with | some e => (j, e) :: prev | none => prev) τ' H' ps f) : Steps2 cx N ops (o :: l) ((rd, un, nr) :: inf) j prev τ H (sp :: ps) f where
  len := by simp [h.len]
  first := by simp [stAt, h2, h3]
  last := by have := h.last; simp [stAt] at this ⊢
  ok := fun i o' hi => by
    cases i with
    | zero =>
      simp at hi
      subst hi
      refine ⟨sp, rfl, h1, hrd, ?_⟩
      have : stAt (sp :: ps) f (0 + 1) = (τ', H') := by rw [← h.first]; simp [stAt]
      rw [this]
      exact h4
    | succ i =>
      obtain ⟨sp', m1, m2, m3, m4⟩ := h.ok i o' (by simpa using hi)
      refine ⟨sp', by simpa using m1, m2, m3, ?_⟩
      have : stAt (sp :: ps) f (i + 1 + 1) = stAt ps f (i + 1) := by simp [stAt]
      rw [this, show j + (i + 1) = j + 1 + i by omega]
      exact m4
  old := fun b t rd' un' nr' hb hi k e' s hm hk hD => by
    cases b with
    | zero =>
      simp at hb hi
      obtain ⟨rfl, rfl, rfl⟩ := hi
      subst hb
      cases e with
      | none => exact (nc_pure h5).symm
      | some e0 => exact (nc_apart h5 hD (clean_at (hcl e0 rfl) k e' hm hk)).symm
    | succ b => exact h.old b t rd' un' nr' (by simpa using hb) (by simpa using hi) k e' s (by cases e <;> simp [hm]) hk hD
  pairs := fun a b s t rd' un' nr' hab ha hb hi hm => by
    cases b with
    | zero => omega
    | succ b =>
      cases a with
      | zero =>
        simp at ha
        subst ha
        cases e with
        | none => exact nc_pure h5
        | some e0 => exact h.old b t rd' un' nr' (by simpa using hb) (by simpa using hi) j e0 sp (by simp) (by simpa using hm) h5
      | succ a => exact h.pairs a b s t rd' un' nr' (by omega) (by simpa using ha) (by simpa using hb) (by simpa using hi) (by rw [show j + 1 + a = j + (a + 1) by omega]; exact hm)

theorem regL_ok (hc : CxOK cx) {K : Tmps → AHeap → Prop} : ∀ (l : List Oper) (inf : Info) (j : Nat) (prev : List (Nat × Eff)) (τ : Tmps) (H : AHeap), (∀ i o, l[i]? = some o → ops[j + i]? = some o) → (∀ (i : Nat) (o : Oper) (x : List Nat × List Nat × Bool), l[i]? = some o → inf[i]? = some x → x.1 = o.looksAt ops) → Lives cx N τ H →
    regL cx N ops.toList K l inf j prev τ H → ∃ ps f, Steps2 cx N ops l inf j prev τ H ps f ∧ K f.1 f.2 := by
  intro l
  induction l with
  | nil =>
    intro inf j prev τ H _ _ _ h
    exact ⟨[], (τ, H), ⟨rfl, rfl, rfl, fun i o h => (by simp at h), fun b t _ _ _ h => (by simp at h), fun a b s t _ _ _ _ h => (by simp at h)⟩, h⟩
  | cons o l ih =>
    intro inf j prev τ H hat hinf hL h
    cases inf with
    | nil => cases h
    | cons x inf =>
      obtain ⟨rd, un, near⟩ := x
      have hrd : rd = o.looksAt ops := hinf 0 o (rd, un, near) rfl rfl
      have hj : ops[j]? = some o := hat 0 o rfl
      have ih' := fun prev τ H => ih inf (j + 1) prev τ H (fun i o' h => by rw [show j + 1 + i = j + (i + 1) by omega]; exact hat (i + 1) o' (by simpa using h)) (fun i o' x h1 h2 => hinf (i + 1) o' x (by simpa using h1) (by simpa using h2))
      subst hrd
      simp only [regL] at h
      have dst : ∀ (v : Value) (H' : AHeap) (prev' : List (Nat × Eff)), (match o.dst with
          | none => regL cx N ops.toList K l inf (j + 1) prev' τ H'
          | some d => d < N ∧ regL cx N ops.toList K l inf (j + 1) prev' (τ.put d (some v)) H') → ∃ τ', aput N o.dst v τ = some τ' ∧ regL cx N ops.toList K l inf (j + 1) prev' τ' H' := by
        intro v H' prev' h
        split at h
        · rename_i hd; exact ⟨τ, by rw [hd]; rfl, h⟩
        · rename_i d hd; exact ⟨_, by rw [hd]; exact if_pos h.1, h.2⟩
      have yes : awanted ops (restr τ (o.looksAt ops)) o = some true → regOp cx near o.op (restr τ (o.looksAt ops)) H
          (fun v H' e => clean un prev e ∧ match o.dst with
            | none => regL cx N ops.toList K l inf (j + 1) ((j, e) :: prev) τ H'
            | some d => d < N ∧ regL cx N ops.toList K l inf (j + 1) ((j, e) :: prev) (τ.put d (some v)) H')
          (fun v => match o.dst with
            | none => regL cx N ops.toList K l inf (j + 1) prev τ H
            | some d => d < N ∧ regL cx N ops.toList K l inf (j + 1) prev (τ.put d (some v)) H) → ∃ ps f, Steps2 cx N ops (o :: l) ((o.looksAt ops, un, near) :: inf) j prev τ H ps f ∧ K f.1 f.2 := by
        intro hw hr
        have hg : Grew H := by obtain ⟨μ, a, w, hR, _⟩ := hL; exact hR.grew
        rcases regOp_ok hg hr with ⟨v, hk, hres⟩ | ⟨v, H', e, ⟨hcl, hk⟩, hres⟩
        · obtain ⟨τ', hp, hk⟩ := dst v H prev hk
          obtain ⟨sp, s1, s2, s3, s4, s5, s6⟩ := hres.step hc hj hw hp
          obtain ⟨ps, f, hS, hK⟩ := ih' prev τ' H (hres.lives hc hL hp) hk
          exact ⟨sp :: ps, f, .cons s1 s2 s3 s4 s5 s6 (fun e0 h => by cases h) hS, hK⟩
        · obtain ⟨τ', hp, hk⟩ := dst v H' _ hk
          obtain ⟨sp, s1, s2, s3, s4, s5, s6⟩ := hres.step hc hj hw hp
          obtain ⟨ps, f, hS, hK⟩ := ih' _ τ' H' (hres.lives hc hL hp) hk
          exact ⟨sp :: ps, f, .cons s1 s2 s3 s4 s5 s6 (fun e0 h => by injection h with h; subst h; exact hcl) hS, hK⟩
      have no : awanted ops (restr τ (o.looksAt ops)) o = some false → (match o.dst with
            | none => regL cx N ops.toList K l inf (j + 1) prev τ H
            | some d => d < N ∧ regL cx N ops.toList K l inf (j + 1) prev (τ.put d (some undef)) H) → ∃ ps f, Steps2 cx N ops (o :: l) ((o.looksAt ops, un, near) :: inf) j prev τ H ps f ∧ K f.1 f.2 := by
        intro hw hk
        obtain ⟨τ', hp, hk⟩ := dst undef H prev hk
        have hL' : Lives cx N τ' H := by
          obtain ⟨μ, a, w, hR, hT⟩ := hL
          exact Lives.put hR hT (.undef μ) hp
        obtain ⟨ps, f, hS, hK⟩ := ih' prev τ' H hL' hk
        exact ⟨_ :: ps, f, .cons (e := none) rfl rfl rfl rfl (sok_skip hc hj hw hp) ⟨rfl, rfl, rfl⟩ (fun e0 h => by cases h) hS, hK⟩
      split at h
      · rename_i hgd
        exact yes (by unfold awanted; rw [hgd]) h
      · rename_i g want hgd
        unfold gdW at h
        split at h
        · rename_i b hb
          obtain ⟨d, hd, hv⟩ := Option.map_eq_some_iff.1 hb
          have hd : (ops[g]?).bind (·.dst) = some d := by simpa using hd
          by_cases e : b = want
          · exact yes (by unfold awanted; rw [hgd]; simp only [hd, hv, e, beq_self_eq_true]) (h.1 e)
          · have e' : b = !want := by cases b <;> cases want <;> simp_all
            exact no (by unfold awanted; rw [hgd]; simp only [hd, hv, e']; cases want <;> rfl) (h.2 e')
        · rename_i c hb
          obtain ⟨d, hd, hv⟩ := Option.map_eq_some_iff.1 hb
          have hd : (ops[g]?).bind (·.dst) = some d := by simpa using hd
          exact no (by unfold awanted; rw [hgd]; simp only [hd, hv]) h
        · cases h

/-! ### The rule -/
theorem noTo_ok {s t : Stp} (h : noTo s.rd s.o t.o = true) : noT s t = true := h
theorem statPrev_at {M : List Nat} {j : Nat} {rd un : List Nat} {o : Oper} : ∀ (l : List Oper) (inf : Info) (k : Nat), statPrev M j rd un o l inf k = true → ∀ a o' x, l[a]? = some o' → inf[a]? = some x → k + a < j →
    befB M (k + a) j = true ∨ ((k + a) ∈ un ∧ noTo x.1 o' o = true ∧ noTo rd o o' = true) := by
  intro l
  induction l with
  | nil => intro inf k _ a o' x h; simp at h
  | cons y l ih =>
    intro inf k h a o' x ha hx hlt
    cases inf with
    | nil => simp at hx
    | cons z inf =>
      obtain ⟨rd', un', nr'⟩ := z
      simp only [statPrev, Bool.and_eq_true, Bool.or_eq_true, Nat.ble_eq] at h
      cases a with
      | zero =>
        simp at ha hx
        subst ha; subst hx
        rcases h.1 with h1 | h1 | h1
        · omega
        · exact .inl h1
        · exact .inr ⟨inL_iff.1 h1.1.1, h1.1.2, h1.2⟩
      | succ a =>
        have := ih inf (k + 1) h.2 a o' x (by simpa using ha) (by simpa using hx) (by omega)
        rw [show k + (a + 1) = k + 1 + a by omega]
        exact this
theorem statGo_at {M : List Nat} {inf0 : Info} : ∀ (l : List Oper) (inf : Info) (j : Nat), statGo M ops inf0 l inf j = true → ∀ i o, l[i]? = some o → ∃ x, inf[i]? = some x ∧ x.1 = o.looksAt ops ∧ statPrev M (j + i) x.1 x.2.1 o ops.toList inf0 0 = true := by
  intro l
  induction l with
  | nil => intro inf j _ i o h; simp at h
  | cons y l ih =>
    intro inf j h i o hi
    cases inf with
    | nil => simp [statGo] at h
    | cons z inf =>
      obtain ⟨rd, un, nr⟩ := z
      simp only [statGo, Bool.and_eq_true, beq_iff_eq] at h
      cases i with
      | zero =>
        simp at hi
        subst hi
        exact ⟨_, rfl, h.1.1, h.1.2⟩
      | succ i =>
        obtain ⟨x, h1, h2, h3⟩ := ih inf (j + 1) h.2 i o (by simpa using hi)
        exact ⟨x, by simpa using h1, h2, by rw [show j + (i + 1) = j + 1 + i by omega]; exact h3⟩

/-- A region in whatever order. -/
theorem codeW_any (hc : CxOK cx) {id : Nat} {l : List Oper} {Q : PostW} {τ : Tmps} {H : AHeap} (inf : Info) (hs : statAll l.toArray inf = true) (h : Lives cx N τ H → regL cx N l (Q .normal) l inf 0 [] τ H) : codeW cx N (.region id l.toArray true) Q τ H := by
  rw [codeW_draws]
  intro μ a w hR hT hd
  have hL : Lives cx N τ H := ⟨μ, a, w, hR, hT⟩
  have hM : Nat.beq (masksGo l.toArray.toList []).length l.toArray.size = true ∧ ordOkGo (masksGo l.toArray.toList []) l.toArray.toList 0 = true ∧ statGo (masksGo l.toArray.toList []) l.toArray inf l.toArray.toList inf 0 = true := by
    unfold statAll at hs
    simp only [Bool.and_eq_true] at hs
    exact ⟨hs.1.1, hs.1.2, hs.2⟩
  obtain ⟨h1, h2, h3⟩ := hM
  have hO := ord_ok (Nat.eq_of_beq_eq_true h1) h2
  have sg := statGo_at _ _ 0 h3
  obtain ⟨ps, f, hS, hK⟩ := regL_ok (ops := l.toArray) hc l inf 0 [] τ H (fun i o h => by simpa using h) (fun i o x h1 h2 => by
    obtain ⟨y, e1, e2, _⟩ := sg i o (by simpa using h1)
    rw [e1] at h2; injection h2 with h2; subst h2; exact e2) hL (h hL)
  have key := steps_ok (cx := cx) (N := N) (ops := l.toArray) hc (id := id) (s := (τ, H)) (f := f) (ps := ps) hO (by rw [hS.len]; simp) hS.first hS.last
    (fun j o hj => by
      obtain ⟨sp, e1, e2, _, e3⟩ := hS.ok j o (by simpa using hj)
      exact ⟨sp, e1, e2, by simpa using e3⟩)
    (fun a b s t hab ha hb => by
      have hbl : b < l.length := by rw [← hS.len]; exact (List.getElem?_eq_some_iff.1 hb).1
      have hob : l[b]? = some l[b] := List.getElem?_eq_getElem hbl
      have hoa : l[a]? = some l[a] := List.getElem?_eq_getElem (by omega)
      obtain ⟨x, x1, x2, x3⟩ := sg b l[b] (by simp)
      obtain ⟨y, y1, y2, y3⟩ := sg a l[a] (by simp)
      obtain ⟨sb, b1, b2, b3, _⟩ := hS.ok b l[b] hob
      obtain ⟨sa, a1, a2, a3, _⟩ := hS.ok a l[a] hoa
      rw [hb] at b1; injection b1 with b1; subst b1
      rw [ha] at a1; injection a1 with a1; subst a1
      rcases statPrev_at _ _ 0 x3 a l[a] y (by simp) y1 (by omega) with h | ⟨m1, m2, m3⟩
      · left; simpa using h
      · right
        obtain ⟨rdx, unx, nrx⟩ := x
        have hn := hS.pairs a b s t rdx unx nrx hab ha hb x1 m1
        unfold pairOk
        rw [hn.1, hn.2, Bool.true_and, Bool.true_and, Bool.and_eq_true]
        refine ⟨noTo_ok ?_, noTo_ok ?_⟩
        · rw [a3, a2, b2, ← y2]; exact m2
        · rw [b3, a2, b2, ← x2]; exact m3)
  exact (key.mono fun e τ1 H1 ⟨e1, e2, e3⟩ => by subst e1; subst e2; subst e3; exact hK) μ a w hR hT hd
end
end Go.Eng
set_option linter.unusedVariables false
set_option linter.unusedSimpArgs false
namespace Go.Eng
open Go
section
variable (cx : Cx) (N : Nat) (ops : List Oper) (K : Tmps → AHeap → Prop)
@[congr] theorem regL_congr {cx : Cx} {N : Nat} {ops : List Oper} {K : Tmps → AHeap → Prop} {l : List Oper} {inf : Info} {j : Nat} {prev : List (Nat × Eff)} {τ τ' : Tmps} {H H' : AHeap} (h1 : τ = τ') (h2 : H = H') : regL cx N ops K l inf j prev τ H = regL cx N ops K l inf j prev τ' H' := by rw [h1, h2]
@[congr] theorem regOp_congr {cx : Cx} {near : Bool} {op : Op} {τ τ' : Tmps} {H H' : AHeap} {K : Value → AHeap → Eff → Prop} {Kp : Value → Prop} (h1 : τ = τ') (h2 : H = H') : regOp cx near op τ H K Kp = regOp cx near op τ' H' K Kp := by rw [h1, h2]
theorem regL_nil (inf : Info) (j : Nat) (prev : List (Nat × Eff)) (τ : Tmps) (H : AHeap) : regL cx N ops K [] inf j prev τ H = K τ H := id rfl
variable (l : List Oper) (rd un : List Nat) (nr : Bool) (inf : Info) (j : Nat) (prev : List (Nat × Eff)) (τ : Tmps) (H : AHeap) (d g : Nat) (w : Bool) (op : Op) (ty : TypeId) (ps : String) (af : Array Edge)
theorem regL_d : regL cx N ops K ({ dst := some d, op := op, type := ty, pos := ps, after := af, guard := none } :: l) ((rd, un, nr) :: inf) j prev τ H =
    regOp cx nr op (restr τ rd) H (fun v H' e => clean un prev e ∧ d < N ∧ regL cx N ops K l inf (j + 1) ((j, e) :: prev) (τ.put d (some v)) H') (fun v => d < N ∧ regL cx N ops K l inf (j + 1) prev (τ.put d (some v)) H) := id rfl
theorem regL_0 : regL cx N ops K ({ dst := none, op := op, type := ty, pos := ps, after := af, guard := none } :: l) ((rd, un, nr) :: inf) j prev τ H =
    regOp cx nr op (restr τ rd) H (fun v H' e => clean un prev e ∧ regL cx N ops K l inf (j + 1) ((j, e) :: prev) τ H') (fun v => regL cx N ops K l inf (j + 1) prev τ H) := id rfl
theorem regL_gd : regL cx N ops K ({ dst := some d, op := op, type := ty, pos := ps, after := af, guard := some (g, w) } :: l) ((rd, un, nr) :: inf) j prev τ H =
    gdW (dstV ops g (restr τ rd)) w (regOp cx nr op (restr τ rd) H (fun v H' e => clean un prev e ∧ d < N ∧ regL cx N ops K l inf (j + 1) ((j, e) :: prev) (τ.put d (some v)) H') (fun v => d < N ∧ regL cx N ops K l inf (j + 1) prev (τ.put d (some v)) H))
      (d < N ∧ regL cx N ops K l inf (j + 1) prev (τ.put d (some undef)) H) := id rfl
theorem regL_g0 : regL cx N ops K ({ dst := none, op := op, type := ty, pos := ps, after := af, guard := some (g, w) } :: l) ((rd, un, nr) :: inf) j prev τ H =
    gdW (dstV ops g (restr τ rd)) w (regOp cx nr op (restr τ rd) H (fun v H' e => clean un prev e ∧ regL cx N ops K l inf (j + 1) ((j, e) :: prev) τ H') (fun v => regL cx N ops K l inf (j + 1) prev τ H))
      (regL cx N ops K l inf (j + 1) prev τ H) := id rfl
end
attribute [go_sem ↓] regL_nil regL_d regL_0 regL_gd regL_g0
section
variable (cx : Cx) (near : Bool) (τ : Tmps) (H : AHeap) (K : Value → AHeap → Eff → Prop) (Kp : Value → Prop)
@[go_sem ↓] theorem regOp_load (t : TypeId) (x : Operand) : regOp cx near (.load t x) τ H K Kp = bindV (aeval cx.G τ x) fun v => ptrW v fun b => bindR (aLoad cx.T t v H) fun u _ => K u H (.some [b] [] 0 0) := id rfl
@[go_sem ↓] theorem regOp_lookup (t : TypeId) (x i : Operand) (ok : Bool) : regOp cx near (.lookup t x i ok) τ H K Kp = bindV (aeval cx.G τ x) fun m => bindV (aeval cx.G τ i) fun k => mapW m fun bs => bindV (aLookup cx.P cx.T t m k ok H) fun u => K u H (.some bs [] 0 0) := id rfl
@[go_sem ↓] theorem regOp_alloc (t : TypeId) : regOp cx near (.alloc t) τ H K Kp = bindR (aAlloc cx.T t H) fun u H' => K u H' (.some [] [] H.next H'.next) := id rfl
@[go_sem ↓] theorem regOp_box (t : TypeId) (x : Operand) : regOp cx near (.box t x) τ H K Kp = bindV (aeval cx.G τ x) fun v => bindR (aBox v H) fun u H' => K u H' (.some [] [] H.next H'.next) := id rfl
@[go_sem ↓] theorem regOp_buildSlice (t : TypeId) (n : Nat) (ps : List (Nat × Operand)) : regOp cx near (.buildSlice t n ps.toArray) τ H K Kp = bindP (aparts cx.G τ ps) fun vs => bindR (aBuildSlice cx.T t n vs H) fun u H' => K u H' (.some [] [] H.next H'.next) := id rfl
@[go_sem ↓] theorem regOp_store (t : TypeId) (x y : Operand) : regOp cx near (.store t x y) τ H K Kp = bindV (aeval cx.G τ x) fun v => bindV (aeval cx.G τ y) fun u => ptrW v fun b => bindH (aStore cx.T t v u H) fun H' => (∀ cs ro par gs, H.get b = some (.cells cs ro par gs) → par = []) ∧ K undef H' (.some [b] [b] 0 0) := id rfl
@[go_sem ↓] theorem regOp_mapUpdate (t : TypeId) (m k x : Operand) : regOp cx near (.mapUpdate t m k x) τ H K Kp = bindV (aeval cx.G τ m) fun v => bindV (aeval cx.G τ k) fun u => bindV (aeval cx.G τ x) fun y => mapW v fun bs => bindH (aMapUpdate cx.P cx.T t v u y H) fun H' => K undef H' (.some bs bs 0 0) := id rfl
@[go_sem ↓] theorem regOp_mapEntry (t : TypeId) (m k : Operand) : regOp cx near (.mapEntry t m k) τ H K Kp = bindV (aeval cx.G τ m) fun v => bindV (aeval cx.G τ k) fun u => mapW v fun bs => bindR (aMapEntry cx.P cx.T t v u H) fun r H' => K r H' (.some bs bs 0 0) := id rfl
@[go_sem ↓] theorem regOp_entryStore (t : TypeId) (m s x : Operand) : regOp cx near (.entryStore t m s x) τ H K Kp = bindV (aeval cx.G τ m) fun v => bindV (aeval cx.G τ s) fun u => bindV (aeval cx.G τ x) fun y => mapW v fun bs => bindH (aEntryStore v u y H) fun H' => K undef H' (.some bs bs 0 0) := id rfl
@[go_sem ↓] theorem regOp_append (args : List Operand) (ts : Array TypeId) : regOp cx near (.call { callee := .builtin .append, args := args.toArray, argTypes := ts }) τ H K Kp = bindL (aevals cx.G τ args) fun vs => apW cx ts vs H K := id rfl
@[go_sem ↓] theorem regOp_len (args : List Operand) (ts : Array TypeId) : regOp cx near (.call { callee := .builtin .len, args := args.toArray, argTypes := ts }) τ H K Kp = bindL (aevals cx.G τ args) fun vs => lnW cx ts vs H Kp := id rfl
@[go_sem ↓] theorem regOp_call (f : Operand) (args : List Operand) (ts : Array TypeId) : regOp cx near (.call { callee := .value f, args := args.toArray, argTypes := ts }) τ H K Kp = bindV (aeval cx.G τ f) fun fv => bindL (aevals cx.G τ args) fun vs => clW cx near fv vs H K := id rfl
@[go_sem ↓] theorem regOp_binOp (op : BinOp) (t t2 : TypeId) (x y : Operand) : regOp cx near (.binOp op t x y t2) τ H K Kp = bindV (aeval cx.G τ x) fun v => bindV (aeval cx.G τ y) fun u => bindV (aBinF cx.P cx.T op t x y v u (viewL [] [] H)) fun r => Kp r := id rfl
@[go_sem ↓] theorem regOp_move (x : Operand) : regOp cx near (.move x) τ H K Kp = bindV (aeval cx.G τ x) Kp := id rfl
@[go_sem ↓] theorem regOp_assign (x : Operand) : regOp cx near (.assign x) τ H K Kp = bindV (aeval cx.G τ x) Kp := id rfl
@[go_sem ↓] theorem regOp_pick (c x y : Operand) : regOp cx near (.pick c x y) τ H K Kp = ifW (aeval cx.G τ c) (bindV (aeval cx.G τ x) Kp) (bindV (aeval cx.G τ y) Kp) := id rfl
@[go_sem ↓] theorem regOp_build (t : TypeId) (ps : List (Nat × Operand)) : regOp cx near (.build t ps.toArray) τ H K Kp = bindP (aparts cx.G τ ps) fun vs => bindV (aBuild cx.T t vs) Kp := id rfl
@[go_sem ↓] theorem regOp_nilCheck (x : Operand) : regOp cx near (.nilCheck x) τ H K Kp = bindV (aeval cx.G τ x) fun v => nlW v Kp := id rfl
@[go_sem ↓] theorem regOp_unOp (op : UnOp) (t : TypeId) (x : Operand) : regOp cx near (.unOp op t x) τ H K Kp = bindV (aeval cx.G τ x) fun v => bindV (aUnF cx.P op v) Kp := id rfl
@[go_sem ↓] theorem regOp_convert (s d : TypeId) (x : Operand) : regOp cx near (.convert s d x) τ H K Kp = bindV (aeval cx.G τ x) fun v => cvW cx s d v H Kp := id rfl
@[go_sem ↓] theorem regOp_slice (t : TypeId) (x : Operand) (lo hi : Option Operand) : regOp cx near (.slice t x lo hi none) τ H K Kp = bindV (aeval cx.G τ x) fun v => bindO (aopt cx.G τ lo) fun l => bindO (aopt cx.G τ hi) fun h => bindV (aSlice cx.T t v l h none (viewL [] [] H)) Kp := id rfl
@[go_sem ↓] theorem regOp_fieldAddr (t : TypeId) (x : Operand) (f : Nat) : regOp cx near (.fieldAddr t x f) τ H K Kp = bindV (aeval cx.G τ x) fun v => bindV (aFieldAddr cx.T t v f) Kp := id rfl
@[go_sem ↓] theorem regOp_field (t : TypeId) (x : Operand) (f : Nat) : regOp cx near (.field t x f) τ H K Kp = bindV (aeval cx.G τ x) fun v => bindV (aField cx.T t v f) Kp := id rfl
@[go_sem ↓] theorem regOp_indexAddr (t : TypeId) (x i : Operand) : regOp cx near (.indexAddr t x i) τ H K Kp = bindV (aeval cx.G τ x) fun v => bindV (aeval cx.G τ i) fun u => bindV (aIndexAddr cx.T t v u) Kp := id rfl
@[go_sem ↓] theorem regOp_index (t : TypeId) (x i : Operand) : regOp cx near (.index t x i) τ H K Kp = bindV (aeval cx.G τ x) fun v => bindV (aeval cx.G τ i) fun u => bindV (aIndex cx.T t v u) Kp := id rfl
@[go_sem ↓] theorem regOp_extract (x : Operand) (i : Nat) : regOp cx near (.extract x i) τ H K Kp = bindV (aeval cx.G τ x) fun v => bindV (aExtract v i) Kp := id rfl
end
attribute [go_sem] reach_nil
attribute [go_sem ↓] ptrW_ptr mapW_some nlW_ptr cvW_int apW_two lnW_slice lnW_string clW_far clW_near
@[go_sem] theorem tget_restr1 (τ : Tmps) (l : List Nat) (t : Nat) : tget (restr τ l) t = if t ∈ l then tget τ t else unk := tget_restr τ l t
@[go_sem] theorem clean_nil (un : List Nat) (e : Eff) : clean un [] e = True := by simp [clean]
@[go_sem] theorem clean_cons (un : List Nat) (k : Nat) (e' : Eff) (l : List (Nat × Eff)) (e : Eff) : clean un ((k, e') :: l) e = ((k ∈ un → apart e e') ∧ clean un l e) := id rfl
@[go_sem] theorem apart_some (F W F' W' : List Nat) (a b a' b' : Nat) : apart (.some F W a b) (.some F' W' a' b') = (free1 F W' a' b' ∧ free1 F' W a b) := id rfl
@[go_sem] theorem free1_eq (F W : List Nat) (a b : Nat) : free1 F W a b = ((∀ i ∈ F, i ∉ W) ∧ ∀ i ∈ F, i < a ∨ b ≤ i) := id rfl
attribute [go_sem] List.mem_cons List.not_mem_nil List.mem_singleton forall_eq_or_imp forall_eq
@[go_sem] theorem view_next' (W F : List Nat) (H : AHeap) : (viewL W F H).next = H.next := id rfl
@[go_sem] theorem zle (n : Nat) : (0 ≤ n) = True := by simp
attribute [go_sem] and_self or_self
def appS (F : Option (List Value → AHeap → Option (Value × AHeap))) (vs : List Value) (H : AHeap) : Option (Value × AHeap) := match F with | some F => F vs H | none => none
@[go_sem] theorem appS_some (F : List Value → AHeap → Option (Value × AHeap)) (vs : List Value) (H : AHeap) : appS (some F) vs H = F vs H := id rfl
theorem callS_app {cx : Cx} {g : FuncId} (h : ∃ fn, cx.fn g = some fn) (vs : List Value) (H : AHeap) : callS cx g vs H = appS (cx.sp g) vs H := by
  obtain ⟨fn, hfn⟩ := h
  unfold callS appS
  rw [hfn]
  cases cx.sp g <;> rfl
def rowsW (r : Option AObj) (b : Nat) : List Nat := match r with | some o => b :: o.par | none => []
@[go_sem] theorem rowsOf_slice (H : AHeap) (b o : Nat) (sp : Option Nat) (l c : Nat) : rowsOf H (.slice (some ⟨b, o, sp⟩) l c) = rowsW (H.get b) b := id rfl
@[go_sem] theorem rowsOf_nil (H : AHeap) (l c : Nat) : rowsOf H (.slice none l c) = [] := id rfl
@[go_sem] theorem rowsW_cells (b : Nat) (cs : List Value) (ro : Bool) (par : List Nat) (gs : Nat) : rowsW (some (.cells cs ro par gs)) b = b :: par := id rfl
@[go_sem] theorem rowOf_slice (b o : Nat) (sp : Option Nat) (l c : Nat) : rowOf (.slice (some ⟨b, o, sp⟩) l c) = [b] := id rfl
@[go_sem] theorem rowOf_nil (l c : Nat) : rowOf (.slice none l c) = [] := id rfl
@[go_sem] theorem srcOf_one (H : AHeap) (sz b o : Nat) (sp : Option Nat) : srcOf H sz (.slice (some ⟨b, o, sp⟩) 1 1) = (ldN (H.get b) o (1 * sz)).map fun vs => (1, vs) := id rfl
attribute [go_sem] appW_nil
@[go_sem] theorem mem_append_iff (i : Nat) (a b : List Nat) : (i ∈ a ++ b) = (i ∈ a ∨ i ∈ b) := by simp
@[go_sem] theorem par_none (cs : List Value) (ro : Bool) (gs : Nat) : (∀ cs' ro' par' gs', some (AObj.cells cs ro [] gs) = some (.cells cs' ro' par' gs') → par' = []) = True := by
  simp only [eq_iff_iff, iff_true]
  intro cs' ro' par' gs' h
  injection h with h
  injection h with _ _ h _
  exact h.symm
end Go.Eng
set_option linter.unusedVariables false
set_option linter.unusedSimpArgs false
namespace Go.Eng
open Go
section
variable {cx : Cx} {N : Nat}
theorem bindV_mono {r : Option Value} {K K' : Value → Prop} (h : ∀ v, K v → K' v) (k : bindV r K) : bindV r K' := by cases r with | none => exact k | some v => exact h v k
theorem bindL_mono {r : Option (List Value)} {K K' : List Value → Prop} (h : ∀ v, K v → K' v) (k : bindL r K) : bindL r K' := by cases r with | none => exact k | some v => exact h v k
theorem bindR_mono {r : Option (Value × AHeap)} {K K' : Value → AHeap → Prop} (h : ∀ v H, K v H → K' v H) (k : bindR r K) : bindR r K' := by cases r with | none => exact k | some v => exact h v.1 v.2 k
theorem callW_mono {f : Value} {vs : List Value} {H : AHeap} {K K' : Value → AHeap → Prop} (h : ∀ v H, K v H → K' v H) (k : callW cx f vs H K) : callW cx f vs H K' := by
  unfold callW at k ⊢
  split at k
  · rename_i g first cap
    unfold spW at k ⊢
    split at k
    · exact ⟨k.1, bindR_mono h k.2⟩
    · rcases k with ⟨fn, f1, f2, f3, f4⟩ | ⟨v, f1, f2, f3, f4⟩
      · exact .inl ⟨fn, f1, f2, f3, f4.mono h⟩
      · exact .inr ⟨v, f1, f2, f3, h _ _ f4⟩
  · cases k
theorem opW_mono {op : Op} {τ : Tmps} {H : AHeap} {K K' : Value → AHeap → Prop} (h : ∀ v H, K v H → K' v H) (k : opW cx op τ H K) : opW cx op τ H K' := by
  unfold opW at k ⊢
  split at k
  · exact bindV_mono (fun f => bindL_mono fun vs => callW_mono h) k
  · exact bindR_mono h k
theorem gdW_mono {r : Option Value} {w : Bool} {p p' q q' : Prop} (h1 : p → p') (h2 : q → q') (k : gdW r w p q) : gdW r w p' q' := by
  unfold gdW at k ⊢
  split at k
  · exact ⟨fun e => h1 (k.1 e), fun e => h2 (k.2 e)⟩
  · exact h2 k
  · cases k
theorem opsW_mono {ops : Array Oper} {K K' : Tmps → AHeap → Prop} (h : ∀ τ H, K τ H → K' τ H) : ∀ (l : List Oper) (τ : Tmps) (H : AHeap), opsW cx N ops K l τ H → opsW cx N ops K' l τ H := by
  intro l
  induction l with
  | nil => intro τ H k; exact h τ H k
  | cons o l ih =>
    intro τ H k
    have yes : (opW cx o.op τ H fun v H' => match o.dst with
        | none => opsW cx N ops K l τ H'
        | some d => d < N ∧ opsW cx N ops K l (τ.put d (some v)) H') → opW cx o.op τ H fun v H' => match o.dst with
        | none => opsW cx N ops K' l τ H'
        | some d => d < N ∧ opsW cx N ops K' l (τ.put d (some v)) H' := opW_mono fun v H' k => by
      split at k
      · exact ih _ _ k
      · exact ⟨k.1, ih _ _ k.2⟩
    have no : (match o.dst with
        | none => opsW cx N ops K l τ H
        | some d => d < N ∧ opsW cx N ops K l (τ.put d (some undef)) H) → (match o.dst with
        | none => opsW cx N ops K' l τ H
        | some d => d < N ∧ opsW cx N ops K' l (τ.put d (some undef)) H) := fun k => by
      split at k
      · exact ih _ _ k
      · exact ⟨k.1, ih _ _ k.2⟩
    simp only [opsW] at k ⊢
    split at k
    · exact yes k
    · exact gdW_mono yes no k
theorem codeW_mono : ∀ (c : Code) {Q Q' : PostW}, (∀ e τ H, Q e τ H → Q' e τ H) → ∀ (τ : Tmps) (H : AHeap), codeW cx N c Q τ H → codeW cx N c Q' τ H := by
  intro c
  induction c with
  | skip => intro Q Q' h τ H k; exact h _ _ _ k
  | label l => intro Q Q' h τ H k; exact h _ _ _ k
  | ret => intro Q Q' h τ H k; exact h _ _ _ k
  | exit i => intro Q Q' h τ H k; exact h _ _ _ k
  | seq a b iha ihb =>
    intro Q Q' h τ H k
    refine iha (fun e τ H k => ?_) τ H k
    cases e <;> first | exact ihb h _ _ k | exact h _ _ _ k
  | cond c a b iha ihb =>
    intro Q Q' h τ H k
    simp only [codeW] at k ⊢
    unfold ifW at k ⊢
    split at k
    · exact ⟨fun e => iha h _ _ (k.1 e), fun e => ihb h _ _ (k.2 e)⟩
    · cases k
  | block i c ih =>
    intro Q Q' h τ H k
    refine ih (fun e τ H k => ?_) τ H k
    cases e with
    | exit j =>
      simp only [blkW] at k ⊢
      split at k
      · rename_i e; rw [if_pos e]; exact h _ _ _ k
      · rename_i e; rw [if_neg e]; exact h _ _ _ k
    | _ => exact h _ _ _ k
  | loop c ih =>
    intro Q Q' h τ H k
    obtain ⟨I, n, h1, h2⟩ := k
    refine ⟨I, n, h1, fun n τ H hI => ih (fun e τ H k => ?_) τ H (h2 n τ H hI)⟩
    cases e <;> first | exact k | exact h _ _ _ k
  | region id ops d =>
    intro Q Q' h τ H k
    cases d with
    | false => exact opsW_mono (h .normal) _ _ _ k
    | true => exact (show ACode cx.P cx.G N (.region id ops true) Q τ H from k).mono h
  | _ => intro Q Q' h τ H k; cases k

/-! ### A loop of few rounds, run one by one -/
def loopK (cx : Cx) (N : Nat) (c : Code) (Q : PostW) : Nat → Tmps → AHeap → Prop
  | 0, _, _ => False
  | k + 1, τ, H => codeW cx N c (seqW (fun τ' H' => loopK cx N c Q k τ' H') Q) τ H
theorem loopK_succ (cx : Cx) (N : Nat) (c : Code) (Q : PostW) (k : Nat) (τ : Tmps) (H : AHeap) : loopK cx N c Q (k + 1) τ H = codeW cx N c (seqW (fun τ' H' => loopK cx N c Q k τ' H') Q) τ H := id rfl
@[congr] theorem loopK_congr {c : Code} {Q : PostW} {k : Nat} {τ τ' : Tmps} {H H' : AHeap} (h1 : τ = τ') (h2 : H = H') : loopK cx N c Q k τ H = loopK cx N c Q k τ' H' := by rw [h1, h2]
theorem codeW_unroll {c : Code} {Q : PostW} {τ : Tmps} {H : AHeap} (k : Nat) (h : loopK cx N c Q k τ H) : codeW cx N (.loop c) Q τ H := by
  refine codeW_loop (fun n τ H => loopK cx N c Q n τ H) (n := k) h ?_
  intro n τ H h
  cases n with
  | zero => cases h
  | succ n =>
    refine codeW_mono c (fun e τ H k => ?_) _ _ h
    cases e <;> first | exact ⟨n, by omega, k⟩ | exact k
end
/-! ### Long regions: their lists are put together -/
section
variable (cx : Cx) (N : Nat) (ops : List Oper) (K : Tmps → AHeap → Prop) (o : Oper) (l m : List Oper) (τ : Tmps) (H : AHeap) (j d : Nat) (op : Op) (ty : TypeId) (ps : String) (af : Array Edge) (g : Option (Nat × Bool))
theorem opsL_app : opsL cx N ops K (List.append (o :: l) m) τ H = opsL cx N ops K (o :: List.append l m) τ H := id rfl
theorem opsL_app0 : opsL cx N ops K (List.append [] m) τ H = opsL cx N ops K m τ H := id rfl
theorem dstV_app : dstV (List.append (o :: l) m) (j + 1) τ = dstV (List.append l m) j τ := by simp [dstV]
theorem dstV_app0 : dstV (List.append [] m) j τ = dstV m j τ := id rfl
theorem dstV_appz : dstV (List.append ({ dst := some d, op := op, type := ty, pos := ps, after := af, guard := g } :: l) m) 0 τ = some (tget τ d) := id rfl
end
attribute [go_sem ↓] opsL_app opsL_app0 dstV_app dstV_app0 dstV_appz
attribute [go_sem ↓] loopK_succ
end Go.Eng
set_option linter.unusedVariables false
set_option linter.unusedSimpArgs false
namespace Go.Eng
open Go
theorem bytes_beq (a b : ByteArray) : (a == b) = decide (a = b) := by
  cases a with | mk x => cases b with | mk y =>
  have : ((⟨x⟩ : ByteArray) == ⟨y⟩) = (x == y) := id rfl
  rw [this, Bool.eq_iff_iff]
  simp
theorem toList_beq (s u : ByteArray) : (s.toList == u.toList) = (s == u) := by
  rw [ByteArray.toList_eq, ByteArray.toList_eq, bytes_beq, Bool.eq_iff_iff]
  simp only [beq_iff_eq, decide_eq_true_eq]
  exact ⟨fun h => by cases s; cases u; simp_all, fun h => by rw [h]⟩
section
variable (P : Program) (T : Tb) (t : TypeId) (ox oy : Operand) (k k' : IntKind) (a b : Int) (H : AHeap) (s u : ByteArray)
def andI (k : IntKind) (a b : Int) : Int := k.wrap (BitVec.ofInt k.bits a &&& BitVec.ofInt k.bits b).toNat
def orI (k : IntKind) (a b : Int) : Int := k.wrap (BitVec.ofInt k.bits a ||| BitVec.ofInt k.bits b).toNat
def xorI (k : IntKind) (a b : Int) : Int := k.wrap (BitVec.ofInt k.bits a ^^^ BitVec.ofInt k.bits b).toNat
def shrI (k : IntKind) (a b : Int) : Int := a.fdiv (2 ^ (min b.toNat k.bits))
def shlI (k : IntKind) (a b : Int) : Int := k.wrap (a * 2 ^ (min b.toNat k.bits))
@[go_sem] theorem aBinF_and : aBinF P T .and t ox oy (.int k a) (.int k b) H = some (.int k (andI k a b)) := aBinF_int _ _ _ _ _ _ _ _ _ _ (by simp) (by simp) rfl (by simp [binOp, Op.intBits, andI])
@[go_sem] theorem aBinF_or : aBinF P T .or t ox oy (.int k a) (.int k b) H = some (.int k (orI k a b)) := aBinF_int _ _ _ _ _ _ _ _ _ _ (by simp) (by simp) rfl (by simp [binOp, Op.intBits, orI])
@[go_sem] theorem aBinF_xor : aBinF P T .xor t ox oy (.int k a) (.int k b) H = some (.int k (xorI k a b)) := aBinF_int _ _ _ _ _ _ _ _ _ _ (by simp) (by simp) rfl (by simp [binOp, Op.intBits, xorI])
theorem aBinF_any {op : BinOp} {x y : Value} (f : Value) (hx : flat 2 x = true) (hy : flat 2 y = true) (h0 : eqGuard op t ox oy x y = pure ()) (hf : flat 1 f = true) (h : prun P (binOp op t x y) = some f) : aBinF P T op t ox oy x y H = some f := by
  have e : prun P (do eqGuard op t ox oy x y; binOp op t x y) = some f := by rw [h0]; exact h
  unfold aBinF aBin
  rw [if_pos (by rw [hx, hy]; rfl), e]
  simp [hf]
@[go_sem] theorem aBinF_shr (h : 0 ≤ b) : aBinF P T .shr t ox oy (.int k a) (.int k' b) H = some (.int k (shrI k a b)) := by
  refine aBinF_any P T t ox oy H _ rfl rfl rfl rfl ?_
  show prun P (Op.shift .shr k a k' b) = _
  unfold Op.shift
  rw [if_neg (by omega)]
  rfl
@[go_sem] theorem aBinF_shl (h : 0 ≤ b) : aBinF P T .shl t ox oy (.int k a) (.int k' b) H = some (.int k (shlI k a b)) := by
  refine aBinF_any P T t ox oy H _ rfl rfl rfl rfl ?_
  show prun P (Op.shift .shl k a k' b) = _
  unfold Op.shift
  rw [if_neg (by omega)]
  rfl
@[go_sem] theorem aBinF_eqlS : aBinF P T .eql t ox oy (.string s) (.string u) H = some (.bool (s == u)) := by
  refine aBinF_any P T t ox oy H _ rfl rfl rfl rfl ?_
  show prun P (Op.stringOp .eql s u) = _
  unfold Op.stringOp
  rw [← toList_beq]
  rfl
@[go_sem] theorem aBinF_neqS : aBinF P T .neq t ox oy (.string s) (.string u) H = some (.bool (!(s == u))) := by
  refine aBinF_any P T t ox oy H _ rfl rfl rfl rfl ?_
  show prun P (Op.stringOp .neq s u) = _
  unfold Op.stringOp
  rw [← toList_beq]
  rfl
@[go_sem] theorem aBinF_addS (h : s.size + u.size < 9223372036854775808) : aBinF P T .add t ox oy (.string s) (.string u) H = some (.string (s ++ u)) := by
  refine aBinF_any P T t ox oy H _ rfl rfl rfl rfl ?_
  show prun P (Op.stringOp .add s u) = _
  unfold Op.stringOp
  simp only
  rw [if_neg (by have : IntKind.i64.max = 9223372036854775807 := by decide
                 rw [this]; omega)]
  rfl
end
end Go.Eng
