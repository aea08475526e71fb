/- The engine, part 19: what simp needs to go through operations. -/
import Derived.Test.YtkjclebafpomhaaDoorEngR
import Derived.Attr
set_option linter.unusedVariables false
set_option linter.unusedSimpArgs false
namespace Go.Eng
open Go

attribute [go_sem ↓] bindV_some bindR_some bindH_some bindL_some bindP_some bindO_some ifW_true ifW_false gdW_tf gdW_ft callW_plain opsW_nil opsW_d opsW_0 opsW_gd opsW_g0 dstV_succ dstV_zero
theorem gdW_decT (p : Prop) [Decidable p] (y n : Prop) : gdW (some (.bool (decide p))) true y n = ((p → y) ∧ (¬ p → n)) := by simp [gdW]
theorem gdW_decF (p : Prop) [Decidable p] (y n : Prop) : gdW (some (.bool (decide p))) false y n = ((¬ p → y) ∧ (p → n)) := by simp [gdW]
theorem ifW_dec (p : Prop) [Decidable p] (y n : Prop) : ifW (some (.bool (decide p))) y n = ((p → y) ∧ (¬ p → n)) := by simp [ifW]
theorem gdW_nT (b : Bool) (y n : Prop) : gdW (some (.bool (!b))) true y n = gdW (some (.bool b)) false y n := by cases b <;> simp [gdW]
theorem gdW_nF (b : Bool) (y n : Prop) : gdW (some (.bool (!b))) false y n = gdW (some (.bool b)) true y n := by cases b <;> simp [gdW]
theorem ifW_n (b : Bool) (y n : Prop) : ifW (some (.bool (!b))) y n = ifW (some (.bool b)) n y := by cases b <;> simp [ifW]
theorem gdW_bT (b : Bool) (y n : Prop) : gdW (some (.bool b)) true y n = ((b = true → y) ∧ (b = false → n)) := id rfl
theorem gdW_bF (b : Bool) (y n : Prop) : gdW (some (.bool b)) false y n = ((b = false → y) ∧ (b = true → n)) := id rfl
theorem gdW_vT (y n : Prop) : gdW (some (.bool true)) true y n = y := gdW_yes ..
theorem gdW_vF (y n : Prop) : gdW (some (.bool false)) false y n = y := gdW_yes ..
attribute [go_sem ↓] gdW_nT gdW_nF ifW_n gdW_vT gdW_vF gdW_undef
attribute [go_sem] true_and and_true or_true true_or false_or decide_true decide_false Bool.not_true Bool.not_false Bool.and_true Bool.true_and Bool.and_false Bool.false_and Bool.or_true Bool.true_or Bool.or_false Bool.false_or eq_self implies_true not_true_eq_false not_false_eq_true forall_const decide_eq_true_eq reduceCtorEq Bool.true_eq_false Bool.false_eq_true false_implies decide_eq_false_iff_not if_true if_false List.getElem?_cons_succ List.getElem?_cons_zero List.getD_cons_zero List.getD_cons_succ resW false_implies ne_eq List.all_cons List.all_nil List.length_cons List.length_nil
attribute [go_sem ↓] codeW_skip codeW_label codeW_ret codeW_exit codeW_seq codeW_cond codeW_block codeW_region seqW_normal seqW_ret seqW_exit blkW_normal blkW_ret blkW_exit blkW_here

section
variable (cx : Cx) (τ : Tmps) (H : AHeap) (K : Value → AHeap → Prop)
def pickV (r : Option Value) (k : Value → Prop) : Prop := bindV r k
theorem opW_of {op : Op} (h : ∀ f args ts, op ≠ .call { callee := .value f, args := args, argTypes := ts }) : opW cx op τ H K = bindR (aop cx.P cx.T cx.G τ op H) K := by
  unfold opW
  split
  · exact absurd rfl (h _ _ _)
  · rfl
theorem bindR_map (r : Option Value) (H : AHeap) : bindR (r.map (·, H)) K = bindV r fun v => K v H := by cases r <;> rfl
theorem bindR_bind (r : Option Value) (f : Value → Option (Value × AHeap)) : bindR (r.bind f) K = bindV r fun v => bindR (f v) K := by cases r <;> rfl
theorem bindR_mapH (r : Option AHeap) : bindR (r.map (undef, ·)) K = bindH r fun H' => K undef H' := by cases r <;> rfl
theorem bindR_bindL (r : Option (List Value)) (f : List Value → Option (Value × AHeap)) : bindR (r.bind f) K = bindL r fun v => bindR (f v) K := by cases r <;> rfl
theorem bindR_bindP (r : Option (List (Nat × Value))) (f : List (Nat × Value) → Option (Value × AHeap)) : bindR (r.bind f) K = bindP r fun v => bindR (f v) K := by cases r <;> rfl
theorem bindR_bindO (r : Option (Option Value)) (f : Option Value → Option (Value × AHeap)) : bindR (r.bind f) K = bindO r fun v => bindR (f v) K := by cases r <;> rfl

/-- Two operands, an answer without addresses. -/
def aBinF (P : Program) (T : Tb) (op : BinOp) (t : TypeId) (ox oy : Operand) (x y : Value) (H : AHeap) : Option Value := (aBin P T op t ox oy x y H).bind fun v => if flat 1 v then some v else none
def aUnF (P : Program) (op : UnOp) (x : Value) : Option Value := (aUn P op x).bind fun v => if flat 1 v then some v else none
def aNil : Value → Option Value
  | .pointer (some p) => some (.pointer (some p))
  | .iface t v => some (.iface t v)
  | .func (.func f) a b => some (.func (.func f) a b)
  | _ => none
def mapOK (T : Tb) (t : TypeId) : Bool := match T.und t with | some (.map _ _) => true | _ => false

@[go_sem ↓] theorem opW_move (x : Operand) : opW cx (.move x) τ H K = bindV (aeval cx.G τ x) fun v => K v H := by rw [opW_of cx τ H K (by intros; simp)]; exact bindR_map ..
@[go_sem ↓] theorem opW_assign (x : Operand) : opW cx (.assign x) τ H K = bindV (aeval cx.G τ x) fun v => K v H := by rw [opW_of cx τ H K (by intros; simp)]; exact bindR_map ..
@[go_sem ↓] theorem opW_pick (c x y : Operand) : opW cx (.pick c x y) τ H K = ifW (aeval cx.G τ c) (bindV (aeval cx.G τ x) fun v => K v H) (bindV (aeval cx.G τ y) fun v => K v H) := by
  rw [opW_of cx τ H K (by intros; simp)]
  simp only [aop]
  generalize aeval cx.G τ c = r
  cases r with
  | none => rfl
  | some v =>
    cases v with
    | bool b =>
      cases b
      · simp only [ifW_false, bindR_map]
      · simp only [ifW_true, bindR_map]
    | _ => rfl
@[go_sem ↓] theorem opW_alloc (t : TypeId) : opW cx (.alloc t) τ H K = bindR (aAlloc cx.T t H) K := by rw [opW_of cx τ H K (by intros; simp)]; rfl
@[go_sem ↓] theorem opW_box (t : TypeId) (x : Operand) : opW cx (.box t x) τ H K = bindV (aeval cx.G τ x) fun v => bindR (aBox v H) K := by rw [opW_of cx τ H K (by intros; simp)]; exact bindR_bind ..
@[go_sem ↓] theorem opW_build (t : TypeId) (ps : List (Nat × Operand)) : opW cx (.build t ps.toArray) τ H K = bindP (aparts cx.G τ ps) fun vs => bindV (aBuild cx.T t vs) fun v => K v H := by
  rw [opW_of cx τ H K (by intros; simp)]
  refine (bindR_bindP ..).trans ?_
  simp only [bindR_map, List.toList_toArray]
@[go_sem ↓] theorem opW_buildSlice (t : TypeId) (n : Nat) (ps : List (Nat × Operand)) : opW cx (.buildSlice t n ps.toArray) τ H K = bindP (aparts cx.G τ ps) fun vs => bindR (aBuildSlice cx.T t n vs H) K := by
  rw [opW_of cx τ H K (by intros; simp)]
  refine (bindR_bindP ..).trans ?_
  simp only [List.toList_toArray]
@[go_sem ↓] theorem opW_load (t : TypeId) (x : Operand) : opW cx (.load t x) τ H K = bindV (aeval cx.G τ x) fun v => bindR (aLoad cx.T t v H) K := by rw [opW_of cx τ H K (by intros; simp)]; exact bindR_bind ..
@[go_sem ↓] theorem opW_store (t : TypeId) (x y : Operand) : opW cx (.store t x y) τ H K = bindV (aeval cx.G τ x) fun v => bindV (aeval cx.G τ y) fun u => bindH (aStore cx.T t v u H) fun H' => K undef H' := by
  rw [opW_of cx τ H K (by intros; simp)]
  refine (bindR_bind ..).trans ?_
  simp only [bindR_bind, bindR_mapH]
@[go_sem ↓] theorem opW_nilCheck (x : Operand) : opW cx (.nilCheck x) τ H K = bindV (aeval cx.G τ x) fun v => bindV (aNil v) fun u => K u H := by
  rw [opW_of cx τ H K (by intros; simp)]
  simp only [aop]
  generalize aeval cx.G τ x = r
  cases r with
  | none => rfl
  | some v =>
    cases v with
    | pointer p => cases p <;> rfl
    | func f a b => cases f <;> rfl
    | _ => rfl
@[go_sem ↓] theorem opW_binOp (op : BinOp) (t t2 : TypeId) (x y : Operand) : opW cx (.binOp op t x y t2) τ H K = bindV (aeval cx.G τ x) fun v => bindV (aeval cx.G τ y) fun u => bindV (aBinF cx.P cx.T op t x y v u H) fun r => K r H := by
  rw [opW_of cx τ H K (by intros; simp)]
  refine (bindR_bind ..).trans ?_
  simp only [bindR_bind, okFlat, aBinF]
  congr; funext v; congr; funext u
  cases aBin cx.P cx.T op t x y v u H with
  | none => rfl
  | some r => simp only [Option.bind_some, bindV_some]; split <;> rfl
@[go_sem ↓] theorem opW_unOp (op : UnOp) (t : TypeId) (x : Operand) : opW cx (.unOp op t x) τ H K = bindV (aeval cx.G τ x) fun v => bindV (aUnF cx.P op v) fun r => K r H := by
  rw [opW_of cx τ H K (by intros; simp)]
  refine (bindR_bind ..).trans ?_
  simp only [okFlat, aUnF]
  congr; funext v
  cases aUn cx.P op v with
  | none => rfl
  | some r => simp only [Option.bind_some, bindV_some]; split <;> rfl
@[go_sem ↓] theorem opW_convert (s d : TypeId) (x : Operand) : opW cx (.convert s d x) τ H K = bindV (aeval cx.G τ x) fun v => bindR (aConv cx.T s d v H) K := by rw [opW_of cx τ H K (by intros; simp)]; exact bindR_bind ..
@[go_sem ↓] theorem opW_makeInterface (t : TypeId) (x : Operand) : opW cx (.makeInterface t x) τ H K = bindV (aeval cx.G τ x) fun v => bindV (aIface cx.T t v) fun u => K u H := by
  rw [opW_of cx τ H K (by intros; simp)]; refine (bindR_bind ..).trans ?_; simp only [bindR_map]
@[go_sem ↓] theorem opW_makeFunc (fn : Fn) (f c : List Operand) : opW cx (.makeFunc fn f.toArray c.toArray) τ H K = bindL (aevals cx.G τ f) fun fs => bindL (aevals cx.G τ c) fun cs => K (.func fn fs.toArray cs.toArray) H := by
  rw [opW_of cx τ H K (by intros; simp)]
  refine (bindR_bindL ..).trans ?_
  simp only [List.toList_toArray]
  congr; funext fs
  cases aevals cx.G τ c <;> rfl
@[go_sem ↓] theorem opW_makeMap (t : TypeId) (r : Option Operand) : opW cx (.makeMap t r) τ H K = bindO (aopt cx.G τ r) fun v => bindR (if mapOK cx.T t then aMakeMap v H else none) K := by
  rw [opW_of cx τ H K (by intros; simp)]
  refine (bindR_bindO ..).trans ?_
  congr; funext v
  unfold mapOK
  cases cx.T.und t with
  | none => rfl
  | some d => cases d <;> rfl
@[go_sem ↓] theorem opW_makeSlice (t : TypeId) (l c : Operand) : opW cx (.makeSlice t l c) τ H K = bindV (aeval cx.G τ l) fun v => bindV (aeval cx.G τ c) fun u => bindR (aMakeSlice cx.T t v u H) K := by
  rw [opW_of cx τ H K (by intros; simp)]; refine (bindR_bind ..).trans ?_; simp only [bindR_bind]
@[go_sem ↓] theorem opW_slice (t : TypeId) (x : Operand) (lo hi mx : Option Operand) : opW cx (.slice t x lo hi mx) τ H K = bindV (aeval cx.G τ x) fun v => bindO (aopt cx.G τ lo) fun l => bindO (aopt cx.G τ hi) fun h => bindO (aopt cx.G τ mx) fun m => bindV (aSlice cx.T t v l h m H) fun u => K u H := by
  rw [opW_of cx τ H K (by intros; simp)]; refine (bindR_bind ..).trans ?_; simp only [bindR_bindO, bindR_map]
@[go_sem ↓] theorem opW_fieldAddr (t : TypeId) (x : Operand) (f : Nat) : opW cx (.fieldAddr t x f) τ H K = bindV (aeval cx.G τ x) fun v => bindV (aFieldAddr cx.T t v f) fun u => K u H := by
  rw [opW_of cx τ H K (by intros; simp)]; refine (bindR_bind ..).trans ?_; simp only [bindR_map]
@[go_sem ↓] theorem opW_field (t : TypeId) (x : Operand) (f : Nat) : opW cx (.field t x f) τ H K = bindV (aeval cx.G τ x) fun v => bindV (aField cx.T t v f) fun u => K u H := by
  rw [opW_of cx τ H K (by intros; simp)]; refine (bindR_bind ..).trans ?_; simp only [bindR_map]
@[go_sem ↓] theorem opW_indexAddr (t : TypeId) (x i : Operand) : opW cx (.indexAddr t x i) τ H K = bindV (aeval cx.G τ x) fun v => bindV (aeval cx.G τ i) fun u => bindV (aIndexAddr cx.T t v u) fun r => K r H := by
  rw [opW_of cx τ H K (by intros; simp)]; refine (bindR_bind ..).trans ?_; simp only [bindR_bind, bindR_map]
@[go_sem ↓] theorem opW_index (t : TypeId) (x i : Operand) : opW cx (.index t x i) τ H K = bindV (aeval cx.G τ x) fun v => bindV (aeval cx.G τ i) fun u => bindV (aIndex cx.T t v u) fun r => K r H := by
  rw [opW_of cx τ H K (by intros; simp)]; refine (bindR_bind ..).trans ?_; simp only [bindR_bind, bindR_map]
@[go_sem ↓] theorem opW_lookup (t : TypeId) (x i : Operand) (ok : Bool) : opW cx (.lookup t x i ok) τ H K = bindV (aeval cx.G τ x) fun v => bindV (aeval cx.G τ i) fun u => bindV (aLookup cx.P cx.T t v u ok H) fun r => K r H := by
  rw [opW_of cx τ H K (by intros; simp)]; refine (bindR_bind ..).trans ?_; simp only [bindR_bind, bindR_map]
@[go_sem ↓] theorem opW_mapUpdate (t : TypeId) (m k x : Operand) : opW cx (.mapUpdate t m k x) τ H K = bindV (aeval cx.G τ m) fun v => bindV (aeval cx.G τ k) fun u => bindV (aeval cx.G τ x) fun y => bindH (aMapUpdate cx.P cx.T t v u y H) fun H' => K undef H' := by
  rw [opW_of cx τ H K (by intros; simp)]; refine (bindR_bind ..).trans ?_; simp only [bindR_bind, bindR_mapH]
@[go_sem ↓] theorem opW_insert (t : TypeId) (m k x : Operand) : opW cx (.insert t m k x) τ H K = bindV (aeval cx.G τ m) fun v => bindV (aeval cx.G τ k) fun u => bindV (aeval cx.G τ x) fun y => bindH (aMapUpdate cx.P cx.T t v u y H) fun H' => K undef H' := by
  rw [opW_of cx τ H K (by intros; simp)]; refine (bindR_bind ..).trans ?_; simp only [bindR_bind, bindR_mapH]
@[go_sem ↓] theorem opW_mapEntry (t : TypeId) (m k : Operand) : opW cx (.mapEntry t m k) τ H K = bindV (aeval cx.G τ m) fun v => bindV (aeval cx.G τ k) fun u => bindR (aMapEntry cx.P cx.T t v u H) K := by
  rw [opW_of cx τ H K (by intros; simp)]; refine (bindR_bind ..).trans ?_; simp only [bindR_bind]
@[go_sem ↓] theorem opW_entryStore (t : TypeId) (m s x : Operand) : opW cx (.entryStore t m s x) τ H K = bindV (aeval cx.G τ m) fun v => bindV (aeval cx.G τ s) fun u => bindV (aeval cx.G τ x) fun y => bindH (aEntryStore v u y H) fun H' => K undef H' := by
  rw [opW_of cx τ H K (by intros; simp)]; refine (bindR_bind ..).trans ?_; simp only [bindR_bind, bindR_mapH]
@[go_sem ↓] theorem opW_range (t : TypeId) (x : Operand) : opW cx (.range t x) τ H K = bindV (aeval cx.G τ x) fun v => bindR (aRange cx.T t v H) K := by rw [opW_of cx τ H K (by intros; simp)]; exact bindR_bind ..
@[go_sem ↓] theorem opW_next (x : Operand) (s : Bool) : opW cx (.next x s) τ H K = bindV (aeval cx.G τ x) fun v => bindR (aNext v s H) K := by rw [opW_of cx τ H K (by intros; simp)]; exact bindR_bind ..
@[go_sem ↓] theorem opW_extract (x : Operand) (i : Nat) : opW cx (.extract x i) τ H K = bindV (aeval cx.G τ x) fun v => bindV (aExtract v i) fun u => K u H := by
  rw [opW_of cx τ H K (by intros; simp)]; refine (bindR_bind ..).trans ?_; simp only [bindR_map]
@[go_sem ↓] theorem opW_builtin (b : Builtin) (args : List Operand) (ts : Array TypeId) : opW cx (.call { callee := .builtin b, args := args.toArray, argTypes := ts }) τ H K = bindL (aevals cx.G τ args) fun vs => bindR (aBuiltin cx.P cx.T b ts vs H) K := by
  rw [opW_of cx τ H K (by intros; simp)]
  refine (bindR_bindL ..).trans ?_
  simp only [List.toList_toArray]
@[go_sem ↓] theorem opW_call (f : Operand) (args : List Operand) (ts : Array TypeId) : opW cx (.call { callee := .value f, args := args.toArray, argTypes := ts }) τ H K = bindV (aeval cx.G τ f) fun fv => bindL (aevals cx.G τ args) fun vs => callW cx fv vs H K := by
  simp only [opW, List.toList_toArray]
end

/-! ### Operands, places -/
section
variable (G : Nat) (τ : Tmps)
@[go_sem] theorem aeval_tmp (t : Nat) : aeval G τ (.tmp t) = some (tget τ t) := id rfl
@[go_sem] theorem aeval_int (k : IntKind) (n : Int) : aeval G τ (.const (.int k n)) = some (.int k n) := id rfl
@[go_sem] theorem aeval_bool (b : Bool) : aeval G τ (.const (.bool b)) = some (.bool b) := id rfl
@[go_sem] theorem aeval_string (s : ByteArray) : aeval G τ (.const (.string s)) = some (.string s) := id rfl
@[go_sem] theorem aeval_nil : aeval G τ (.const (.pointer none)) = some (.pointer none) := id rfl
@[go_sem] theorem aeval_nilSlice : aeval G τ (.const (.slice none 0 0)) = some (.slice none 0 0) := id rfl
@[go_sem] theorem aeval_nilMap : aeval G τ (.const (.map none)) = some (.map none) := id rfl
@[go_sem] theorem aeval_nilFunc : aeval G τ (.const .nilFunc) = some .nilFunc := id rfl
@[go_sem] theorem aeval_nilIface : aeval G τ (.const .nilIface) = some .nilIface := id rfl
@[go_sem] theorem aeval_func (f : FuncId) : aeval G τ (.func f) = some (.func (.func f) #[] #[]) := id rfl
@[go_sem] theorem aevals_nil : aevals G τ [] = some [] := id rfl
@[go_sem] theorem aevals_cons (x : Operand) (l : List Operand) : aevals G τ (x :: l) = (aeval G τ x).bind fun v => (aevals G τ l).map (v :: ·) := by
  simp only [aevals]; cases aeval G τ x with
  | none => rfl
  | some v => cases aevals G τ l <;> rfl
@[go_sem] theorem aparts_nil : aparts G τ [] = some [] := id rfl
@[go_sem] theorem aparts_cons (i : Nat) (x : Operand) (l : List (Nat × Operand)) : aparts G τ ((i, x) :: l) = (aeval G τ x).bind fun v => (aparts G τ l).map ((i, v) :: ·) := by
  simp only [aparts]; cases aeval G τ x with
  | none => rfl
  | some v => cases aparts G τ l <;> rfl
@[go_sem] theorem aopt_none : aopt G τ none = some none := id rfl
@[go_sem] theorem aopt_some (x : Operand) : aopt G τ (some x) = (aeval G τ x).map some := id rfl
@[go_sem] theorem tget_put1 (d t : Nat) (v : Value) : tget (Tr.put τ d (some v)) t = if t = d then v else tget τ t := tget_put τ d t v
@[go_sem] theorem tget_init (l : List Value) (t : Nat) : tget (initT 0 l) t = l.getD t unk := by rw [initT_get]; simp
end
attribute [go_sem] Option.bind_some Option.map_some Option.bind_none Option.map_none List.getElem?_toArray
@[go_sem] theorem aExtract_0 (a : Value) (l : List Value) : aExtract (.tuple (a :: l).toArray) 0 = some a := id rfl
@[go_sem] theorem aExtract_1 (a b : Value) (l : List Value) : aExtract (.tuple (a :: b :: l).toArray) 1 = some b := id rfl
@[go_sem] theorem aExtract_2 (a b c : Value) (l : List Value) : aExtract (.tuple (a :: b :: c :: l).toArray) 2 = some c := id rfl
@[go_sem] theorem aExtract_3 (a b c d : Value) (l : List Value) : aExtract (.tuple (a :: b :: c :: d :: l).toArray) 3 = some d := id rfl
@[go_sem] theorem aNil_some (a : Addr) : aNil (.pointer (some a)) = some (.pointer (some a)) := id rfl
@[go_sem] theorem aNil_func (f : FuncId) (a b : Array Value) : aNil (.func (.func f) a b) = some (.func (.func f) a b) := id rfl

/-! ### Arithmetic -/
section
variable (P : Program) (T : Tb) (t : TypeId) (ox oy : Operand) (k : IntKind) (a b : Int) (H : AHeap)
theorem aBinF_int {op : BinOp} (f : Value) (h1 : op ≠ .eql) (h2 : op ≠ .neq) (hf : flat 1 f = true) (h : prun P (binOp op t (.int k a) (.int k b)) = some f) : aBinF P T op t ox oy (.int k a) (.int k b) H = some f := by
  have e : prun P (do eqGuard op t ox oy (.int k a) (.int k b); binOp op t (.int k a) (.int k b)) = some f := by
    have : eqGuard op t ox oy (.int k a) (.int k b) = pure () := by
      unfold eqGuard
      cases op <;> first | rfl | contradiction
    rw [this]
    exact h
  unfold aBinF aBin
  rw [if_pos (by rfl), e]
  simp [hf]
@[go_sem] theorem aBinF_lss : aBinF P T .lss t ox oy (.int k a) (.int k b) H = some (.bool (decide (a < b))) := aBinF_int _ _ _ _ _ _ _ _ _ _ (by simp) (by simp) rfl (by simp [binOp, Op.intCmp])
@[go_sem] theorem aBinF_leq : aBinF P T .leq t ox oy (.int k a) (.int k b) H = some (.bool (decide (a ≤ b))) := aBinF_int _ _ _ _ _ _ _ _ _ _ (by simp) (by simp) rfl (by simp [binOp, Op.intCmp])
@[go_sem] theorem aBinF_gtr : aBinF P T .gtr t ox oy (.int k a) (.int k b) H = some (.bool (decide (b < a))) := aBinF_int _ _ _ _ _ _ _ _ _ _ (by simp) (by simp) rfl (by simp [binOp, Op.intCmp])
@[go_sem] theorem aBinF_geq : aBinF P T .geq t ox oy (.int k a) (.int k b) H = some (.bool (decide (b ≤ a))) := aBinF_int _ _ _ _ _ _ _ _ _ _ (by simp) (by simp) rfl (by simp [binOp, Op.intCmp])
@[go_sem] theorem aBinF_add : aBinF P T .add t ox oy (.int k a) (.int k b) H = some (.int k (k.wrap (a + b))) := aBinF_int _ _ _ _ _ _ _ _ _ _ (by simp) (by simp) rfl (by simp [binOp, Op.intArith])
@[go_sem] theorem aBinF_sub : aBinF P T .sub t ox oy (.int k a) (.int k b) H = some (.int k (k.wrap (a - b))) := aBinF_int _ _ _ _ _ _ _ _ _ _ (by simp) (by simp) rfl (by simp [binOp, Op.intArith])
@[go_sem] theorem aBinF_mul : aBinF P T .mul t ox oy (.int k a) (.int k b) H = some (.int k (k.wrap (a * b))) := aBinF_int _ _ _ _ _ _ _ _ _ _ (by simp) (by simp) rfl (by simp [binOp, Op.intArith])
@[go_sem] theorem aBinF_quo (h : b ≠ 0) : aBinF P T .quo t ox oy (.int k a) (.int k b) H = some (.int k (k.wrap (a.tdiv b))) := aBinF_int _ _ _ _ _ _ _ _ _ _ (by simp) (by simp) rfl (by simp [binOp, Op.intDiv, h])
@[go_sem] theorem aBinF_rem (h : b ≠ 0) : aBinF P T .rem t ox oy (.int k a) (.int k b) H = some (.int k (a.tmod b)) := aBinF_int _ _ _ _ _ _ _ _ _ _ (by simp) (by simp) rfl (by simp [binOp, Op.intDiv, h])
def andNotI (k : IntKind) (a b : Int) : Int := k.wrap (BitVec.ofInt k.bits a &&& ~~~ BitVec.ofInt k.bits b).toNat
@[go_sem] theorem aBinF_andNot : aBinF P T .andNot t ox oy (.int k a) (.int k b) H = some (.int k (andNotI k a b)) := aBinF_int _ _ _ _ _ _ _ _ _ _ (by simp) (by simp) rfl (by simp [binOp, Op.intBits, andNotI])
@[go_sem] theorem aBinF_eql : aBinF P T .eql t ox oy (.int k a) (.int k b) H = some (.bool (decide (a = b))) := by
  have e : prun P (do eqGuard .eql t ox oy (.int k a) (.int k b); binOp .eql t (.int k a) (.int k b)) = some (.bool (decide (a = b))) := by
    have h1 : eqGuard .eql t ox oy (.int k a) (.int k b) = pure () := rfl
    rw [h1]
    have h2 : binOp .eql t (.int k a) (.int k b) = pure (.bool (a == b)) := by simp [binOp, Op.intCmp]
    rw [h2]
    have : (a == b) = decide (a = b) := rfl
    rw [this]
    rfl
  unfold aBinF aBin
  rw [if_pos (by rfl), e]
  rfl
@[go_sem] theorem aBinF_neq : aBinF P T .neq t ox oy (.int k a) (.int k b) H = some (.bool (!decide (a = b))) := by
  have e : prun P (do eqGuard .neq t ox oy (.int k a) (.int k b); binOp .neq t (.int k a) (.int k b)) = some (.bool (!decide (a = b))) := by
    have h1 : eqGuard .neq t ox oy (.int k a) (.int k b) = pure () := rfl
    rw [h1]
    have h2 : binOp .neq t (.int k a) (.int k b) = pure (.bool (a != b)) := by simp [binOp, Op.intCmp]
    rw [h2]
    have : (a != b) = !decide (a = b) := rfl
    rw [this]
    rfl
  unfold aBinF aBin
  rw [if_pos (by rfl), e]
  rfl
@[go_sem] theorem aUnF_not (c : Bool) : aUnF P .not (.bool c) = some (.bool !c) := id rfl
@[go_sem] theorem aBinF_eqlB (c d : Bool) (ht : T.und t = some .bool) (hT : TbOK P T) : aBinF P T .eql t ox oy (.bool c) (.bool d) H = some (.bool (c == d)) := by
  have e : prun P (do eqGuard .eql t ox oy (.bool c) (.bool d); binOp .eql t (.bool c) (.bool d)) = some (.bool (c == d)) := by
    have h1 : eqGuard .eql t ox oy (.bool c) (.bool d) = pure () := rfl
    rw [h1]
    have h2 : binOp .eql t (.bool c) (.bool d) = (do pure (.bool (← Op.equal t (.bool c) (.bool d)))) := rfl
    rw [h2]
    have h3 : prun P (Op.equal t (.bool c) (.bool d)) = some (c == d) := by
      show prun P (Op.equalIn 10000 t (.bool c) (.bool d)) = _
      unfold Op.equalIn
      simp only [prun_bind, prun_underlying (hT.und _ _ ht), Option.bind_some]
      rfl
    simp only [pure_bind, prun_bind, h3, Option.bind_some, prun_pure]
  unfold aBinF aBin
  rw [if_pos (by rfl), e]
  rfl
end
end Go.Eng
