/- The engine, part 24: simp through a region in whatever order. -/
import Derived.Test.YtkjclebafpomhaaDoorEngW
import Derived.Test.YtkjclebafpomhaaDoorEngU
set_option linter.unusedVariables false
set_option linter.unusedSimpArgs false
namespace Go.Eng
open Go
section
variable (cx : Cx) (N : Nat) (ops : List Oper) (K : Tmps → AHeap → Prop)
@[congr] theorem regL_congr {cx : Cx} {N : Nat} {ops : List Oper} {K : Tmps → AHeap → Prop} {l : List Oper} {inf : Info} {j : Nat} {prev : List (Nat × Eff)} {τ τ' : Tmps} {H H' : AHeap} (h1 : τ = τ') (h2 : H = H') : regL cx N ops K l inf j prev τ H = regL cx N ops K l inf j prev τ' H' := by rw [h1, h2]
@[congr] theorem regOp_congr {cx : Cx} {near : Bool} {op : Op} {τ τ' : Tmps} {H H' : AHeap} {K : Value → AHeap → Eff → Prop} {Kp : Value → Prop} (h1 : τ = τ') (h2 : H = H') : regOp cx near op τ H K Kp = regOp cx near op τ' H' K Kp := by rw [h1, h2]
theorem regL_nil (inf : Info) (j : Nat) (prev : List (Nat × Eff)) (τ : Tmps) (H : AHeap) : regL cx N ops K [] inf j prev τ H = K τ H := id rfl
variable (l : List Oper) (rd un : List Nat) (nr : Bool) (inf : Info) (j : Nat) (prev : List (Nat × Eff)) (τ : Tmps) (H : AHeap) (d g : Nat) (w : Bool) (op : Op) (ty : TypeId) (ps : String) (af : Array Edge)
theorem regL_d : regL cx N ops K ({ dst := some d, op := op, type := ty, pos := ps, after := af, guard := none } :: l) ((rd, un, nr) :: inf) j prev τ H =
    regOp cx nr op (restr τ rd) H (fun v H' e => clean un prev e ∧ d < N ∧ regL cx N ops K l inf (j + 1) ((j, e) :: prev) (τ.put d (some v)) H') (fun v => d < N ∧ regL cx N ops K l inf (j + 1) prev (τ.put d (some v)) H) := id rfl
theorem regL_0 : regL cx N ops K ({ dst := none, op := op, type := ty, pos := ps, after := af, guard := none } :: l) ((rd, un, nr) :: inf) j prev τ H =
    regOp cx nr op (restr τ rd) H (fun v H' e => clean un prev e ∧ regL cx N ops K l inf (j + 1) ((j, e) :: prev) τ H') (fun v => regL cx N ops K l inf (j + 1) prev τ H) := id rfl
theorem regL_gd : regL cx N ops K ({ dst := some d, op := op, type := ty, pos := ps, after := af, guard := some (g, w) } :: l) ((rd, un, nr) :: inf) j prev τ H =
    gdW (dstV ops g (restr τ rd)) w (regOp cx nr op (restr τ rd) H (fun v H' e => clean un prev e ∧ d < N ∧ regL cx N ops K l inf (j + 1) ((j, e) :: prev) (τ.put d (some v)) H') (fun v => d < N ∧ regL cx N ops K l inf (j + 1) prev (τ.put d (some v)) H))
      (d < N ∧ regL cx N ops K l inf (j + 1) prev (τ.put d (some undef)) H) := id rfl
theorem regL_g0 : regL cx N ops K ({ dst := none, op := op, type := ty, pos := ps, after := af, guard := some (g, w) } :: l) ((rd, un, nr) :: inf) j prev τ H =
    gdW (dstV ops g (restr τ rd)) w (regOp cx nr op (restr τ rd) H (fun v H' e => clean un prev e ∧ regL cx N ops K l inf (j + 1) ((j, e) :: prev) τ H') (fun v => regL cx N ops K l inf (j + 1) prev τ H))
      (regL cx N ops K l inf (j + 1) prev τ H) := id rfl
end
attribute [go_sem ↓] regL_nil regL_d regL_0 regL_gd regL_g0
section
variable (cx : Cx) (near : Bool) (τ : Tmps) (H : AHeap) (K : Value → AHeap → Eff → Prop) (Kp : Value → Prop)
@[go_sem ↓] theorem regOp_load (t : TypeId) (x : Operand) : regOp cx near (.load t x) τ H K Kp = bindV (aeval cx.G τ x) fun v => ptrW v fun b => bindR (aLoad cx.T t v H) fun u _ => K u H (.some [b] [] 0 0) := id rfl
@[go_sem ↓] theorem regOp_lookup (t : TypeId) (x i : Operand) (ok : Bool) : regOp cx near (.lookup t x i ok) τ H K Kp = bindV (aeval cx.G τ x) fun m => bindV (aeval cx.G τ i) fun k => mapW m fun bs => bindV (aLookup cx.P cx.T t m k ok H) fun u => K u H (.some bs [] 0 0) := id rfl
@[go_sem ↓] theorem regOp_alloc (t : TypeId) : regOp cx near (.alloc t) τ H K Kp = bindR (aAlloc cx.T t H) fun u H' => K u H' (.some [] [] H.next H'.next) := id rfl
@[go_sem ↓] theorem regOp_box (t : TypeId) (x : Operand) : regOp cx near (.box t x) τ H K Kp = bindV (aeval cx.G τ x) fun v => bindR (aBox v H) fun u H' => K u H' (.some [] [] H.next H'.next) := id rfl
@[go_sem ↓] theorem regOp_buildSlice (t : TypeId) (n : Nat) (ps : List (Nat × Operand)) : regOp cx near (.buildSlice t n ps.toArray) τ H K Kp = bindP (aparts cx.G τ ps) fun vs => bindR (aBuildSlice cx.T t n vs H) fun u H' => K u H' (.some [] [] H.next H'.next) := id rfl
@[go_sem ↓] theorem regOp_store (t : TypeId) (x y : Operand) : regOp cx near (.store t x y) τ H K Kp = bindV (aeval cx.G τ x) fun v => bindV (aeval cx.G τ y) fun u => ptrW v fun b => bindH (aStore cx.T t v u H) fun H' => (∀ cs ro par gs, H.get b = some (.cells cs ro par gs) → par = []) ∧ K undef H' (.some [b] [b] 0 0) := id rfl
@[go_sem ↓] theorem regOp_mapUpdate (t : TypeId) (m k x : Operand) : regOp cx near (.mapUpdate t m k x) τ H K Kp = bindV (aeval cx.G τ m) fun v => bindV (aeval cx.G τ k) fun u => bindV (aeval cx.G τ x) fun y => mapW v fun bs => bindH (aMapUpdate cx.P cx.T t v u y H) fun H' => K undef H' (.some bs bs 0 0) := id rfl
@[go_sem ↓] theorem regOp_mapEntry (t : TypeId) (m k : Operand) : regOp cx near (.mapEntry t m k) τ H K Kp = bindV (aeval cx.G τ m) fun v => bindV (aeval cx.G τ k) fun u => mapW v fun bs => bindR (aMapEntry cx.P cx.T t v u H) fun r H' => K r H' (.some bs bs 0 0) := id rfl
@[go_sem ↓] theorem regOp_entryStore (t : TypeId) (m s x : Operand) : regOp cx near (.entryStore t m s x) τ H K Kp = bindV (aeval cx.G τ m) fun v => bindV (aeval cx.G τ s) fun u => bindV (aeval cx.G τ x) fun y => mapW v fun bs => bindH (aEntryStore v u y H) fun H' => K undef H' (.some bs bs 0 0) := id rfl
@[go_sem ↓] theorem regOp_append (args : List Operand) (ts : Array TypeId) : regOp cx near (.call { callee := .builtin .append, args := args.toArray, argTypes := ts }) τ H K Kp = bindL (aevals cx.G τ args) fun vs => apW cx ts vs H K := id rfl
@[go_sem ↓] theorem regOp_len (args : List Operand) (ts : Array TypeId) : regOp cx near (.call { callee := .builtin .len, args := args.toArray, argTypes := ts }) τ H K Kp = bindL (aevals cx.G τ args) fun vs => lnW cx ts vs H Kp := id rfl
@[go_sem ↓] theorem regOp_call (f : Operand) (args : List Operand) (ts : Array TypeId) : regOp cx near (.call { callee := .value f, args := args.toArray, argTypes := ts }) τ H K Kp = bindV (aeval cx.G τ f) fun fv => bindL (aevals cx.G τ args) fun vs => clW cx near fv vs H K := id rfl
@[go_sem ↓] theorem regOp_binOp (op : BinOp) (t t2 : TypeId) (x y : Operand) : regOp cx near (.binOp op t x y t2) τ H K Kp = bindV (aeval cx.G τ x) fun v => bindV (aeval cx.G τ y) fun u => bindV (aBinF cx.P cx.T op t x y v u (viewL [] [] H)) fun r => Kp r := id rfl
@[go_sem ↓] theorem regOp_move (x : Operand) : regOp cx near (.move x) τ H K Kp = bindV (aeval cx.G τ x) Kp := id rfl
@[go_sem ↓] theorem regOp_assign (x : Operand) : regOp cx near (.assign x) τ H K Kp = bindV (aeval cx.G τ x) Kp := id rfl
@[go_sem ↓] theorem regOp_pick (c x y : Operand) : regOp cx near (.pick c x y) τ H K Kp = ifW (aeval cx.G τ c) (bindV (aeval cx.G τ x) Kp) (bindV (aeval cx.G τ y) Kp) := id rfl
@[go_sem ↓] theorem regOp_build (t : TypeId) (ps : List (Nat × Operand)) : regOp cx near (.build t ps.toArray) τ H K Kp = bindP (aparts cx.G τ ps) fun vs => bindV (aBuild cx.T t vs) Kp := id rfl
@[go_sem ↓] theorem regOp_nilCheck (x : Operand) : regOp cx near (.nilCheck x) τ H K Kp = bindV (aeval cx.G τ x) fun v => nlW v Kp := id rfl
@[go_sem ↓] theorem regOp_unOp (op : UnOp) (t : TypeId) (x : Operand) : regOp cx near (.unOp op t x) τ H K Kp = bindV (aeval cx.G τ x) fun v => bindV (aUnF cx.P op v) Kp := id rfl
@[go_sem ↓] theorem regOp_convert (s d : TypeId) (x : Operand) : regOp cx near (.convert s d x) τ H K Kp = bindV (aeval cx.G τ x) fun v => cvW cx s d v H Kp := id rfl
@[go_sem ↓] theorem regOp_fieldAddr (t : TypeId) (x : Operand) (f : Nat) : regOp cx near (.fieldAddr t x f) τ H K Kp = bindV (aeval cx.G τ x) fun v => bindV (aFieldAddr cx.T t v f) Kp := id rfl
@[go_sem ↓] theorem regOp_field (t : TypeId) (x : Operand) (f : Nat) : regOp cx near (.field t x f) τ H K Kp = bindV (aeval cx.G τ x) fun v => bindV (aField cx.T t v f) Kp := id rfl
@[go_sem ↓] theorem regOp_indexAddr (t : TypeId) (x i : Operand) : regOp cx near (.indexAddr t x i) τ H K Kp = bindV (aeval cx.G τ x) fun v => bindV (aeval cx.G τ i) fun u => bindV (aIndexAddr cx.T t v u) Kp := id rfl
@[go_sem ↓] theorem regOp_index (t : TypeId) (x i : Operand) : regOp cx near (.index t x i) τ H K Kp = bindV (aeval cx.G τ x) fun v => bindV (aeval cx.G τ i) fun u => bindV (aIndex cx.T t v u) Kp := id rfl
@[go_sem ↓] theorem regOp_extract (x : Operand) (i : Nat) : regOp cx near (.extract x i) τ H K Kp = bindV (aeval cx.G τ x) fun v => bindV (aExtract v i) Kp := id rfl
end
attribute [go_sem ↓] ptrW_ptr mapW_some nlW_ptr cvW_int apW_two lnW_slice lnW_string clW_far clW_near
@[go_sem] theorem tget_restr1 (τ : Tmps) (l : List Nat) (t : Nat) : tget (restr τ l) t = if t ∈ l then tget τ t else unk := tget_restr τ l t
@[go_sem] theorem clean_nil (un : List Nat) (e : Eff) : clean un [] e = True := by simp [clean]
@[go_sem] theorem clean_cons (un : List Nat) (k : Nat) (e' : Eff) (l : List (Nat × Eff)) (e : Eff) : clean un ((k, e') :: l) e = ((k ∈ un → apart e e') ∧ clean un l e) := id rfl
@[go_sem] theorem apart_some (F W F' W' : List Nat) (a b a' b' : Nat) : apart (.some F W a b) (.some F' W' a' b') = (free1 F W' a' b' ∧ free1 F' W a b) := id rfl
@[go_sem] theorem free1_eq (F W : List Nat) (a b : Nat) : free1 F W a b = ((∀ i ∈ F, i ∉ W) ∧ ∀ i ∈ F, i < a ∨ b ≤ i) := id rfl
attribute [go_sem] List.mem_cons List.not_mem_nil List.mem_singleton forall_eq_or_imp forall_eq
@[go_sem] theorem view_next' (W F : List Nat) (H : AHeap) : (viewL W F H).next = H.next := id rfl
@[go_sem] theorem zle (n : Nat) : (0 ≤ n) = True := by simp
attribute [go_sem] and_self or_self
def appS (F : Option (List Value → AHeap → Option (Value × AHeap))) (vs : List Value) (H : AHeap) : Option (Value × AHeap) := match F with | some F => F vs H | none => none
@[go_sem] theorem appS_some (F : List Value → AHeap → Option (Value × AHeap)) (vs : List Value) (H : AHeap) : appS (some F) vs H = F vs H := id rfl
theorem callS_app {cx : Cx} {g : FuncId} (h : ∃ fn, cx.fn g = some fn) (vs : List Value) (H : AHeap) : callS cx g vs H = appS (cx.sp g) vs H := by
  obtain ⟨fn, hfn⟩ := h
  unfold callS appS
  rw [hfn]
  cases cx.sp g <;> rfl
def rowsW (r : Option AObj) (b : Nat) : List Nat := match r with | some o => b :: o.par | none => []
@[go_sem] theorem rowsOf_slice (H : AHeap) (b o : Nat) (sp : Option Nat) (l c : Nat) : rowsOf H (.slice (some ⟨b, o, sp⟩) l c) = rowsW (H.get b) b := id rfl
@[go_sem] theorem rowsOf_nil (H : AHeap) (l c : Nat) : rowsOf H (.slice none l c) = [] := id rfl
@[go_sem] theorem rowsW_cells (b : Nat) (cs : List Value) (ro : Bool) (par : List Nat) (gs : Nat) : rowsW (some (.cells cs ro par gs)) b = b :: par := id rfl
@[go_sem] theorem rowOf_slice (b o : Nat) (sp : Option Nat) (l c : Nat) : rowOf (.slice (some ⟨b, o, sp⟩) l c) = [b] := id rfl
@[go_sem] theorem rowOf_nil (l c : Nat) : rowOf (.slice none l c) = [] := id rfl
@[go_sem] theorem srcOf_one (H : AHeap) (sz b o : Nat) (sp : Option Nat) : srcOf H sz (.slice (some ⟨b, o, sp⟩) 1 1) = (ldN (H.get b) o (1 * sz)).map fun vs => (1, vs) := id rfl
attribute [go_sem] appW_nil
@[go_sem] theorem mem_append_iff (i : Nat) (a b : List Nat) : (i ∈ a ++ b) = (i ∈ a ∨ i ∈ b) := by simp
@[go_sem] theorem par_none (cs : List Value) (ro : Bool) (gs : Nat) : (∀ cs' ro' par' gs', some (AObj.cells cs ro [] gs) = some (.cells cs' ro' par' gs') → par' = []) = True := by
  simp only [eq_iff_iff, iff_true]
  intro cs' ro' par' gs' h
  injection h with h
  injection h with _ _ h _
  exact h.symm
end Go.Eng
