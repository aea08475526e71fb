/- The engine, part 22: a region in whatever order, as a proposition over open values: its operations are gone through in the text's order; of those that no edge orders it is asked that neither sees what the other makes or writes. -/
import Derived.Test.YtkjclebafpomhaaDoorEngR
set_option linter.unusedVariables false
set_option linter.unusedSimpArgs false
namespace Go.Eng
open Go

/-! ### What an operation touches -/
/-- 'some F W a b': it looks at the rows of F and W, writes those of W, makes those from a on ahead of b; 'all': whatever. -/
inductive Eff where
  | some (F W : List Nat) (a b : Nat)
  | all
/-- Neither sees what the other does. -/
def free1 (F W : List Nat) (a b : Nat) : Prop := (∀ i ∈ F, i ∉ W) ∧ ∀ i ∈ F, i < a ∨ b ≤ i
def apart : Eff → Eff → Prop
  | .some F W a b, .some F' W' a' b' => free1 F W' a' b' ∧ free1 F' W a b
  | _, _ => False
/-- An operation and those ahead of it. -/
def clean (un : List Nat) (prev : List (Nat × Eff)) (e : Eff) : Prop := match prev with
  | [] => True
  | (k, e') :: l => (k ∈ un → apart e e') ∧ clean un l e

/-- What comes of an operation, of what it touches. -/
structure Local (f : AHeap → Option (Value × AHeap)) (H : AHeap) (F W : List Nat) (v : Value) (H' : AHeap) : Prop where
  run : ∃ R, f (viewL W (W ++ F) H) = some (v, R) ∧ R.next = H'.next ∧ ∀ i, H'.get i = if i ∈ W ∨ (H.next ≤ i ∧ i < H'.next) then R.get i else H.get i
  le : H.next ≤ H'.next
  okw : okW H W = true

section
variable {cx : Cx} {N : Nat} {ops : Array Oper}

def effOf (s : Stp) : Option Eff := match s.foot, s.wr with
  | .ids F, some W => some (.some F W s.h.next s.R.next)
  | .but [], none => some .all
  | _, _ => none

/-- A step that touches little. -/
def mkStp (τ : Tmps) (H : AHeap) (F W : List Nat) (R : AHeap) (v : Value) (rd : List Nat) (o : Oper) : Stp := ⟨τ, H, viewL W (W ++ F) H, R, v, .ids (W ++ F), some W, rd, o⟩

theorem sok_local (hc : CxOK cx) {j : Nat} {o : Oper} {τ τ' : Tmps} {H H' : AHeap} {F W : List Nat} {v : Value} (hj : ops[j]? = some o) (hw : awanted ops (restr τ (o.looksAt ops)) o = some true) (h : Local (aop cx.P cx.T cx.G (restr τ (o.looksAt ops)) o.op) H F W v H')
    (hp : aput N o.dst v τ = some τ') : ∃ R, R.next = H'.next ∧ SOK cx N ops j (mkStp τ H F W R v (o.looksAt ops) o) (τ', H') := by
  obtain ⟨R, h1, h2, h3⟩ := h.run
  obtain ⟨d1, d2⟩ := aput_dst hp
  have vf := view_facts (F := W ++ F) h.okw (fun i hi => List.mem_append_left _ hi)
  refine ⟨R, h2, ⟨fun Q μ a w K hR hT hd hK => wpOp_aop hc hj hw h1 hR hT hK, d1, d2, fun i => ?_, ⟨h2.symm, by simp only [mkStp, h2]; exact h.le⟩, rfl, vf.1, vf.2.1, vf.2.2.1, vf.2.2.2⟩⟩
  have := h3 i
  rw [← h2] at this
  exact ⟨fun hi => this.trans (if_pos hi), fun hi => this.trans (if_neg hi)⟩
theorem sok_skip (hc : CxOK cx) {j : Nat} {o : Oper} {τ τ' : Tmps} {H : AHeap} (hj : ops[j]? = some o) (hw : awanted ops (restr τ (o.looksAt ops)) o = some false) (hp : aput N o.dst undef τ = some τ') : SOK cx N ops j (mkStp τ H [] [] (viewL [] [] H) undef (o.looksAt ops) o) (τ', H) := by
  obtain ⟨d1, d2⟩ := aput_dst hp
  have vf := view_facts (H := H) (W := []) (F := []) rfl (fun _ h => h)
  refine ⟨fun Q μ a w K hR hT hd hK => wpOp_skip hj hw hT (hK μ w undef (.undef μ) hR (Tn.refl hR)), d1, d2, fun i => ⟨?_, fun _ => rfl⟩, ⟨rfl, Nat.le_refl _⟩, rfl, vf.1, vf.2.1, vf.2.2.1, vf.2.2.2⟩
  rintro (hi | hi)
  · cases hi
  · exact absurd (show H.next ≤ i ∧ i < H.next from hi) (by omega)
/-- A call that is ordered against all that touches memory. -/
def mkCall (τ : Tmps) (H R : AHeap) (v : Value) (rd : List Nat) (o : Oper) : Stp := ⟨τ, H, H, R, v, .but [], none, rd, o⟩
theorem sok_call (hc : CxOK cx) {call : Calling} (hcall : CallOK cx call) {j : Nat} {o : Oper} {τ τ' : Tmps} {H R : AHeap} {g : FuncId} {vs : List Value} {v : Value} (hj : ops[j]? = some o) (hw : awanted ops (restr τ (o.looksAt ops)) o = some true)
    (hg : acallee cx.G (restr τ (o.looksAt ops)) o.op = some (g, vs)) (hr : call g vs H = some (v, R)) (hn : H.next ≤ R.next) (hp : aput N o.dst v τ = some τ') : SOK cx N ops j (mkCall τ H R v (o.looksAt ops) o) (τ', R) := by
  obtain ⟨d1, d2⟩ := aput_dst hp
  refine ⟨fun Q μ a w K hR hT hd hK => wpOp_call hc hcall hj hw hg hr hR hT hK, d1, d2, fun i => ⟨fun _ => rfl, fun hi => ?_⟩, ⟨rfl, hn⟩, rfl, fun i o' hi => ⟨⟨rfl, AHeap.get_lt hi⟩, o', hi, .inl rfl⟩, fun i o hi _ => AHeap.get_lt hi, fun k ok i hk ha hi h => h, fun i hi => ⟨⟨rfl, hi⟩, rfl⟩⟩
  have h1 : ¬ i < H.next := fun h => hi (.inl h)
  have h2 : ¬ i < R.next := fun h => hi (.inr ⟨Nat.le_of_not_lt h1, h⟩)
  show R.get i = H.get i
  rw [AHeap.get_out (Nat.le_of_not_lt h1), AHeap.get_out (Nat.le_of_not_lt h2)]
/-- A call that needs none of the memory. -/
theorem sok_callN (hc : CxOK cx) {call : Calling} (hcall : CallOK cx call) {j : Nat} {o : Oper} {τ τ' : Tmps} {H H' : AHeap} {g : FuncId} {vs : List Value} {F W : List Nat} {v : Value} (hj : ops[j]? = some o) (hw : awanted ops (restr τ (o.looksAt ops)) o = some true)
    (hg : acallee cx.G (restr τ (o.looksAt ops)) o.op = some (g, vs)) (h : Local (call g vs) H F W v H') (hp : aput N o.dst v τ = some τ') : ∃ R, R.next = H'.next ∧ SOK cx N ops j (mkStp τ H F W R v (o.looksAt ops) o) (τ', H') := by
  obtain ⟨R, h1, h2, h3⟩ := h.run
  obtain ⟨d1, d2⟩ := aput_dst hp
  have vf := view_facts (F := W ++ F) h.okw (fun i hi => List.mem_append_left _ hi)
  refine ⟨R, h2, ⟨fun Q μ a w K hR hT hd hK => wpOp_call hc hcall hj hw hg h1 hR hT hK, d1, d2, fun i => ?_, ⟨h2.symm, by simp only [mkStp, h2]; exact h.le⟩, rfl, vf.1, vf.2.1, vf.2.2.1, vf.2.2.2⟩⟩
  have := h3 i
  rw [← h2] at this
  exact ⟨fun hi => this.trans (if_pos hi), fun hi => this.trans (if_neg hi)⟩

theorem clashNew_ids {F : List Nat} {n a b : Nat} (h : ∀ i ∈ F, i < a ∨ b ≤ i) : clashNew (.ids F) n a b = false := by
  simp only [clashNew, List.any_eq_false]
  intro i hi hh
  have := inR_iff.1 hh
  have := h i hi
  omega
theorem noclash_of {F W : List Nat} {n : Nat} {k : Stp} (hk : k.wr = some W) (h1 : ∀ i ∈ F, i ∉ W) (h2 : ∀ i ∈ F, i < k.h.next ∨ k.R.next ≤ i) : noclash (.ids F) n k = true := by
  unfold noclash
  rw [hk]
  simp only [Bool.and_eq_true, List.all_eq_true, Bool.or_eq_true, Bool.not_eq_true']
  refine ⟨fun i hi => .inl ?_, clashNew_ids h2⟩
  cases h : Foot.has (.ids F) i with
  | false => rfl
  | true => exact absurd hi (h1 i (inL_iff.1 h))
theorem apart_ok {s t : Stp} {e e' : Eff} (hs : effOf s = some e) (ht : effOf t = some e') (h : apart e e') : noclash s.foot s.h.next t = true ∧ noclash t.foot t.h.next s = true := by
  unfold effOf at hs ht
  split at hs
  · rename_i F W f1 f2
    split at ht
    · rename_i F' W' g1 g2
      injection hs with hs; injection ht with ht
      subst hs; subst ht
      rw [f1, g1]
      exact ⟨noclash_of g2 h.1.1 h.1.2, noclash_of f2 h.2.1 h.2.2⟩
    · injection ht with ht; subst ht; injection hs with hs; subst hs; cases h
    · cases ht
  · injection hs with hs; subst hs; cases h
  · cases hs

/-! ### The wp of such a region -/
/-- A place's row. -/
def ptrW (v : Value) (k : Nat → Prop) : Prop := match v with | .pointer (some a) => k a.block | _ => False
def mapW (v : Value) (k : List Nat → Prop) : Prop := match v with | .map none => k [] | .map (some r) => k [r] | _ => False
theorem ptrW_ptr (b o : Nat) (sp : Option Nat) (k : Nat → Prop) : ptrW (.pointer (some ⟨b, o, sp⟩)) k = k b := id rfl
theorem mapW_some (r : Nat) (k : List Nat → Prop) : mapW (.map (some r)) k = k [r] := id rfl
@[congr] theorem ptrW_congr {v v' : Value} {k : Nat → Prop} (h : v = v') : ptrW v k = ptrW v' k := by rw [h]
@[congr] theorem mapW_congr {v v' : Value} {k : List Nat → Prop} (h : v = v') : mapW v k = mapW v' k := by rw [h]
/-- What a slice's row is, with those that it may have grown out of. -/
def rowsOf (H : AHeap) (v : Value) : List Nat := match v with
  | .slice (some a) _ _ => (match H.get a.block with | some o => a.block :: o.par | none => [])
  | _ => []
def rowOf (v : Value) : List Nat := match v with
  | .slice (some a) _ _ => [a.block]
  | _ => []

def nlW (v : Value) (k : Value → Prop) : Prop := match v with | .pointer (some p) => k (.pointer (some p)) | _ => False
def cvW (cx : Cx) (s d : TypeId) (v : Value) (H : AHeap) (k : Value → Prop) : Prop := match v with
  | .int i n => bindR (aConv cx.T s d (.int i n) (viewL [] [] H)) fun u R => R = viewL [] [] H ∧ k u
  | _ => False
def apW (cx : Cx) (ts : Array TypeId) (vs : List Value) (H : AHeap) (K : Value → AHeap → Eff → Prop) : Prop := match vs with
  | [s, x] => bindR (aBuiltin cx.P cx.T .append ts [s, x] H) fun u H' => K u H' (.some (rowsOf H s ++ rowOf x) (rowsOf H s) H.next H'.next)
  | _ => False
def lnW (cx : Cx) (ts : Array TypeId) (vs : List Value) (H : AHeap) (k : Value → Prop) : Prop := match vs with
  | [.slice a n c] => bindR (aBuiltin cx.P cx.T .len ts [.slice a n c] H) fun u _ => k u
  | [.string s] => bindR (aBuiltin cx.P cx.T .len ts [.string s] H) fun u _ => k u
  | _ => False
def clW (cx : Cx) (near : Bool) (fv : Value) (vs : List Value) (H : AHeap) (K : Value → AHeap → Eff → Prop) : Prop := match fv with
  | .func (.func g) first cap => bif near then bindR (callS cx g (first.toList ++ vs ++ cap.toList) H) fun u H' => Local (callS cx g (first.toList ++ vs ++ cap.toList)) H [] [] u H' ∧ K u H' (.some [] [] H.next H'.next)
      else bindR (callS cx g (first.toList ++ vs ++ cap.toList) H) fun u R => H.next ≤ R.next ∧ K u R .all
  | _ => False
@[congr] theorem nlW_congr {v v' : Value} {k : Value → Prop} (h : v = v') : nlW v k = nlW v' k := by rw [h]
@[congr] theorem cvW_congr {cx : Cx} {s d : TypeId} {v v' : Value} {H : AHeap} {k : Value → Prop} (h : v = v') : cvW cx s d v H k = cvW cx s d v' H k := by rw [h]
@[congr] theorem apW_congr {cx : Cx} {ts : Array TypeId} {vs vs' : List Value} {H : AHeap} {K : Value → AHeap → Eff → Prop} (h : vs = vs') : apW cx ts vs H K = apW cx ts vs' H K := by rw [h]
@[congr] theorem lnW_congr {cx : Cx} {ts : Array TypeId} {vs vs' : List Value} {H : AHeap} {k : Value → Prop} (h : vs = vs') : lnW cx ts vs H k = lnW cx ts vs' H k := by rw [h]
@[congr] theorem clW_congr {cx : Cx} {near : Bool} {fv fv' : Value} {vs vs' : List Value} {H : AHeap} {K : Value → AHeap → Eff → Prop} (h : fv = fv') (h2 : vs = vs') : clW cx near fv vs H K = clW cx near fv' vs' H K := by rw [h, h2]
theorem nlW_ptr (a : Addr) (k : Value → Prop) : nlW (.pointer (some a)) k = k (.pointer (some a)) := id rfl
theorem cvW_int (cx : Cx) (s d : TypeId) (i : IntKind) (n : Int) (H : AHeap) (k : Value → Prop) : cvW cx s d (.int i n) H k = bindR (aConv cx.T s d (.int i n) (viewL [] [] H)) fun u R => R = viewL [] [] H ∧ k u := id rfl
theorem apW_two (cx : Cx) (ts : Array TypeId) (s x : Value) (H : AHeap) (K : Value → AHeap → Eff → Prop) : apW cx ts [s, x] H K = bindR (aBuiltin cx.P cx.T .append ts [s, x] H) fun u H' => K u H' (.some (rowsOf H s ++ rowOf x) (rowsOf H s) H.next H'.next) := id rfl
theorem lnW_slice (cx : Cx) (ts : Array TypeId) (a : Option Addr) (n c : Nat) (H : AHeap) (k : Value → Prop) : lnW cx ts [.slice a n c] H k = bindR (aBuiltin cx.P cx.T .len ts [.slice a n c] H) fun u _ => k u := id rfl
theorem lnW_string (cx : Cx) (ts : Array TypeId) (s : ByteArray) (H : AHeap) (k : Value → Prop) : lnW cx ts [.string s] H k = bindR (aBuiltin cx.P cx.T .len ts [.string s] H) fun u _ => k u := id rfl
theorem clW_far (cx : Cx) (g : FuncId) (vs : List Value) (H : AHeap) (K : Value → AHeap → Eff → Prop) : clW cx false (.func (.func g) #[] #[]) vs H K = bindR (callS cx g vs H) fun u R => H.next ≤ R.next ∧ K u R .all := by simp [clW]
theorem clW_near (cx : Cx) (g : FuncId) (vs : List Value) (H : AHeap) (K : Value → AHeap → Eff → Prop) : clW cx true (.func (.func g) #[] #[]) vs H K = bindR (callS cx g vs H) fun u H' => Local (callS cx g vs) H [] [] u H' ∧ K u H' (.some [] [] H.next H'.next) := by simp [clW]
/-- An operation on what is read; what it touches. -/
def regOp (cx : Cx) (near : Bool) (op : Op) (τ : Tmps) (H : AHeap) (K : Value → AHeap → Eff → Prop) (Kp : Value → Prop) : Prop := match op with
  | .load t x => bindV (aeval cx.G τ x) fun v => ptrW v fun b => bindR (aLoad cx.T t v H) fun u _ => K u H (.some [b] [] 0 0)
  | .lookup t x i ok => bindV (aeval cx.G τ x) fun m => bindV (aeval cx.G τ i) fun k => mapW m fun bs => bindV (aLookup cx.P cx.T t m k ok H) fun u => K u H (.some bs [] 0 0)
  | .alloc t => bindR (aAlloc cx.T t H) fun u H' => K u H' (.some [] [] H.next H'.next)
  | .box _ x => bindV (aeval cx.G τ x) fun v => bindR (aBox v H) fun u H' => K u H' (.some [] [] H.next H'.next)
  | .buildSlice t n ps => bindP (aparts cx.G τ ps.toList) fun vs => bindR (aBuildSlice cx.T t n vs H) fun u H' => K u H' (.some [] [] H.next H'.next)
  | .store t x y => bindV (aeval cx.G τ x) fun v => bindV (aeval cx.G τ y) fun u => ptrW v fun b => bindH (aStore cx.T t v u H) fun H' => (∀ cs ro par gs, H.get b = some (.cells cs ro par gs) → par = []) ∧ K undef H' (.some [b] [b] 0 0)
  | .mapUpdate t m k x => bindV (aeval cx.G τ m) fun v => bindV (aeval cx.G τ k) fun u => bindV (aeval cx.G τ x) fun y => mapW v fun bs => bindH (aMapUpdate cx.P cx.T t v u y H) fun H' => K undef H' (.some bs bs 0 0)
  | .mapEntry t m k => bindV (aeval cx.G τ m) fun v => bindV (aeval cx.G τ k) fun u => mapW v fun bs => bindR (aMapEntry cx.P cx.T t v u H) fun r H' => K r H' (.some bs bs 0 0)
  | .entryStore _ m s x => bindV (aeval cx.G τ m) fun v => bindV (aeval cx.G τ s) fun u => bindV (aeval cx.G τ x) fun y => mapW v fun bs => bindH (aEntryStore v u y H) fun H' => K undef H' (.some bs bs 0 0)
  | .call { callee := .builtin .append, args, argTypes } => bindL (aevals cx.G τ args.toList) fun vs => apW cx argTypes vs H K
  | .call { callee := .builtin .len, args, argTypes } => bindL (aevals cx.G τ args.toList) fun vs => lnW cx argTypes vs H Kp
  | .call { callee := .value f, args, .. } => bindV (aeval cx.G τ f) fun fv => bindL (aevals cx.G τ args.toList) fun vs => clW cx near fv vs H K
  | .binOp op t x y t2 => bindV (aeval cx.G τ x) fun v => bindV (aeval cx.G τ y) fun u => bindV ((aBin cx.P cx.T op t x y v u (viewL [] [] H)).bind fun v => if flat 1 v then some v else none) fun r => Kp r
  | .move x | .assign x => bindV (aeval cx.G τ x) Kp
  | .pick c x y => ifW (aeval cx.G τ c) (bindV (aeval cx.G τ x) Kp) (bindV (aeval cx.G τ y) Kp)
  | .build t ps => bindP (aparts cx.G τ ps.toList) fun vs => bindV (aBuild cx.T t vs) Kp
  | .nilCheck x => bindV (aeval cx.G τ x) fun v => nlW v Kp
  | .unOp op _ x => bindV (aeval cx.G τ x) fun v => bindV ((aUn cx.P op v).bind fun v => if flat 1 v then some v else none) Kp
  | .convert s d x => bindV (aeval cx.G τ x) fun v => cvW cx s d v H Kp
  | .fieldAddr t x f => bindV (aeval cx.G τ x) fun v => bindV (aFieldAddr cx.T t v f) Kp
  | .field t x f => bindV (aeval cx.G τ x) fun v => bindV (aField cx.T t v f) Kp
  | .indexAddr t x i => bindV (aeval cx.G τ x) fun v => bindV (aeval cx.G τ i) fun u => bindV (aIndexAddr cx.T t v u) Kp
  | .index t x i => bindV (aeval cx.G τ x) fun v => bindV (aeval cx.G τ i) fun u => bindV (aIndex cx.T t v u) Kp
  | .extract x i => bindV (aeval cx.G τ x) fun v => bindV (aExtract v i) Kp
  | _ => False

abbrev Info := List (List Nat × List Nat × Bool)
/-- Through a region's operations; 'inf': of each, the places that it looks at, those ahead of it that no edge orders with it, whether it is a call that needs none of the memory. -/
def regL (cx : Cx) (N : Nat) (ops : List Oper) (K : Tmps → AHeap → Prop) : List Oper → Info → Nat → List (Nat × Eff) → Tmps → AHeap → Prop
  | [], _, _, _, τ, H => K τ H
  | o :: l, (rd, un, near) :: inf, j, prev, τ, H =>
    let yes := regOp cx near o.op (restr τ rd) H
      (fun v H' e => clean un prev e ∧ match o.dst with
        | none => regL cx N ops K l inf (j + 1) ((j, e) :: prev) τ H'
        | some d => d < N ∧ regL cx N ops K l inf (j + 1) ((j, e) :: prev) (τ.put d (some v)) H')
      (fun v => match o.dst with
        | none => regL cx N ops K l inf (j + 1) prev τ H
        | some d => d < N ∧ regL cx N ops K l inf (j + 1) prev (τ.put d (some v)) H)
    let no := match o.dst with
        | none => regL cx N ops K l inf (j + 1) prev τ H
        | some d => d < N ∧ regL cx N ops K l inf (j + 1) prev (τ.put d (some undef)) H
    match o.guard with
    | none => yes
    | some (g, w) => gdW (dstV ops g (restr τ rd)) w yes no
  | _ :: _, [], _, _, _, _ => False

/-! ### Places -/
def noTo (rd : List Nat) (o t : Oper) : Bool := match t.dst with
  | none => true
  | some d => !(inL rd d) && !(match o.dst with | some d' => Nat.beq d d' | none => false)
def statPrev (M : List Nat) (j : Nat) (rd un : List Nat) (o : Oper) : List Oper → Info → Nat → Bool
  | o' :: l, (rd', _, _) :: inf, k => (Nat.ble j k || ((M.getD j 0).testBit k || (inL un k && noTo rd' o' o && noTo rd o o'))) && statPrev M j rd un o l inf (k + 1)
  | _, _, _ => true
def statGo (M : List Nat) (ops : Array Oper) (inf0 : Info) : List Oper → Info → Nat → Bool
  | [], _, _ => true
  | o :: l, (rd, un, _) :: inf, j => (rd == o.looksAt ops) && statPrev M j rd un o ops.toList inf0 0 && statGo M ops inf0 l inf (j + 1)
  | _ :: _, [], _ => false
def statAll (ops : Array Oper) (inf : Info) : Bool := match masksGo ops.toList [] with
  | M => Nat.beq M.length ops.size && ordOkGo M ops.toList 0 && statGo M ops inf ops.toList inf 0

section
variable {cx : Cx} {N : Nat} {ops : Array Oper}
theorem loadN_view {W F : List Nat} {H : AHeap} {b o n : Nat} {sp : Option Nat} (hb : b ∈ W ∨ b ∈ F) : loadN (viewL W F H) ⟨b, o, sp⟩ n = loadN H ⟨b, o, sp⟩ n := by
  unfold loadN
  simp only [get_viewL]
  by_cases h1 : b ∈ W
  · rw [if_pos (inL_iff.2 h1)]
  · rw [if_neg (by rw [inL_iff]; exact h1), if_pos (inL_iff.2 (hb.resolve_left h1))]
    cases H.get b with
    | none => rfl
    | some ob => cases ob <;> rfl
theorem view_next (W F : List Nat) (H : AHeap) : (viewL W F H).next = H.next := rfl
theorem view_at {W F : List Nat} {H : AHeap} {i : Nat} (h : i ∈ W) : (viewL W F H).get i = H.get i := by rw [get_viewL, if_pos (inL_iff.2 h)]

variable {f : AHeap → Option (Value × AHeap)} {H : AHeap} {v : Value}
theorem Local.same {F : List Nat} (h : f (viewL [] F H) = some (v, viewL [] F H)) : Local f H F [] v H :=
  ⟨⟨_, h, rfl, fun i => by rw [if_neg]; simp⟩, Nat.le_refl _, rfl⟩
theorem Local.new {o : AObj} (h : ∀ E : AHeap, E.next = H.next → f E = some (v, E.new o)) : Local f H [] [] v (H.new o) :=
  ⟨⟨_, h _ (view_next ..), rfl, fun i => by
    rw [AHeap.get_new]
    by_cases e : i = H.next
    · rw [if_pos e, if_pos (.inr (by simp [e])), AHeap.get_new, if_pos (by rw [e]; rfl)]
    · rw [if_neg e, if_neg]
      simp; omega⟩, by simp, rfl⟩
theorem Local.set {r : Nat} {o : AObj} (h : ∀ E : AHeap, E.next = H.next → E.get r = H.get r → f E = some (v, E.set r o)) (hr : r < H.next) (hp : ∀ o, H.get r = some o → o.par = []) : Local f H [] [r] v (H.set r o) :=
  ⟨⟨_, h _ (view_next ..) (view_at (by simp)), rfl, fun i => by
    rw [AHeap.get_set _ _ _ _ hr]
    by_cases e : i = r
    · rw [if_pos e, if_pos (.inl (by simp [e])), AHeap.get_set _ _ _ _ (show r < (viewL [r] ([r] ++ []) H).next from hr), if_pos e]
    · rw [if_neg e, if_neg]
      simp; omega⟩, Nat.le_refl _, by
    simp only [okW, List.all_cons, List.all_nil, Bool.and_true, Bool.and_eq_true]
    refine ⟨by simpa [Nat.blt_eq] using hr, ?_⟩
    cases hg : H.get r with
    | none => rfl
    | some ob => simp [hp ob hg]⟩

theorem aLoad_local {T : Tb} {t : TypeId} {b o : Nat} {sp : Option Nat} {u : Value} {H' : AHeap} (h : aLoad T t (.pointer (some ⟨b, o, sp⟩)) H = some (u, H')) : H' = H ∧ aLoad T t (.pointer (some ⟨b, o, sp⟩)) (viewL [] [b] H) = some (u, viewL [] [b] H) := by
  unfold aLoad at h ⊢
  simp only [loadN_view (W := []) (F := [b]) (H := H) (.inr (List.mem_singleton.2 rfl))] at h ⊢
  split at h
  · rename_i d i hd hi
    split at h
    · rename_i hag
      obtain ⟨vs, hvs, h⟩ := Option.map_eq_some_iff.1 h
      injection h with h1 h2
      subst h1; subst h2
      exact ⟨rfl, by rw [if_pos hag, hvs]; rfl⟩
    · rename_i hag
      split at h
      · rename_i v hv
        injection h with h
        injection h with h1 h2
        subst h1; subst h2
        exact ⟨rfl, by rw [if_neg hag]⟩
      · cases h
  · cases h
theorem aLookup_local {P : Program} {T : Tb} {t : TypeId} {m k u : Value} {ok : Bool} {bs : List Nat} (hm : m = .map none ∧ bs = [] ∨ ∃ r, m = .map (some r) ∧ bs = [r]) (h : aLookup P T t m k ok H = some u) : aLookup P T t m k ok (viewL [] bs H) = some u := by
  rw [← h]
  rcases hm with ⟨rfl, rfl⟩ | ⟨r, rfl, rfl⟩
  · rfl
  · unfold aLookup
    have : (viewL [] [r] H).get r = (H.get r).bind AObj.shut := by rw [get_viewL, if_neg (by simp [inL]), if_pos (by simp [inL])]
    simp only [this]
    cases H.get r with
    | none => rfl
    | some ob => cases ob <;> rfl
theorem aNew_inv {cs : List Value} {gs : Nat} {r : Value × AHeap} (h : aNew cs gs H = some r) : cs.all one = true ∧ r = (.pointer (some ⟨H.next, 0, none⟩), H.new (.cells cs false [] gs)) := by
  unfold aNew at h
  split at h
  · rename_i h1; injection h with h; exact ⟨h1, h.symm⟩
  · cases h

theorem aStore_inv {T : Tb} {t : TypeId} {b o : Nat} {sp : Option Nat} {u : Value} {H' : AHeap} (h : aStore T t (.pointer (some ⟨b, o, sp⟩)) u H = some H') (hp : ∀ cs ro par gs, H.get b = some (.cells cs ro par gs) → par = []) :
    b < H.next ∧ (∀ ob, H.get b = some ob → ob.par = []) ∧ ∃ o', H' = H.set b o' ∧ ∀ E : AHeap, E.next = H.next → E.get b = H.get b → aStore T t (.pointer (some ⟨b, o, sp⟩)) u E = some (E.set b o') := by
  unfold aStore at h ⊢
  simp only at h ⊢
  split at h
  · rename_i i hi
    split at h
    · rename_i hk
      unfold storeN at h ⊢
      simp only at h ⊢
      split at h
      · rename_i cs ro par gs hg
        have := hp _ _ _ _ hg
        subst this
        split at h
        · rename_i hc
          injection h with h
          refine ⟨AHeap.get_lt hg, fun ob hob => by rw [hg] at hob; injection hob with hob; subst hob; rfl, _, h.symm, fun E _ hE => ?_⟩
          rw [if_pos hk, hE, hg]
          simp only
          rw [if_pos hc]
          rfl
        · cases h
      · cases h
    · cases h
  · cases h
theorem aMapUpdate_inv {P : Program} {T : Tb} {t : TypeId} {m k u : Value} {H' : AHeap} (h : aMapUpdate P T t m k u H = some H') :
    ∃ r, m = .map (some r) ∧ r < H.next ∧ (∀ ob, H.get r = some ob → ob.par = []) ∧ ∃ o', H' = H.set r o' ∧ ∀ E : AHeap, E.next = H.next → E.get r = H.get r → aMapUpdate P T t m k u E = some (E.set r o') := by
  unfold aMapUpdate at h ⊢
  split at h
  · rename_i kt e r hu
    split at h
    · rename_i es ck hg
      split at h
      · rename_i hf
        have hr := AHeap.get_lt hg
        have hpar : ∀ ob, H.get r = some ob → ob.par = [] := fun ob hob => by rw [hg] at hob; injection hob with hob; subst hob; rfl
        split at h
        · rename_i x1 j c1 c2
          split at h
          · rename_i hb
            injection h with h
            refine ⟨r, rfl, hr, hpar, _, h.symm, fun E _ hE => ?_⟩
            simp only [hu, hE, hg, if_pos hf, c1, c2]
            rw [if_pos hb]
          · cases h
        · rename_i x1 c1 c2
          injection h with h
          refine ⟨r, rfl, hr, hpar, _, h.symm, fun E _ hE => ?_⟩
          simp only [hu, hE, hg, if_pos hf, c1, c2]
        · cases h
      · cases h
    · cases h
  · cases h
theorem aMapEntry_inv {P : Program} {T : Tb} {t : TypeId} {m k v : Value} {H' : AHeap} (h : aMapEntry P T t m k H = some (v, H')) :
    ∃ r, m = .map (some r) ∧ r < H.next ∧ (∀ ob, H.get r = some ob → ob.par = []) ∧ ∃ o', H' = H.set r o' ∧ ∀ E : AHeap, E.next = H.next → E.get r = H.get r → aMapEntry P T t m k E = some (v, E.set r o') := by
  unfold aMapEntry at h ⊢
  split at h
  · rename_i kt e r hu
    split at h
    · rename_i es ck hg
      split at h
      · rename_i hf
        have hr := AHeap.get_lt hg
        have hpar : ∀ ob, H.get r = some ob → ob.par = [] := fun ob hob => by rw [hg] at hob; injection hob with hob; subst hob; rfl
        split at h
        · rename_i x1 j c1 c2
          split at h
          · rename_i hb
            injection h with h
            injection h with h1 h2
            refine ⟨r, rfl, hr, hpar, _, h2.symm, fun E _ hE => ?_⟩
            simp only [hu, hE, hg, if_pos hf, c1, c2]
            rw [if_pos hb, h1]
          · cases h
        · rename_i x1 c1 c2
          obtain ⟨z, hz, h⟩ := Option.map_eq_some_iff.1 h
          injection h with h1 h2
          refine ⟨r, rfl, hr, hpar, _, h2.symm, fun E _ hE => ?_⟩
          simp only [hu, hE, hg, if_pos hf, c1, c2, hz, Option.map_some, h1]
        · cases h
      · cases h
    · cases h
  · cases h
theorem aEntryStore_inv {m s u : Value} {H' : AHeap} (h : aEntryStore m s u H = some H') :
    ∃ r, m = .map (some r) ∧ r < H.next ∧ (∀ ob, H.get r = some ob → ob.par = []) ∧ ∃ o', H' = H.set r o' ∧ ∀ E : AHeap, E.next = H.next → E.get r = H.get r → aEntryStore m s u E = some (E.set r o') := by
  unfold aEntryStore at h ⊢
  split at h
  · rename_i r k n
    split at h
    · rename_i es ck hg
      obtain ⟨j, hj, h⟩ := Option.map_eq_some_iff.1 h
      refine ⟨r, rfl, AHeap.get_lt hg, fun ob hob => by rw [hg] at hob; injection hob with hob; subst hob; rfl, _, h.symm, fun E _ hE => ?_⟩
      simp only [hE, hg, hj, Option.map_some]
    · cases h
  · cases h

theorem Local.of {F W : List Nat} {H' R : AHeap} (h : f (viewL W (W ++ F) H) = some (v, R)) (hn : R.next = H'.next) (hle : H.next ≤ H'.next) (h1 : ∀ i, i ∈ W → R.get i = H'.get i) (h2 : ∀ i, H.next ≤ i → i < H'.next → R.get i = H'.get i)
    (h3 : ∀ i, i ∉ W → i < H.next → H'.get i = H.get i) (hw : okW H W = true) : Local f H F W v H' :=
  ⟨⟨R, h, hn, fun i => by
    by_cases e1 : i ∈ W
    · rw [if_pos (.inl e1), h1 i e1]
    · by_cases e2 : H.next ≤ i ∧ i < H'.next
      · rw [if_pos (.inr e2), h2 i e2.1 e2.2]
      · rw [if_neg (by rintro (h | h); exact e1 h; exact e2 h)]
        rcases Nat.lt_or_ge i H.next with e3 | e3
        · exact h3 i e1 e3
        · rw [AHeap.get_out e3, AHeap.get_out]
          rcases Nat.lt_or_ge i H'.next with e4 | e4
          · exact absurd ⟨e3, e4⟩ e2
          · exact e4⟩, hle, hw⟩

/-- Nothing that a row has grown out of is written any more. -/
def Grew (H : AHeap) : Prop := ∀ i o, H.get i = some o → ∀ p, p ∈ o.par → p < H.next ∧ ∀ q, H.get p = some q → q.alive = false
theorem rows_okW (hg : Grew H) (s : Value) : okW H (rowsOf H s) = true := by
  unfold rowsOf
  split
  · rename_i a l c
    cases ha : H.get a.block with
    | none => rfl
    | some o =>
      simp only [okW, List.all_cons, Bool.and_eq_true, List.all_eq_true]
      refine ⟨⟨by simpa [Nat.blt_eq] using AHeap.get_lt ha, ?_⟩, fun p hp => ?_⟩
      · rw [ha]
        simp only [Bool.or_eq_true, List.all_eq_true]
        exact .inr fun x hx => inL_iff.2 (List.mem_cons_of_mem _ hx)
      · obtain ⟨h1, h2⟩ := hg _ o ha p hp
        refine ⟨by simpa [Nat.blt_eq] using h1, ?_⟩
        cases hq : H.get p with
        | none => rfl
        | some q => simp [h2 q hq]
  · rfl
theorem src_view {W F : List Nat} {size : Nat} {x : Value} (hx : ∀ i ∈ rowOf x, i ∈ F) : srcOf (viewL W F H) size x = srcOf H size x := by
  unfold srcOf
  split
  · rfl
  · rename_i a n c
    obtain ⟨b, o, sp⟩ := a
    rw [loadN_view (.inr (hx b (by simp [rowOf])))]
  · rfl
  · rfl
theorem aAppend_local {T : Tb} {t xt : TypeId} {s x : Value} {H' : AHeap} (hg : Grew H) (h : aAppend T t xt s x H = some (v, H')) : Local (aAppend T t xt s x) H (rowOf x) (rowsOf H s) v H' := by
  have hsrc : ∀ size, srcOf (viewL (rowsOf H s) (rowsOf H s ++ rowOf x) H) size x = srcOf H size x := fun size => src_view fun i hi => List.mem_append_right _ hi
  unfold aAppend at h
  split at h
  · rename_i e d hu hd
    split at h
    · cases h
    · rename_i hni
      split at h
      · rename_i i z hi hz
        split at h
        · cases h
        · rename_i h0
          split at h
          · rename_i n vs hs
            split at h
            · -- nil
              split at h
              · rename_i hn
                injection h with h; injection h with h1 h2
                subst h1; subst h2
                refine .of (R := viewL [] ([] ++ rowOf x) H) ?_ rfl (Nat.le_refl _) (fun i hi => by cases hi) (fun i h1 h2 => absurd h1 (by omega)) (fun _ _ _ => rfl) rfl
                show aAppend T t xt _ x (viewL [] ([] ++ rowOf x) H) = _
                have := hsrc i.size
                simp only [rowsOf] at this
                unfold aAppend
                simp only [hu, hd, hi, hz, if_neg hni, if_neg h0, this, hs, hn, if_true]
              · rename_i hn
                split at h
                · rename_i hby
                  obtain ⟨r, hr, h⟩ := Option.map_eq_some_iff.1 h
                  obtain ⟨hall, rfl⟩ := aNew_inv hr
                  injection h with h1 h2
                  subst h1; subst h2
                  refine .of (R := (viewL [] ([] ++ rowOf x) H).new (.cells vs false [] i.size)) ?_ rfl (by simp) (fun i hi => by cases hi) (fun j h1 h2 => ?_) (fun j _ h2 => by rw [AHeap.get_new, if_neg (by omega)]) rfl
                  · show aAppend T t xt _ x (viewL [] ([] ++ rowOf x) H) = _
                    have := hsrc i.size
                    simp only [rowsOf] at this
                    unfold aAppend
                    simp only [hu, hd, hi, hz, if_neg hni, if_neg h0, this, hs, if_neg hn, if_pos hby, aNew, if_pos hall, Option.map_some]
                    rfl
                  · have e : j = H.next := by simp at h2; omega
                    rw [AHeap.get_new, AHeap.get_new, view_next, if_pos e, if_pos e]
                · cases h
            · rename_i a l c
              have hok : okW H (rowsOf H (.slice (some a) l c)) = true := rows_okW hg _
              have hrows : ∀ o, H.get a.block = some o → rowsOf H (.slice (some a) l c) = a.block :: o.par := fun o ho => by unfold rowsOf; simp only [ho]
              generalize hW : rowsOf H (.slice (some a) l c) = W at *
              have hin : ∀ o, H.get a.block = some o → a.block ∈ W := fun o ho => by rw [hrows o ho]; simp
              have hput : ∀ off vs' H1, storeN H ⟨a.block, off, none⟩ vs' = some H1 → ∃ R, storeN (viewL W (W ++ rowOf x) H) ⟨a.block, off, none⟩ vs' = some R ∧ R.next = H1.next ∧ H1.next = H.next ∧ (∀ i, i ∈ W → R.get i = H1.get i) ∧ (∀ i, i ∉ W → i < H.next → H1.get i = H.get i) ∧ okW H W = true := by
                intro off vs' H1 h1
                unfold storeN at h1
                simp only at h1
                split at h1
                · rename_i cs ro par gs ho
                  unfold storeN
                  simp only [view_at (hin _ ho), ho]
                  split at h1
                  · rename_i hc
                    injection h1 with h1
                    subst h1
                    have hb := AHeap.get_lt ho
                    rw [if_pos hc]
                    have hWe : W = a.block :: par := hrows _ ho
                    refine ⟨_, rfl, by simp [view_next], by simp, fun j hj => ?_, fun j hj hlt => ?_, hok⟩
                    · rw [AHeap.get_set _ _ _ _ (by simpa [view_next] using hb), AHeap.get_set _ _ _ _ (by simpa using hb)]
                      by_cases e : j = a.block
                      · rw [if_pos e, if_pos e]
                      · rw [if_neg e, if_neg e, AHeap.get_dels, AHeap.get_dels]
                        have : j ∈ par := by rw [hWe] at hj; exact (List.mem_cons.1 hj).resolve_left e
                        rw [if_pos this, if_pos this]
                    · rw [hWe] at hj
                      rw [AHeap.get_set _ _ _ _ (by simpa using hb), if_neg (fun e => hj (by simp [e])), AHeap.get_dels, if_neg (fun e => hj (List.mem_cons_of_mem _ e))]
                  · cases h1
                · cases h1
              have hload : ∀ o, H.get a.block = some o → ∀ n, loadN (viewL W (W ++ rowOf x) H) a n = loadN H a n := fun o ho n => loadN_view (.inl (hin o ho))
              have none_ : ∀ n old, loadN H a n = some old → ∃ o, H.get a.block = some o := fun n old h => by
                unfold loadN at h
                split at h
                · rename_i ho; exact ⟨_, ho⟩
                · cases h
              have start : aAppend T t xt (.slice (some a) l c) x (viewL W (W ++ rowOf x) H) = (if n = 0 then some (.slice (some a) l c, viewL W (W ++ rowOf x) H) else
                  if c < grow then
                    if l + n ≤ c then (storeN (viewL W (W ++ rowOf x) H) ⟨a.block, a.off + l * i.size, none⟩ vs).map fun H' => (.slice (some a) (l + n) c, H')
                    else if (l + n) * i.bytes ≤ 140737488355328 then
                      (loadN (viewL W (W ++ rowOf x) H) a (l * i.size)).bind fun old => (aNew (old ++ vs) i.size (viewL W (W ++ rowOf x) H)).map fun r => (.slice (some ⟨(viewL W (W ++ rowOf x) H).next, 0, none⟩) (l + n) (grow + (l + n)), r.2)
                    else none
                  else if c < empt then
                    if l + n ≤ c - grow then (storeN (viewL W (W ++ rowOf x) H) ⟨a.block, a.off + l * i.size, none⟩ vs).map fun H' => (.slice (some a) (l + n) c, H')
                    else match (viewL W (W ++ rowOf x) H).get a.block with
                      | some (.cells cs false par gs) =>
                        if gs = i.size ∧ l = c - grow ∧ a.off + l * i.size = cs.length ∧ (l + n) * i.bytes ≤ 140737488355328 then
                          some (.slice (some ⟨(viewL W (W ++ rowOf x) H).next, 0, none⟩) (l + n) (grow + (l + n)), ((viewL W (W ++ rowOf x) H).set a.block (.cells cs true par gs)).new (.cells (cs.drop a.off ++ vs) false (a.block :: par) gs))
                        else none
                      | _ => none
                  else none) := by
                unfold aAppend
                simp only [hu, hd, hi, hz, if_neg hni, if_neg h0, hsrc i.size, hs]
                rfl
              split at h
              · rename_i hn
                injection h with h; injection h with h1 h2
                subst h1; subst h2
                exact .of (R := viewL W (W ++ rowOf x) H) (start.trans (by rw [if_pos hn])) rfl (Nat.le_refl _) (fun j hj => view_at hj) (fun j h1 h2 => absurd h1 (by omega)) (fun _ _ _ => rfl) hok
              · rename_i hn
                split at h
                · rename_i hc
                  split at h
                  · rename_i hfit
                    obtain ⟨H1, hst, h⟩ := Option.map_eq_some_iff.1 h
                    injection h with h1 h2
                    subst h1; subst h2
                    obtain ⟨R, r1, r2, r3, r4, r5, r6⟩ := hput _ _ _ hst
                    refine .of (R := R) (start.trans (by rw [if_neg hn, if_pos hc, if_pos hfit, r1]; rfl)) r2 (by omega) r4 (fun i h1 h2 => absurd h1 (by omega)) r5 r6
                  · rename_i hfit
                    split at h
                    · rename_i hby
                      obtain ⟨old, ho, h⟩ := Option.bind_eq_some_iff.1 h
                      obtain ⟨r, hr, h⟩ := Option.map_eq_some_iff.1 h
                      obtain ⟨hall, rfl⟩ := aNew_inv hr
                      injection h with h1 h2
                      subst h1; subst h2
                      obtain ⟨ob, hob⟩ := none_ _ _ ho
                      refine .of (R := (viewL W (W ++ rowOf x) H).new (.cells (old ++ vs) false [] i.size)) (start.trans ?_) rfl (by simp) (fun j hj => ?_) (fun j h1 h2 => ?_) (fun j _ h2 => by rw [AHeap.get_new, if_neg (by omega)]) hok
                      · rw [if_neg hn, if_pos hc, if_neg hfit, if_pos hby, hload _ hob, ho]
                        simp only [Option.bind_some, aNew, if_pos hall, Option.map_some, view_next]
                      · rw [AHeap.get_new, AHeap.get_new, view_next, view_at hj]
                      · have e : j = H.next := by simp at h2; omega
                        rw [AHeap.get_new, AHeap.get_new, view_next, if_pos e, if_pos e]
                    · cases h
                · rename_i hc
                  split at h
                  · rename_i hce
                    split at h
                    · rename_i hfit
                      obtain ⟨H1, hst, h⟩ := Option.map_eq_some_iff.1 h
                      injection h with h1 h2
                      subst h1; subst h2
                      obtain ⟨R, r1, r2, r3, r4, r5, r6⟩ := hput _ _ _ hst
                      refine .of (R := R) (start.trans (by rw [if_neg hn, if_neg hc, if_pos hce, if_pos hfit, r1]; rfl)) r2 (by omega) r4 (fun i h1 h2 => absurd h1 (by omega)) r5 r6
                    · rename_i hfit
                      split at h
                      · rename_i cs par gs ho
                        split at h
                        · rename_i hcond
                          injection h with h; injection h with h1 h2
                          subst h1; subst h2
                          have hb := AHeap.get_lt ho
                          refine .of (R := ((viewL W (W ++ rowOf x) H).set a.block (.cells cs true par gs)).new (.cells (cs.drop a.off ++ vs) false (a.block :: par) gs)) (start.trans ?_) rfl (by simp) (fun j hj => ?_) (fun j h1 h2 => ?_) (fun j hj h2 => ?_) hok
                          · rw [if_neg hn, if_neg hc, if_pos hce, if_neg hfit, view_at (hin _ ho), ho]
                            simp only [if_pos hcond, view_next]
                          · rw [AHeap.get_new, AHeap.get_new, AHeap.get_set _ _ _ _ (by simpa [view_next] using hb), AHeap.get_set _ _ _ _ hb, view_at hj]
                            rfl
                          · have e : j = H.next := by simp at h2; omega
                            rw [AHeap.get_new, AHeap.get_new, if_pos (by simpa [view_next] using e), if_pos (by simpa using e)]
                          · rw [AHeap.get_new, if_neg (by simp; omega), AHeap.get_set _ _ _ _ hb, if_neg (fun e => hj (by rw [e]; exact hin _ ho))]
                        · cases h
                      · cases h
                  · cases h
            · cases h
          · cases h
      · cases h
  · cases h
end
end
end Go.Eng
