/- The engine, part 1: an abstract heap whose blocks bear names; when an abstract heap and the model's world say the same. -/
import Derived.Calls
import Derived.Tactics
import Derived.Orders
import Derived.Below
set_option linter.unusedVariables false
set_option linter.unusedSimpArgs false
namespace Go.Eng
open Go

/-! ### A map from numbers, as a tree: quick in the kernel -/
inductive Tr (α : Type) where
  | lf
  | nd (l : Tr α) (v : Option α) (r : Tr α)

namespace Tr
variable {α : Type}
def get : Tr α → Nat → Option α
  | lf, _ => none
  | nd l v r, n => if n = 0 then v else if n % 2 = 1 then l.get (n / 2) else r.get (n / 2 - 1)
def setF : Nat → Tr α → Nat → Option α → Tr α
  | 0, t, _, _ => t
  | f + 1, lf, n, x => if n = 0 then nd lf x lf else if n % 2 = 1 then nd (setF f lf (n / 2) x) none lf else nd lf none (setF f lf (n / 2 - 1) x)
  | f + 1, nd l v r, n, x => if n = 0 then nd l x r else if n % 2 = 1 then nd (setF f l (n / 2) x) v r else nd l v (setF f r (n / 2 - 1) x)
def put (t : Tr α) (n : Nat) (x : Option α) : Tr α := setF (n + 1) t n x
theorem get_setF : ∀ (f : Nat) (t : Tr α) (n m : Nat) (x : Option α), n < f → (setF f t n x).get m = if m = n then x else t.get m := by
  intro f
  induction f with
  | zero => intro t n m x h; omega
  | succ f ih =>
    intro t n m x h
    cases t with
    | lf =>
      simp only [setF]
      split
      · rename_i h0; subst h0
        simp only [get]
        split <;> simp_all
      · split
        · rename_i h0 h1
          simp only [get]
          split
          · rename_i hm; subst hm; rw [if_neg (by omega)]
          · split
            · rename_i hm hm1
              rw [ih _ _ _ _ (by omega)]
              by_cases e : m = n
              · subst e; simp
              · rw [if_neg (by omega), if_neg e]; rfl
            · rw [if_neg (by omega)]
        · rename_i h0 h1
          simp only [get]
          split
          · rename_i hm; subst hm; rw [if_neg (by omega)]
          · split
            · rw [if_neg (by omega)]
            · rename_i hm hm1
              rw [ih _ _ _ _ (by omega)]
              by_cases e : m = n
              · subst e; simp
              · rw [if_neg (by omega), if_neg e]; rfl
    | nd l v r =>
      simp only [setF]
      split
      · rename_i h0; subst h0
        simp only [get]
        split <;> simp_all
      · split
        · rename_i h0 h1
          simp only [get]
          split
          · rename_i hm; subst hm; rw [if_neg (by omega)]
          · split
            · rename_i hm hm1
              rw [ih _ _ _ _ (by omega)]
              by_cases e : m = n
              · subst e; simp
              · rw [if_neg (by omega), if_neg e]
            · rw [if_neg (by omega)]
        · rename_i h0 h1
          simp only [get]
          split
          · rename_i hm; subst hm; rw [if_neg (by omega)]
          · split
            · rw [if_neg (by omega)]
            · rename_i hm hm1
              rw [ih _ _ _ _ (by omega)]
              by_cases e : m = n
              · subst e; simp
              · rw [if_neg (by omega), if_neg e]
theorem get_put (t : Tr α) (n m : Nat) (x : Option α) : (t.put n x).get m = if m = n then x else t.get m := get_setF _ _ _ _ _ (by omega)
theorem get_lf (m : Nat) : (lf : Tr α).get m = none := rfl
end Tr

/-! ### The abstract heap -/
/-- What lies under a name: a row of cells ('ro': not written any more; 'par': the names whose rows it may have grown out of, in place; 'gs': the elements' size where the row grows); a map; a string's iterator. -/
inductive AObj where
  | cells (cs : List Value) (ro : Bool) (par : List Nat) (gs : Nat)
  | map (es : List MapEntry) (clock : Nat) (ro : Bool := false)
  | iter (s : ByteArray) (pos : Nat)

/-- 'back': what lies there where nothing was written yet. -/
structure AHeap where
  t : Tr (Option AObj)
  next : Nat
  back : Nat → Option AObj := fun _ => none

def AHeap.raw (H : AHeap) (i : Nat) : Option AObj := match H.t.get i with
  | some x => x
  | none => H.back i
def AHeap.get (H : AHeap) (i : Nat) : Option AObj := if Nat.ble H.next i then none else H.raw i
def AHeap.set (H : AHeap) (i : Nat) (o : AObj) : AHeap := { H with t := H.t.put i (some (some o)) }
def AHeap.del (H : AHeap) (i : Nat) : AHeap := { H with t := H.t.put i (some none) }
def AHeap.dels (H : AHeap) : List Nat → AHeap
  | [] => H
  | i :: l => (H.del i).dels l
/-- A new name. -/
def AHeap.new (H : AHeap) (o : AObj) : AHeap := { H with t := H.t.put H.next (some (some o)), next := H.next + 1 }

theorem AHeap.get_lt {H : AHeap} {i : Nat} {o : AObj} (h : H.get i = some o) : i < H.next := by
  unfold get at h
  split at h
  · cases h
  · rename_i hb
    rw [Nat.ble_eq] at hb
    omega
theorem AHeap.get_in {H : AHeap} {i : Nat} (h : i < H.next) : H.get i = H.raw i := by
  unfold get; rw [if_neg]; rw [Nat.ble_eq]; omega
theorem AHeap.get_out {H : AHeap} {i : Nat} (h : H.next ≤ i) : H.get i = none := by
  unfold get; rw [if_pos]; rw [Nat.ble_eq]; exact h
theorem AHeap.get_set (H : AHeap) (i j : Nat) (o : AObj) (hi : i < H.next) : (H.set i o).get j = if j = i then some o else H.get j := by
  rcases Nat.lt_or_ge j H.next with h | h
  · rw [get_in (H := H.set i o) h, get_in h]
    unfold raw set; rw [Tr.get_put]; by_cases e : j = i
    · rw [if_pos e, if_pos e]
    · rw [if_neg e, if_neg e]
  · rw [get_out (H := H.set i o) h, get_out h, if_neg (by omega)]
theorem AHeap.get_del (H : AHeap) (i j : Nat) : (H.del i).get j = if j = i then none else H.get j := by
  rcases Nat.lt_or_ge j H.next with h | h
  · rw [get_in (H := H.del i) h, get_in h]
    unfold raw del; rw [Tr.get_put]; by_cases e : j = i
    · rw [if_pos e, if_pos e]
    · rw [if_neg e, if_neg e]
  · rw [get_out (H := H.del i) h, get_out h]; split <;> rfl
theorem AHeap.get_new (H : AHeap) (j : Nat) (o : AObj) : (H.new o).get j = if j = H.next then some o else H.get j := by
  rcases Nat.lt_or_ge j (H.next + 1) with h | h
  · rw [get_in (H := H.new o) h]
    unfold raw new; rw [Tr.get_put]; by_cases e : j = H.next
    · rw [if_pos e, if_pos e]
    · rw [if_neg e, if_neg e, get_in (by omega)]; rfl
  · rw [get_out (H := H.new o) h, get_out (by omega), if_neg (by omega)]
@[simp] theorem AHeap.next_set (H : AHeap) (i : Nat) (o : AObj) : (H.set i o).next = H.next := rfl
@[simp] theorem AHeap.next_del (H : AHeap) (i : Nat) : (H.del i).next = H.next := rfl
@[simp] theorem AHeap.next_new (H : AHeap) (o : AObj) : (H.new o).next = H.next + 1 := rfl
@[simp] theorem AHeap.next_dels (l : List Nat) : ∀ (H : AHeap), (H.dels l).next = H.next := by
  induction l with
  | nil => intro H; rfl
  | cons i l ih => intro H; exact (ih _).trans rfl
theorem AHeap.get_dels (l : List Nat) : ∀ (H : AHeap) (j : Nat), (H.dels l).get j = if j ∈ l then none else H.get j := by
  induction l with
  | nil => intro H j; simp [dels]
  | cons i l ih =>
    intro H j
    simp only [dels]
    rw [ih, get_del]
    by_cases h : j ∈ l
    · simp [h]
    · by_cases e : j = i <;> simp [h, e]

/-! ### Where a name's row lies in the world -/
structure Pl where
  b : Nat
  s : Nat
  sz : Nat
  es : Nat
abbrev Mu := Nat → Option Pl

abbrev grow : Nat := 9223372036854775808
abbrev empt : Nat := 18446744073709551616

/-- The cap of a slice: known, or at least so much (written above 'grow'). -/
def CapRel (l c c' o : Nat) (p : Pl) : Prop :=
  l ≤ c' ∧ c' < grow ∧ ((c < grow ∧ c' = c) ∨ (grow ≤ c ∧ c < empt ∧ c - grow ≤ c' ∧ p.s + o + c' * p.es ≤ p.sz))

/-- Nothing is known of the value. -/
def unk : Value := .chan (some 0)
inductive VRel (μ : Mu) : Value → Value → Prop
  | any (v : Value) : VRel μ unk v
  | bool (b : Bool) : VRel μ (.bool b) (.bool b)
  | int (k : IntKind) (n : Int) : VRel μ (.int k n) (.int k n)
  | float (k : FloatKind) (b : Nat) : VRel μ (.float k b) (.float k b)
  | complex (k : FloatKind) (a b : Nat) : VRel μ (.complex k a b) (.complex k a b)
  | string (s : ByteArray) : VRel μ (.string s) (.string s)
  | nilFunc : VRel μ .nilFunc .nilFunc
  | nilIface : VRel μ .nilIface .nilIface
  | ptrNil : VRel μ (.pointer none) (.pointer none)
  | ptr {i o : Nat} {p : Pl} : μ i = some p → VRel μ (.pointer (some ⟨i, o, none⟩)) (.pointer (some ⟨p.b, p.s + o, none⟩))
  | sliceNil : VRel μ (.slice none 0 0) (.slice none 0 0)
  | slice {i o l c c' : Nat} {p : Pl} : μ i = some p → CapRel l c c' o p → VRel μ (.slice (some ⟨i, o, none⟩) l c) (.slice (some ⟨p.b, p.s + o, none⟩) l c')
  | empty {a a' : Addr} {c' : Nat} : c' < grow → VRel μ (.slice (some a) 0 empt) (.slice (some a') 0 c')
  | mapNil : VRel μ (.map none) (.map none)
  | map {i : Nat} {p : Pl} : μ i = some p → VRel μ (.map (some i)) (.map (some p.b))
  | func (fn : Fn) {f f' c c' : Array Value} : f.size = f'.size → c.size = c'.size → (∀ i, i < f.size → VRel μ (f.getD i undef) (f'.getD i undef)) →
      (∀ i, i < c.size → VRel μ (c.getD i undef) (c'.getD i undef)) → VRel μ (.func fn f c) (.func fn f' c')
  | iface (t : TypeId) {v v' : Value} : VRel μ v v' → VRel μ (.iface t v) (.iface t v')
  | agg {c c' : Array Value} : c.size = c'.size → (∀ i, i < c.size → VRel μ (c.getD i undef) (c'.getD i undef)) → VRel μ (.agg c) (.agg c')
  | tuple {c c' : Array Value} : c.size = c'.size → (∀ i, i < c.size → VRel μ (c.getD i undef) (c'.getD i undef)) → VRel μ (.tuple c) (.tuple c')

def ARel (μ : Mu) (c c' : Array Value) : Prop := c.size = c'.size ∧ ∀ i, i < c.size → VRel μ (c.getD i undef) (c'.getD i undef)
theorem VRel.undef (μ : Mu) : VRel μ undef undef := .tuple rfl (fun i hi => by simp at hi)

def Mu.le (μ μ' : Mu) : Prop := ∀ i p, μ i = some p → μ' i = some p
theorem Mu.le_refl (μ : Mu) : μ.le μ := fun _ _ h => h
theorem Mu.le_trans {a b c : Mu} (h : a.le b) (k : b.le c) : a.le c := fun i p e => k i p (h i p e)

theorem VRel.mono {μ μ' : Mu} (h : μ.le μ') {v v' : Value} (hv : VRel μ v v') : VRel μ' v v' := by
  induction hv with
  | ptr e => exact .ptr (h _ _ e)
  | slice e c => exact .slice (h _ _ e) c
  | any v => exact .any v
  | empty e => exact .empty e
  | map e => exact .map (h _ _ e)
  | func fn a b _ _ ih1 ih2 => exact .func fn a b ih1 ih2
  | iface t _ ih => exact .iface t ih
  | agg a _ ih => exact .agg a ih
  | tuple a _ ih => exact .tuple a ih
  | _ => constructor

theorem ARel.mono {μ μ' : Mu} (h : μ.le μ') {c c' : Array Value} (hv : ARel μ c c') : ARel μ' c c' := ⟨hv.1, fun i hi => (hv.2 i hi).mono h⟩

/-! ### Values without addresses -/
/-- 'flat d v': v bears no address, at most d deep. -/
def flat : Nat → Value → Bool
  | _, .bool _ | _, .int _ _ | _, .float _ _ | _, .complex _ _ _ | _, .string _ | _, .nilFunc | _, .nilIface | _, .pointer none | _, .map none => true
  | _, .slice none 0 0 => true
  | _, .func _ f c => f.isEmpty && c.isEmpty
  | d + 1, .iface _ v => flat d v
  | d + 1, .agg cs => cs.toList.all (flat d)
  | d + 1, .tuple cs => cs.toList.all (flat d)
  | _, _ => false

theorem arr_ext {c c' : Array Value} (hs : c.size = c'.size) (h : ∀ i, i < c.size → c.getD i undef = c'.getD i undef) : c = c' := by
  apply Array.ext hs
  intro i h1 h2
  have := h i h1
  simpa [Array.getD, h1, h2] using this
theorem all_getD {p : Value → Bool} {c : Array Value} (h : c.toList.all p = true) {i : Nat} (hi : i < c.size) : p (c.getD i undef) = true := by
  rw [List.all_eq_true] at h
  have : c.getD i undef = c[i] := by simp [Array.getD, hi]
  rw [this]
  exact h _ (by simp)

theorem flat_func0 {d : Nat} {fn : Fn} {f c : Array Value} (h : flat d (.func fn f c) = true) : f = #[] ∧ c = #[] := by cases d <;> simpa [flat] using h
theorem flat_eq {μ : Mu} {v v' : Value} (hv : VRel μ v v') : ∀ d, flat d v = true → v' = v := by
  induction hv with
  | any v => intro d h; cases d <;> simp [flat, unk] at h
  | ptr e => intro d h; cases d <;> simp [flat] at h
  | slice e c => intro d h; cases d <;> simp [flat] at h
  | empty e => intro d h; cases d <;> simp [flat] at h
  | map e => intro d h; cases d <;> simp [flat] at h
  | func fn a b _ _ ih1 ih2 =>
    intro d h
    obtain ⟨rfl, rfl⟩ := flat_func0 h
    have e1 := Array.size_eq_zero_iff.1 (a.symm.trans rfl)
    have e2 := Array.size_eq_zero_iff.1 (b.symm.trans rfl)
    rw [e1, e2]
  | iface t _ ih =>
    intro d h
    cases d with
    | zero => simp [flat] at h
    | succ d => rw [ih d (by simpa [flat] using h)]
  | agg a _ ih =>
    intro d h
    cases d with
    | zero => simp [flat] at h
    | succ d =>
      simp only [flat] at h
      rw [arr_ext a fun i hi => (ih i hi d (all_getD h hi)).symm]
  | tuple a _ ih =>
    intro d h
    cases d with
    | zero => simp [flat] at h
    | succ d =>
      simp only [flat] at h
      rw [arr_ext a fun i hi => (ih i hi d (all_getD h hi)).symm]
  | _ => intros; rfl

theorem flat_func {μ : Mu} {d : Nat} {fn : Fn} {f c : Array Value} (h : flat d (.func fn f c) = true) : VRel μ (.func fn f c) (.func fn f c) := by
  obtain ⟨rfl, rfl⟩ := flat_func0 h
  exact .func fn rfl rfl (fun i hi => by simp at hi) (fun i hi => by simp at hi)
theorem flat_rel {μ : Mu} : ∀ (d : Nat) (v : Value), flat d v = true → VRel μ v v := by
  intro d
  induction d with
  | zero =>
    intro v h
    cases v with
    | pointer a => cases a <;> first | exact .ptrNil | simp [flat] at h
    | map a => cases a <;> first | exact .mapNil | simp [flat] at h
    | slice a l c => rcases a with _ | a <;> rcases l with _ | l <;> rcases c with _ | c <;> first | exact .sliceNil | simp [flat] at h
    | func fn f c => exact flat_func h
    | _ => first | (simp [flat] at h; done) | constructor
  | succ d ih =>
    intro v h
    cases v with
    | pointer a => cases a <;> first | exact .ptrNil | simp [flat] at h
    | map a => cases a <;> first | exact .mapNil | simp [flat] at h
    | slice a l c => rcases a with _ | a <;> rcases l with _ | l <;> rcases c with _ | c <;> first | exact .sliceNil | simp [flat] at h
    | iface t v => exact .iface t (ih v (by simpa [flat] using h))
    | agg cs => simp only [flat] at h; exact .agg rfl fun i hi => ih _ (all_getD h hi)
    | tuple cs => simp only [flat] at h; exact .tuple rfl fun i hi => ih _ (all_getD h hi)
    | func fn f c => exact flat_func h
    | _ => first | constructor | simp [flat] at h

/-! ### The heap and the world -/
def EntRel (μ : Mu) (e e' : MapEntry) : Prop := VRel μ e.key e'.key ∧ VRel μ e.val e'.val ∧ e.born = e'.born

def one : Value → Bool
  | .agg _ | .tuple _ | .chan _ => false
  | _ => true

inductive ObjRel (μ : Mu) : AObj → Obj → Pl → Prop
  | cells {cs : List Value} {ro : Bool} {par : List Nat} {gs : Nat} {c : Array Value} {e : TypeId} {lo hi : Nat} {p : Pl} :
      p.sz = c.size → p.es = gs → p.s + cs.length ≤ c.size → (∀ i, i < cs.length → VRel μ (cs.getD i undef) (c.getD (p.s + i) undef)) → (∀ x ∈ cs, one x = true) →
      (ro = false → ∀ i, p.s ≤ i → i < c.size → ¬ (lo ≤ i ∧ i < hi)) → (gs = 0 → lo = 0 ∧ hi = 0) → ObjRel μ (.cells cs ro par gs) (.cells c e (lo, hi)) p
  | map {es : List MapEntry} {es' : Array MapEntry} {k : Nat} {ro : Bool} {p : Pl} : es.length = es'.size → (∀ i, i < es.length → EntRel μ (es.getD i default) (es'.getD i default)) → ObjRel μ (.map es k ro) (.map es' k) p
  | iter (s : ByteArray) (pos : Nat) {p : Pl} : p.s = 0 → ObjRel μ (.iter s pos) (.stringIter s pos) p

def AObj.par : AObj → List Nat
  | .cells _ _ par _ => par
  | _ => []
def AObj.alive : AObj → Bool
  | .cells _ ro _ _ => !ro
  | .map _ _ ro => !ro
  | _ => true

def AObj.len : AObj → Nat
  | .cells cs _ _ _ => cs.length
  | _ => 0

structure Rel (G : Nat) (μ : Mu) (H : AHeap) (w : World) : Prop where
  dom : ∀ i o, H.get i = some o → ∃ p x, μ i = some p ∧ w.heap[p.b]? = some x ∧ ObjRel μ o x p
  fin : ∀ i p, μ i = some p → i < H.next
  base : G ≤ H.next
  glob : ∀ g, g < G → ∃ p, μ g = some p ∧ p.b = g ∧ p.s = 0
  sep : ∀ i j oi oj pi pj, i ≠ j → H.get i = some oi → H.get j = some oj → μ i = some pi → μ j = some pj → pi.b = pj.b → i ∈ oj.par ∨ j ∈ oi.par
  ro : ∀ i j oi oj, H.get i = some oi → H.get j = some oj → i ∈ oj.par → oi.alive = false
  plt : ∀ i o j, H.get i = some o → j ∈ o.par → ∃ p, μ j = some p
  pend : ∀ i j oi oj pi pj, H.get i = some oi → H.get j = some oj → i ∈ oj.par → μ i = some pi → μ j = some pj → pi.b = pj.b → pi.s + oi.len ≤ pj.s + oj.len

/-- The blocks that may be written. -/
def Img (μ : Mu) (H : AHeap) (b : Nat) : Prop := ∃ i o p, H.get i = some o ∧ o.alive = true ∧ μ i = some p ∧ p.b = b

structure Ext (T : Nat → Prop) (w w' : World) : Prop where
  os : w'.os = w.os
  tape : w'.tape = w.tape
  output : w'.output = w.output
  size : w.heap.size ≤ w'.heap.size
  block : ∀ k, k < w.heap.size → ¬ T k → w'.heap[k]? = w.heap[k]?

/-- From one state to a later one. -/
structure TnB (μ : Mu) (H : AHeap) (w : World) (μ' : Mu) (H' : AHeap) (w' : World) : Prop where
  lt : ∀ i o, H.get i = some o → i < H.next
  le : μ.le μ'
  old : ∀ i, i < H.next → μ' i = μ i
  next : H.next ≤ H'.next
  ext : Ext (Img μ H) w w'
  img : ∀ i o p, H'.get i = some o → μ' i = some p → p.b < w.heap.size → Img μ H p.b ∨ (o.alive = false ∧ ∃ o0, H.get i = some o0 ∧ μ i = some p)
  dead : ∀ i o o', H.get i = some o → o.alive = false → H'.get i = some o' → o' = o
  dom : ∀ i o', i < H.next → H'.get i = some o' → ∃ o, H.get i = some o
/-- What a name in a row's ancestry was before. -/
def TnP (H H' : AHeap) : Prop := ∀ j o' i, H'.get j = some o' → i ∈ o'.par → i < H.next → (∃ o, H.get i = some o ∧ o.alive = true) ∨ (∃ j0 o0, H.get j0 = some o0 ∧ o0.alive = true ∧ i ∈ o0.par) ∨ ∃ o0, H.get j = some o0 ∧ i ∈ o0.par
/-- A row that isn't written any more stays, but where one that grew out of it is written. -/
def TnK (H H' : AHeap) : Prop := ∀ i o, H.get i = some o → o.alive = false → (∃ k ok, H.get k = some ok ∧ ok.alive = true ∧ i ∈ ok.par) ∨ H'.get i = some o
structure Tn (μ : Mu) (H : AHeap) (w : World) (μ' : Mu) (H' : AHeap) (w' : World) : Prop extends TnB μ H w μ' H' w' where
  par : TnP H H'
  kept : TnK H H'

theorem Ext.refl (T : Nat → Prop) (w : World) : Ext T w w := ⟨rfl, rfl, rfl, Nat.le_refl _, fun _ _ _ => rfl⟩
theorem Img.of {μ : Mu} {H : AHeap} {i : Nat} {o : AObj} {p : Pl} (h : H.get i = some o) (k : μ i = some p) : Img μ H p.b ∨ (o.alive = false ∧ ∃ o0, H.get i = some o0 ∧ μ i = some p) := by
  cases ha : o.alive with
  | true => exact .inl ⟨i, o, p, h, ha, k, rfl⟩
  | false => exact .inr ⟨rfl, o, h, k⟩
theorem Rel.lt {G : Nat} {μ : Mu} {H : AHeap} {w : World} (h : Rel G μ H w) {i : Nat} {o : AObj} (k : H.get i = some o) : i < H.next := by
  obtain ⟨p, _, h1, _⟩ := h.dom i o k
  exact h.fin i p h1
theorem Tn.refl {G : Nat} {μ : Mu} {H : AHeap} {w : World} (hR : Rel G μ H w) : Tn μ H w μ H w where
  lt := fun i o h => hR.lt h
  le := Mu.le_refl _
  old := fun _ _ => rfl
  next := Nat.le_refl _
  ext := Ext.refl _ _
  img := fun i o p h k _ => Img.of h k
  dead := fun i o o' h _ k => by rw [h] at k; injection k with k; exact k.symm
  dom := fun i o' _ h => ⟨o', h⟩
  par := fun j o' i h k _ => .inr (.inr ⟨o', h, k⟩)
  kept := fun i o h _ => .inr h
theorem TnB.alive {μ μ' : Mu} {H H' : AHeap} {w w' : World} (t : TnB μ H w μ' H' w') {b : Nat} (hb : b < w.heap.size) (h : Img μ' H' b) : Img μ H b := by
  obtain ⟨i, o, p, h1, h2, h3, rfl⟩ := h
  rcases t.img i o p h1 h3 hb with h | ⟨h, _⟩
  · exact h
  · rw [h2] at h; cases h
theorem TnB.trans {μ μ1 μ2 : Mu} {H H1 H2 : AHeap} {w w1 w2 : World} (a : TnB μ H w μ1 H1 w1) (b : TnB μ1 H1 w1 μ2 H2 w2) : TnB μ H w μ2 H2 w2 where
  lt := a.lt
  le := Mu.le_trans a.le b.le
  old := fun i hi => (b.old i (Nat.lt_of_lt_of_le hi a.next)).trans (a.old i hi)
  next := Nat.le_trans a.next b.next
  ext := ⟨b.ext.os.trans a.ext.os, b.ext.tape.trans a.ext.tape, b.ext.output.trans a.ext.output, Nat.le_trans a.ext.size b.ext.size, fun k hk hn =>
    (b.ext.block k (Nat.lt_of_lt_of_le hk a.ext.size) fun h => hn (a.alive hk h)).trans (a.ext.block k hk hn)⟩
  img := fun i o p h k hb => by
    rcases b.img i o p h k (Nat.lt_of_lt_of_le hb a.ext.size) with h1 | ⟨h1, o1, h2, h3⟩
    · exact .inl (a.alive hb h1)
    · rcases a.img i o1 p h2 h3 hb with h4 | ⟨_, o2, h5, h6⟩
      · exact .inl h4
      · exact .inr ⟨h1, o2, h5, h6⟩
  dead := fun i o o' h1 h2 h3 => by
    have hlt := Nat.lt_of_lt_of_le (a.lt i o h1) a.next
    obtain ⟨o1, h4⟩ := b.dom i o' hlt h3
    have e1 := a.dead i o o1 h1 h2 h4
    subst e1
    exact b.dead i o1 o' h4 h2 h3
  dom := fun i o' h1 h2 => by
    obtain ⟨o1, h3⟩ := b.dom i o' (Nat.lt_of_lt_of_le h1 a.next) h2
    exact a.dom i o1 h1 h3
theorem Tn.trans {μ μ1 μ2 : Mu} {H H1 H2 : AHeap} {w w1 w2 : World} (a : Tn μ H w μ1 H1 w1) (b : Tn μ1 H1 w1 μ2 H2 w2) : Tn μ H w μ2 H2 w2 where
  toTnB := a.toTnB.trans b.toTnB
  par := fun j o' i h1 h2 h3 => by
    rcases b.par j o' i h1 h2 (Nat.lt_of_lt_of_le h3 a.next) with ⟨o1, h4, ha⟩ | ⟨j0, o0, h4, ha, h5⟩ | ⟨o0, h4, h5⟩
    · obtain ⟨o, h6⟩ := a.dom i o1 h3 h4
      cases hd : o.alive with
      | true => exact .inl ⟨o, h6, hd⟩
      | false =>
        have := a.dead i o o1 h6 hd h4
        subst this
        rw [ha] at hd
        cases hd
    · rcases a.par j0 o0 i h4 h5 h3 with h6 | h6 | ⟨o1, h6, h7⟩
      · exact .inl h6
      · exact .inr (.inl h6)
      · cases hd : o1.alive with
        | true => exact .inr (.inl ⟨j0, o1, h6, hd, h7⟩)
        | false =>
          have := a.dead j0 o1 o0 h6 hd h4
          subst this
          rw [ha] at hd
          cases hd
    · exact a.par j o0 i h4 h5 h3
  kept := fun i o h1 h2 => by
    rcases a.kept i o h1 h2 with h3 | h3
    · exact .inl h3
    · rcases b.kept i o h3 h2 with ⟨k, ok, h4, h5, h6⟩ | h4
      · left
        rcases a.par k ok i h4 h6 (a.lt i o h1) with ⟨o1, h7, h8⟩ | h7 | ⟨o1, h7, h8⟩
        · rw [h1] at h7; injection h7 with h7; subst h7; rw [h2] at h8; cases h8
        · exact h7
        · cases hd : o1.alive with
          | true => exact ⟨k, o1, h7, hd, h8⟩
          | false =>
            have := a.dead k o1 ok h7 hd h4
            subst this
            rw [h5] at hd; cases hd
      · exact .inr h4

end Go.Eng
