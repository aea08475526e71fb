/- The engine, part 1: an abstract heap whose blocks bear names; when an abstract heap and the model's world say the same. -/
import Derived.Calls
import Derived.Tactics
import Derived.Orders
import Derived.Below
import Derived.Laws.IdiomCopy
import Derived.Laws.Append
import Derived.Laws.Entries
import Derived.ChangeKeysEq
import GoSem.Dispatch
import Derived.Lib.AppendStr
set_option linter.unusedVariables false
set_option linter.unusedSimpArgs false
namespace Go.Eng
open Go

/-! ### A map from numbers, as a tree: quick in the kernel -/
inductive Tr (α : Type) where
  | lf
  | nd (l : Tr α) (v : Option α) (r : Tr α)

namespace Tr
variable {α : Type}
def get : Tr α → Nat → Option α
  | lf, _ => none
  | nd l v r, n => if n = 0 then v else if n % 2 = 1 then l.get (n / 2) else r.get (n / 2 - 1)
def setF : Nat → Tr α → Nat → Option α → Tr α
  | 0, t, _, _ => t
  | f + 1, lf, n, x => if n = 0 then nd lf x lf else if n % 2 = 1 then nd (setF f lf (n / 2) x) none lf else nd lf none (setF f lf (n / 2 - 1) x)
  | f + 1, nd l v r, n, x => if n = 0 then nd l x r else if n % 2 = 1 then nd (setF f l (n / 2) x) v r else nd l v (setF f r (n / 2 - 1) x)
def put (t : Tr α) (n : Nat) (x : Option α) : Tr α := setF (n + 1) t n x
theorem get_setF : ∀ (f : Nat) (t : Tr α) (n m : Nat) (x : Option α), n < f → (setF f t n x).get m = if m = n then x else t.get m := by
  intro f
  induction f with
  | zero => intro t n m x h; omega
  | succ f ih =>
    intro t n m x h
    cases t with
    | lf =>
      simp only [setF]
      split
      · rename_i h0; subst h0
        simp only [get]
        split <;> simp_all
      · split
        · rename_i h0 h1
          simp only [get]
          split
          · rename_i hm; subst hm; rw [if_neg (by omega)]
          · split
            · rename_i hm hm1
              rw [ih _ _ _ _ (by omega)]
              by_cases e : m = n
              · subst e; simp
              · rw [if_neg (by omega), if_neg e]; rfl
            · rw [if_neg (by omega)]
        · rename_i h0 h1
          simp only [get]
          split
          · rename_i hm; subst hm; rw [if_neg (by omega)]
          · split
            · rw [if_neg (by omega)]
            · rename_i hm hm1
              rw [ih _ _ _ _ (by omega)]
              by_cases e : m = n
              · subst e; simp
              · rw [if_neg (by omega), if_neg e]; rfl
    | nd l v r =>
      simp only [setF]
      split
      · rename_i h0; subst h0
        simp only [get]
        split <;> simp_all
      · split
        · rename_i h0 h1
          simp only [get]
          split
          · rename_i hm; subst hm; rw [if_neg (by omega)]
          · split
            · rename_i hm hm1
              rw [ih _ _ _ _ (by omega)]
              by_cases e : m = n
              · subst e; simp
              · rw [if_neg (by omega), if_neg e]
            · rw [if_neg (by omega)]
        · rename_i h0 h1
          simp only [get]
          split
          · rename_i hm; subst hm; rw [if_neg (by omega)]
          · split
            · rw [if_neg (by omega)]
            · rename_i hm hm1
              rw [ih _ _ _ _ (by omega)]
              by_cases e : m = n
              · subst e; simp
              · rw [if_neg (by omega), if_neg e]
theorem get_put (t : Tr α) (n m : Nat) (x : Option α) : (t.put n x).get m = if m = n then x else t.get m := get_setF _ _ _ _ _ (by omega)
theorem get_lf (m : Nat) : (lf : Tr α).get m = none := rfl
end Tr

/-! ### The abstract heap -/
/-- What lies under a name: a row of cells ('ro': not written any more; 'par': the names whose rows it may have grown out of, in place; 'gs': the elements' size where the row grows); a map; a string's iterator. -/
inductive AObj where
  | cells (cs : List Value) (ro : Bool) (par : List Nat) (gs : Nat)
  | map (es : List MapEntry) (clock : Nat) (ro : Bool := false)
  | iter (s : ByteArray) (pos : Nat)

/-- 'back': what lies there where nothing was written yet. -/
structure AHeap where
  t : Tr (Option AObj)
  next : Nat
  back : Nat → Option AObj := fun _ => none

def AHeap.raw (H : AHeap) (i : Nat) : Option AObj := match H.t.get i with
  | some x => x
  | none => H.back i
def AHeap.get (H : AHeap) (i : Nat) : Option AObj := if Nat.ble H.next i then none else H.raw i
def AHeap.set (H : AHeap) (i : Nat) (o : AObj) : AHeap := { H with t := H.t.put i (some (some o)) }
def AHeap.del (H : AHeap) (i : Nat) : AHeap := { H with t := H.t.put i (some none) }
def AHeap.dels (H : AHeap) : List Nat → AHeap
  | [] => H
  | i :: l => (H.del i).dels l
/-- A new name. -/
def AHeap.new (H : AHeap) (o : AObj) : AHeap := { H with t := H.t.put H.next (some (some o)), next := H.next + 1 }

theorem AHeap.get_lt {H : AHeap} {i : Nat} {o : AObj} (h : H.get i = some o) : i < H.next := by
  unfold get at h
  split at h
  · cases h
  · rename_i hb
    rw [Nat.ble_eq] at hb
    omega
theorem AHeap.get_in {H : AHeap} {i : Nat} (h : i < H.next) : H.get i = H.raw i := by
  unfold get; rw [if_neg]; rw [Nat.ble_eq]; omega
theorem AHeap.get_out {H : AHeap} {i : Nat} (h : H.next ≤ i) : H.get i = none := by
  unfold get; rw [if_pos]; rw [Nat.ble_eq]; exact h
theorem AHeap.get_set (H : AHeap) (i j : Nat) (o : AObj) (hi : i < H.next) : (H.set i o).get j = if j = i then some o else H.get j := by
  rcases Nat.lt_or_ge j H.next with h | h
  · rw [get_in (H := H.set i o) h, get_in h]
    unfold raw set; rw [Tr.get_put]; by_cases e : j = i
    · rw [if_pos e, if_pos e]
    · rw [if_neg e, if_neg e]
  · rw [get_out (H := H.set i o) h, get_out h, if_neg (by omega)]
theorem AHeap.get_del (H : AHeap) (i j : Nat) : (H.del i).get j = if j = i then none else H.get j := by
  rcases Nat.lt_or_ge j H.next with h | h
  · rw [get_in (H := H.del i) h, get_in h]
    unfold raw del; rw [Tr.get_put]; by_cases e : j = i
    · rw [if_pos e, if_pos e]
    · rw [if_neg e, if_neg e]
  · rw [get_out (H := H.del i) h, get_out h]; split <;> rfl
theorem AHeap.get_new (H : AHeap) (j : Nat) (o : AObj) : (H.new o).get j = if j = H.next then some o else H.get j := by
  rcases Nat.lt_or_ge j (H.next + 1) with h | h
  · rw [get_in (H := H.new o) h]
    unfold raw new; rw [Tr.get_put]; by_cases e : j = H.next
    · rw [if_pos e, if_pos e]
    · rw [if_neg e, if_neg e, get_in (by omega)]; rfl
  · rw [get_out (H := H.new o) h, get_out (by omega), if_neg (by omega)]
@[simp] theorem AHeap.next_set (H : AHeap) (i : Nat) (o : AObj) : (H.set i o).next = H.next := rfl
@[simp] theorem AHeap.next_del (H : AHeap) (i : Nat) : (H.del i).next = H.next := rfl
@[simp] theorem AHeap.next_new (H : AHeap) (o : AObj) : (H.new o).next = H.next + 1 := rfl
@[simp] theorem AHeap.next_dels (l : List Nat) : ∀ (H : AHeap), (H.dels l).next = H.next := by
  induction l with
  | nil => intro H; rfl
  | cons i l ih => intro H; exact (ih _).trans rfl
theorem AHeap.get_dels (l : List Nat) : ∀ (H : AHeap) (j : Nat), (H.dels l).get j = if j ∈ l then none else H.get j := by
  induction l with
  | nil => intro H j; simp [dels]
  | cons i l ih =>
    intro H j
    simp only [dels]
    rw [ih, get_del]
    by_cases h : j ∈ l
    · simp [h]
    · by_cases e : j = i <;> simp [h, e]

/-! ### Where a name's row lies in the world -/
structure Pl where
  b : Nat
  s : Nat
  sz : Nat
  es : Nat
abbrev Mu := Nat → Option Pl

abbrev grow : Nat := 9223372036854775808
abbrev empt : Nat := 18446744073709551616

/-- The cap of a slice: known, or at least so much (written above 'grow'). -/
def CapRel (l c c' o : Nat) (p : Pl) : Prop :=
  l ≤ c' ∧ c' < grow ∧ ((c < grow ∧ c' = c) ∨ (grow ≤ c ∧ c < empt ∧ c - grow ≤ c' ∧ p.s + o + c' * p.es ≤ p.sz))

/-- Nothing is known of the value. -/
def unk : Value := .chan (some 0)
inductive VRel (μ : Mu) : Value → Value → Prop
  | any (v : Value) : VRel μ unk v
  | bool (b : Bool) : VRel μ (.bool b) (.bool b)
  | int (k : IntKind) (n : Int) : VRel μ (.int k n) (.int k n)
  | float (k : FloatKind) (b : Nat) : VRel μ (.float k b) (.float k b)
  | complex (k : FloatKind) (a b : Nat) : VRel μ (.complex k a b) (.complex k a b)
  | string (s : ByteArray) : VRel μ (.string s) (.string s)
  | nilFunc : VRel μ .nilFunc .nilFunc
  | nilIface : VRel μ .nilIface .nilIface
  | ptrNil : VRel μ (.pointer none) (.pointer none)
  | ptr {i o : Nat} {p : Pl} : μ i = some p → VRel μ (.pointer (some ⟨i, o, none⟩)) (.pointer (some ⟨p.b, p.s + o, none⟩))
  | sliceNil : VRel μ (.slice none 0 0) (.slice none 0 0)
  | slice {i o l c c' : Nat} {p : Pl} : μ i = some p → CapRel l c c' o p → VRel μ (.slice (some ⟨i, o, none⟩) l c) (.slice (some ⟨p.b, p.s + o, none⟩) l c')
  | empty {a a' : Addr} {c' : Nat} : c' < grow → VRel μ (.slice (some a) 0 empt) (.slice (some a') 0 c')
  | mapNil : VRel μ (.map none) (.map none)
  | map {i : Nat} {p : Pl} : μ i = some p → VRel μ (.map (some i)) (.map (some p.b))
  | func (fn : Fn) {f f' c c' : Array Value} : f.size = f'.size → c.size = c'.size → (∀ i, i < f.size → VRel μ (f.getD i undef) (f'.getD i undef)) →
      (∀ i, i < c.size → VRel μ (c.getD i undef) (c'.getD i undef)) → VRel μ (.func fn f c) (.func fn f' c')
  | iface (t : TypeId) {v v' : Value} : VRel μ v v' → VRel μ (.iface t v) (.iface t v')
  | agg {c c' : Array Value} : c.size = c'.size → (∀ i, i < c.size → VRel μ (c.getD i undef) (c'.getD i undef)) → VRel μ (.agg c) (.agg c')
  | tuple {c c' : Array Value} : c.size = c'.size → (∀ i, i < c.size → VRel μ (c.getD i undef) (c'.getD i undef)) → VRel μ (.tuple c) (.tuple c')

def ARel (μ : Mu) (c c' : Array Value) : Prop := c.size = c'.size ∧ ∀ i, i < c.size → VRel μ (c.getD i undef) (c'.getD i undef)
theorem VRel.undef (μ : Mu) : VRel μ undef undef := .tuple rfl (fun i hi => by simp at hi)

def Mu.le (μ μ' : Mu) : Prop := ∀ i p, μ i = some p → μ' i = some p
theorem Mu.le_refl (μ : Mu) : μ.le μ := fun _ _ h => h
theorem Mu.le_trans {a b c : Mu} (h : a.le b) (k : b.le c) : a.le c := fun i p e => k i p (h i p e)

theorem VRel.mono {μ μ' : Mu} (h : μ.le μ') {v v' : Value} (hv : VRel μ v v') : VRel μ' v v' := by
  induction hv with
  | ptr e => exact .ptr (h _ _ e)
  | slice e c => exact .slice (h _ _ e) c
  | any v => exact .any v
  | empty e => exact .empty e
  | map e => exact .map (h _ _ e)
  | func fn a b _ _ ih1 ih2 => exact .func fn a b ih1 ih2
  | iface t _ ih => exact .iface t ih
  | agg a _ ih => exact .agg a ih
  | tuple a _ ih => exact .tuple a ih
  | _ => constructor

theorem ARel.mono {μ μ' : Mu} (h : μ.le μ') {c c' : Array Value} (hv : ARel μ c c') : ARel μ' c c' := ⟨hv.1, fun i hi => (hv.2 i hi).mono h⟩

/-! ### Values without addresses -/
/-- 'flat d v': v bears no address, at most d deep. -/
def flat : Nat → Value → Bool
  | _, .bool _ | _, .int _ _ | _, .float _ _ | _, .complex _ _ _ | _, .string _ | _, .nilFunc | _, .nilIface | _, .pointer none | _, .map none => true
  | _, .slice none 0 0 => true
  | _, .func _ f c => f.isEmpty && c.isEmpty
  | d + 1, .iface _ v => flat d v
  | d + 1, .agg cs => cs.toList.all (flat d)
  | d + 1, .tuple cs => cs.toList.all (flat d)
  | _, _ => false

theorem arr_ext {c c' : Array Value} (hs : c.size = c'.size) (h : ∀ i, i < c.size → c.getD i undef = c'.getD i undef) : c = c' := by
  apply Array.ext hs
  intro i h1 h2
  have := h i h1
  simpa [Array.getD, h1, h2] using this
theorem all_getD {p : Value → Bool} {c : Array Value} (h : c.toList.all p = true) {i : Nat} (hi : i < c.size) : p (c.getD i undef) = true := by
  rw [List.all_eq_true] at h
  have : c.getD i undef = c[i] := by simp [Array.getD, hi]
  rw [this]
  exact h _ (by simp)

theorem flat_func0 {d : Nat} {fn : Fn} {f c : Array Value} (h : flat d (.func fn f c) = true) : f = #[] ∧ c = #[] := by cases d <;> simpa [flat] using h
theorem flat_eq {μ : Mu} {v v' : Value} (hv : VRel μ v v') : ∀ d, flat d v = true → v' = v := by
  induction hv with
  | any v => intro d h; cases d <;> simp [flat, unk] at h
  | ptr e => intro d h; cases d <;> simp [flat] at h
  | slice e c => intro d h; cases d <;> simp [flat] at h
  | empty e => intro d h; cases d <;> simp [flat] at h
  | map e => intro d h; cases d <;> simp [flat] at h
  | func fn a b _ _ ih1 ih2 =>
    intro d h
    obtain ⟨rfl, rfl⟩ := flat_func0 h
    have e1 := Array.size_eq_zero_iff.1 (a.symm.trans rfl)
    have e2 := Array.size_eq_zero_iff.1 (b.symm.trans rfl)
    rw [e1, e2]
  | iface t _ ih =>
    intro d h
    cases d with
    | zero => simp [flat] at h
    | succ d => rw [ih d (by simpa [flat] using h)]
  | agg a _ ih =>
    intro d h
    cases d with
    | zero => simp [flat] at h
    | succ d =>
      simp only [flat] at h
      rw [arr_ext a fun i hi => (ih i hi d (all_getD h hi)).symm]
  | tuple a _ ih =>
    intro d h
    cases d with
    | zero => simp [flat] at h
    | succ d =>
      simp only [flat] at h
      rw [arr_ext a fun i hi => (ih i hi d (all_getD h hi)).symm]
  | _ => intros; rfl

theorem flat_func {μ : Mu} {d : Nat} {fn : Fn} {f c : Array Value} (h : flat d (.func fn f c) = true) : VRel μ (.func fn f c) (.func fn f c) := by
  obtain ⟨rfl, rfl⟩ := flat_func0 h
  exact .func fn rfl rfl (fun i hi => by simp at hi) (fun i hi => by simp at hi)
theorem flat_rel {μ : Mu} : ∀ (d : Nat) (v : Value), flat d v = true → VRel μ v v := by
  intro d
  induction d with
  | zero =>
    intro v h
    cases v with
    | pointer a => cases a <;> first | exact .ptrNil | simp [flat] at h
    | map a => cases a <;> first | exact .mapNil | simp [flat] at h
    | slice a l c => rcases a with _ | a <;> rcases l with _ | l <;> rcases c with _ | c <;> first | exact .sliceNil | simp [flat] at h
    | func fn f c => exact flat_func h
    | _ => first | (simp [flat] at h; done) | constructor
  | succ d ih =>
    intro v h
    cases v with
    | pointer a => cases a <;> first | exact .ptrNil | simp [flat] at h
    | map a => cases a <;> first | exact .mapNil | simp [flat] at h
    | slice a l c => rcases a with _ | a <;> rcases l with _ | l <;> rcases c with _ | c <;> first | exact .sliceNil | simp [flat] at h
    | iface t v => exact .iface t (ih v (by simpa [flat] using h))
    | agg cs => simp only [flat] at h; exact .agg rfl fun i hi => ih _ (all_getD h hi)
    | tuple cs => simp only [flat] at h; exact .tuple rfl fun i hi => ih _ (all_getD h hi)
    | func fn f c => exact flat_func h
    | _ => first | constructor | simp [flat] at h

/-! ### The heap and the world -/
def EntRel (μ : Mu) (e e' : MapEntry) : Prop := VRel μ e.key e'.key ∧ VRel μ e.val e'.val ∧ e.born = e'.born

def one : Value → Bool
  | .agg _ | .tuple _ | .chan _ => false
  | _ => true

inductive ObjRel (μ : Mu) : AObj → Obj → Pl → Prop
  | cells {cs : List Value} {ro : Bool} {par : List Nat} {gs : Nat} {c : Array Value} {e : TypeId} {lo hi : Nat} {p : Pl} :
      p.sz = c.size → p.es = gs → p.s + cs.length ≤ c.size → (∀ i, i < cs.length → VRel μ (cs.getD i undef) (c.getD (p.s + i) undef)) → (∀ x ∈ cs, one x = true) →
      (ro = false → ∀ i, p.s ≤ i → i < c.size → ¬ (lo ≤ i ∧ i < hi)) → (gs = 0 → lo = 0 ∧ hi = 0) → ObjRel μ (.cells cs ro par gs) (.cells c e (lo, hi)) p
  | map {es : List MapEntry} {es' : Array MapEntry} {k : Nat} {ro : Bool} {p : Pl} : es.length = es'.size → (∀ i, i < es.length → EntRel μ (es.getD i default) (es'.getD i default)) → ObjRel μ (.map es k ro) (.map es' k) p
  | iter (s : ByteArray) (pos : Nat) {p : Pl} : p.s = 0 → ObjRel μ (.iter s pos) (.stringIter s pos) p

def AObj.par : AObj → List Nat
  | .cells _ _ par _ => par
  | _ => []
def AObj.alive : AObj → Bool
  | .cells _ ro _ _ => !ro
  | .map _ _ ro => !ro
  | _ => true

def AObj.len : AObj → Nat
  | .cells cs _ _ _ => cs.length
  | _ => 0

structure Rel (G : Nat) (μ : Mu) (H : AHeap) (w : World) : Prop where
  dom : ∀ i o, H.get i = some o → ∃ p x, μ i = some p ∧ w.heap[p.b]? = some x ∧ ObjRel μ o x p
  fin : ∀ i p, μ i = some p → i < H.next
  base : G ≤ H.next
  glob : ∀ g, g < G → ∃ p, μ g = some p ∧ p.b = g ∧ p.s = 0
  sep : ∀ i j oi oj pi pj, i ≠ j → H.get i = some oi → H.get j = some oj → μ i = some pi → μ j = some pj → pi.b = pj.b → i ∈ oj.par ∨ j ∈ oi.par
  ro : ∀ i j oi oj, H.get i = some oi → H.get j = some oj → i ∈ oj.par → oi.alive = false
  plt : ∀ i o j, H.get i = some o → j ∈ o.par → ∃ p, μ j = some p
  pend : ∀ i j oi oj pi pj, H.get i = some oi → H.get j = some oj → i ∈ oj.par → μ i = some pi → μ j = some pj → pi.b = pj.b → pi.s + oi.len ≤ pj.s + oj.len

/-- The blocks that may be written. -/
def Img (μ : Mu) (H : AHeap) (b : Nat) : Prop := ∃ i o p, H.get i = some o ∧ o.alive = true ∧ μ i = some p ∧ p.b = b

structure Ext (T : Nat → Prop) (w w' : World) : Prop where
  os : w'.os = w.os
  tape : w'.tape = w.tape
  output : w'.output = w.output
  size : w.heap.size ≤ w'.heap.size
  block : ∀ k, k < w.heap.size → ¬ T k → w'.heap[k]? = w.heap[k]?

/-- From one state to a later one. -/
structure TnB (μ : Mu) (H : AHeap) (w : World) (μ' : Mu) (H' : AHeap) (w' : World) : Prop where
  lt : ∀ i o, H.get i = some o → i < H.next
  le : μ.le μ'
  old : ∀ i, i < H.next → μ' i = μ i
  next : H.next ≤ H'.next
  ext : Ext (Img μ H) w w'
  img : ∀ i o p, H'.get i = some o → μ' i = some p → p.b < w.heap.size → Img μ H p.b ∨ (o.alive = false ∧ ∃ o0, H.get i = some o0 ∧ μ i = some p)
  dead : ∀ i o o', H.get i = some o → o.alive = false → H'.get i = some o' → o' = o
  dom : ∀ i o', i < H.next → H'.get i = some o' → ∃ o, H.get i = some o
/-- What a name in a row's ancestry was before. -/
def TnP (H H' : AHeap) : Prop := ∀ j o' i, H'.get j = some o' → i ∈ o'.par → i < H.next → (∃ o, H.get i = some o ∧ o.alive = true) ∨ (∃ j0 o0, H.get j0 = some o0 ∧ o0.alive = true ∧ i ∈ o0.par) ∨ ∃ o0, H.get j = some o0 ∧ i ∈ o0.par
/-- A row that isn't written any more stays, but where one that grew out of it is written. -/
def TnK (H H' : AHeap) : Prop := ∀ i o, H.get i = some o → o.alive = false → (∃ k ok, H.get k = some ok ∧ ok.alive = true ∧ i ∈ ok.par) ∨ H'.get i = some o
structure Tn (μ : Mu) (H : AHeap) (w : World) (μ' : Mu) (H' : AHeap) (w' : World) : Prop extends TnB μ H w μ' H' w' where
  par : TnP H H'
  kept : TnK H H'

theorem Ext.refl (T : Nat → Prop) (w : World) : Ext T w w := ⟨rfl, rfl, rfl, Nat.le_refl _, fun _ _ _ => rfl⟩
theorem Img.of {μ : Mu} {H : AHeap} {i : Nat} {o : AObj} {p : Pl} (h : H.get i = some o) (k : μ i = some p) : Img μ H p.b ∨ (o.alive = false ∧ ∃ o0, H.get i = some o0 ∧ μ i = some p) := by
  cases ha : o.alive with
  | true => exact .inl ⟨i, o, p, h, ha, k, rfl⟩
  | false => exact .inr ⟨rfl, o, h, k⟩
theorem Rel.lt {G : Nat} {μ : Mu} {H : AHeap} {w : World} (h : Rel G μ H w) {i : Nat} {o : AObj} (k : H.get i = some o) : i < H.next := by
  obtain ⟨p, _, h1, _⟩ := h.dom i o k
  exact h.fin i p h1
theorem Tn.refl {G : Nat} {μ : Mu} {H : AHeap} {w : World} (hR : Rel G μ H w) : Tn μ H w μ H w where
  lt := fun i o h => hR.lt h
  le := Mu.le_refl _
  old := fun _ _ => rfl
  next := Nat.le_refl _
  ext := Ext.refl _ _
  img := fun i o p h k _ => Img.of h k
  dead := fun i o o' h _ k => by rw [h] at k; injection k with k; exact k.symm
  dom := fun i o' _ h => ⟨o', h⟩
  par := fun j o' i h k _ => .inr (.inr ⟨o', h, k⟩)
  kept := fun i o h _ => .inr h
theorem TnB.alive {μ μ' : Mu} {H H' : AHeap} {w w' : World} (t : TnB μ H w μ' H' w') {b : Nat} (hb : b < w.heap.size) (h : Img μ' H' b) : Img μ H b := by
  obtain ⟨i, o, p, h1, h2, h3, rfl⟩ := h
  rcases t.img i o p h1 h3 hb with h | ⟨h, _⟩
  · exact h
  · rw [h2] at h; cases h
theorem TnB.trans {μ μ1 μ2 : Mu} {H H1 H2 : AHeap} {w w1 w2 : World} (a : TnB μ H w μ1 H1 w1) (b : TnB μ1 H1 w1 μ2 H2 w2) : TnB μ H w μ2 H2 w2 where
  lt := a.lt
  le := Mu.le_trans a.le b.le
  old := fun i hi => (b.old i (Nat.lt_of_lt_of_le hi a.next)).trans (a.old i hi)
  next := Nat.le_trans a.next b.next
  ext := ⟨b.ext.os.trans a.ext.os, b.ext.tape.trans a.ext.tape, b.ext.output.trans a.ext.output, Nat.le_trans a.ext.size b.ext.size, fun k hk hn =>
    (b.ext.block k (Nat.lt_of_lt_of_le hk a.ext.size) fun h => hn (a.alive hk h)).trans (a.ext.block k hk hn)⟩
  img := fun i o p h k hb => by
    rcases b.img i o p h k (Nat.lt_of_lt_of_le hb a.ext.size) with h1 | ⟨h1, o1, h2, h3⟩
    · exact .inl (a.alive hb h1)
    · rcases a.img i o1 p h2 h3 hb with h4 | ⟨_, o2, h5, h6⟩
      · exact .inl h4
      · exact .inr ⟨h1, o2, h5, h6⟩
  dead := fun i o o' h1 h2 h3 => by
    have hlt := Nat.lt_of_lt_of_le (a.lt i o h1) a.next
    obtain ⟨o1, h4⟩ := b.dom i o' hlt h3
    have e1 := a.dead i o o1 h1 h2 h4
    subst e1
    exact b.dead i o1 o' h4 h2 h3
  dom := fun i o' h1 h2 => by
    obtain ⟨o1, h3⟩ := b.dom i o' (Nat.lt_of_lt_of_le h1 a.next) h2
    exact a.dom i o1 h1 h3
theorem Tn.trans {μ μ1 μ2 : Mu} {H H1 H2 : AHeap} {w w1 w2 : World} (a : Tn μ H w μ1 H1 w1) (b : Tn μ1 H1 w1 μ2 H2 w2) : Tn μ H w μ2 H2 w2 where
  toTnB := a.toTnB.trans b.toTnB
  par := fun j o' i h1 h2 h3 => by
    rcases b.par j o' i h1 h2 (Nat.lt_of_lt_of_le h3 a.next) with ⟨o1, h4, ha⟩ | ⟨j0, o0, h4, ha, h5⟩ | ⟨o0, h4, h5⟩
    · obtain ⟨o, h6⟩ := a.dom i o1 h3 h4
      cases hd : o.alive with
      | true => exact .inl ⟨o, h6, hd⟩
      | false =>
        have := a.dead i o o1 h6 hd h4
        subst this
        rw [ha] at hd
        cases hd
    · rcases a.par j0 o0 i h4 h5 h3 with h6 | h6 | ⟨o1, h6, h7⟩
      · exact .inl h6
      · exact .inr (.inl h6)
      · cases hd : o1.alive with
        | true => exact .inr (.inl ⟨j0, o1, h6, hd, h7⟩)
        | false =>
          have := a.dead j0 o1 o0 h6 hd h4
          subst this
          rw [ha] at hd
          cases hd
    · exact a.par j o0 i h4 h5 h3
  kept := fun i o h1 h2 => by
    rcases a.kept i o h1 h2 with h3 | h3
    · exact .inl h3
    · rcases b.kept i o h3 h2 with ⟨k, ok, h4, h5, h6⟩ | h4
      · left
        rcases a.par k ok i h4 h6 (a.lt i o h1) with ⟨o1, h7, h8⟩ | h7 | ⟨o1, h7, h8⟩
        · rw [h1] at h7; injection h7 with h7; subst h7; rw [h2] at h8; cases h8
        · exact h7
        · cases hd : o1.alive with
          | true => exact ⟨k, o1, h7, hd, h8⟩
          | false =>
            have := a.dead k o1 ok h7 hd h4
            subst this
            rw [h5] at hd; cases hd
      · exact .inr h4

end Go.Eng
set_option linter.unusedVariables false
set_option linter.unusedSimpArgs false
namespace Go.Eng
open Go
variable {P : Program} {G : Nat} {μ : Mu} {H : AHeap} {w : World}

theorem add_spot (b o n : Nat) : (⟨b, o, none⟩ : Addr).add n = ⟨b, o + n, none⟩ := by
  unfold Addr.add; split <;> simp_all

theorem cell_get {b : Nat} {c : Array Value} {e : TypeId} {fr : Nat × Nat} (h : w.heap[b]? = some (.cells c e fr)) (o : Nat) : w.cell? ⟨b, o, none⟩ = c[o]? := by
  simp [World.cell?, h]
theorem getD_some {c : Array Value} {i : Nat} (h : i < c.size) : c[i]? = some (c.getD i undef) := by simp [Array.getD, h]
theorem lgetD_some {c : List Value} {i : Nat} (h : i < c.length) : c[i]? = some (c.getD i undef) := by simp [h, List.getD]
theorem VRel.one {v v' : Value} (h : VRel μ v v') : one v = true → Value.oneCell' v' = true := by cases h <;> first | (intro _; rfl) | (intro h; cases h)

/-! ### The world's parts that don't matter -/
theorem Rel.world {w' : World} (h : Rel G μ H w) (e : w'.heap = w.heap) : Rel G μ H w' :=
  ⟨fun i o hi => by rw [e]; exact h.dom i o hi, h.fin, h.base, h.glob, h.sep, h.ro, h.plt, h.pend⟩
theorem Tn.world {w' : World} (hR : Rel G μ H w) (h1 : w'.os = w.os) (h2 : w'.tape = w.tape) (h3 : w'.output = w.output) (e : w'.heap = w.heap) : Tn μ H w μ H w' :=
  { Tn.refl hR with ext := ⟨h1, h2, h3, by rw [e]; exact Nat.le_refl _, fun k _ _ => by rw [e]⟩ }

/-! ### Reading -/
def loadN (H : AHeap) (a : Addr) (n : Nat) : Option (List Value) :=
  match H.get a.block with
  | some (.cells cs _ _ _) => if a.off + n ≤ cs.length then some ((cs.drop a.off).take n) else none
  | _ => none

/-- A list of values, related place by place. -/
def LRel (μ : Mu) (l l' : List Value) : Prop := l.length = l'.length ∧ ∀ i, i < l.length → VRel μ (l.getD i undef) (l'.getD i undef)
theorem LRel.mono {μ' : Mu} (h : μ.le μ') {l l' : List Value} (hv : LRel μ l l') : LRel μ' l l' := ⟨hv.1, fun i hi => (hv.2 i hi).mono h⟩
theorem LRel.arr {l l' : List Value} (h : LRel μ l l') : ARel μ l.toArray l'.toArray :=
  ⟨by simpa using h.1, fun i hi => by have := h.2 i (by simpa using hi); simpa [Array.getD_eq_getD_getElem?, List.getD_eq_getElem?_getD] using this⟩
theorem LRel.arr' {l l' : List Value} (h : LRel μ l l') : ∀ i, i < l.length → VRel μ (l.getD i undef) (l'.toArray.getD i undef) := fun i hi => by
  have := h.2 i hi; simpa [Array.getD_eq_getD_getElem?, List.getD_eq_getElem?_getD] using this
theorem ARel.list {l l' : Array Value} (h : ARel μ l l') : LRel μ l.toList l'.toList :=
  ⟨by simpa using h.1, fun i hi => by have := h.2 i (by simpa using hi); simpa [Array.getD_eq_getD_getElem?, List.getD_eq_getElem?_getD] using this⟩
theorem LRel.nil : LRel μ [] [] := ⟨rfl, fun i hi => by simp at hi⟩
theorem LRel.cons {v v' : Value} {l l' : List Value} (h : VRel μ v v') (k : LRel μ l l') : LRel μ (v :: l) (v' :: l') :=
  ⟨by simp [k.1], fun i hi => by cases i with | zero => exact h | succ i => exact k.2 i (by simpa using hi)⟩
theorem LRel.append {l l' m m' : List Value} (h : LRel μ l l') (k : LRel μ m m') : LRel μ (l ++ m) (l' ++ m') :=
  ⟨by simp [h.1, k.1], fun i hi => by
    by_cases e : i < l.length
    · have := h.2 i e
      simpa [List.getD_eq_getElem?_getD, List.getElem?_append_left e, List.getElem?_append_left (h.1 ▸ e)] using this
    · have := k.2 (i - l.length) (by simp at hi; omega)
      have e' : ¬ i < l'.length := h.1 ▸ e
      simpa [List.getD_eq_getElem?_getD, List.getElem?_append_right (Nat.le_of_not_lt e), List.getElem?_append_right (Nat.le_of_not_lt e'), h.1] using this⟩
theorem LRel.take {l l' : List Value} (h : LRel μ l l') (n : Nat) : LRel μ (l.take n) (l'.take n) :=
  ⟨by simp [h.1], fun i hi => by
    have hi' : i < n ∧ i < l.length := by simp at hi; omega
    have := h.2 i hi'.2
    simpa [List.getD_eq_getElem?_getD, List.getElem?_take_of_lt hi'.1] using this⟩
theorem LRel.drop {l l' : List Value} (h : LRel μ l l') (n : Nat) : LRel μ (l.drop n) (l'.drop n) :=
  ⟨by simp [h.1], fun i hi => by
    have := h.2 (n + i) (by simp at hi; omega)
    simpa [List.getD_eq_getElem?_getD] using this⟩
theorem LRel.one {l l' : List Value} (h : LRel μ l l') (h1 : l.all one = true) : ∀ x ∈ l', Value.oneCell' x = true := by
  intro x hx
  obtain ⟨i, hi, rfl⟩ := List.getElem_of_mem hx
  have hr := h.2 i (h.1 ▸ hi)
  have e1 : l'.getD i undef = l'[i] := by simp [List.getD_eq_getElem?_getD, hi]
  have e2 : l.getD i undef = l[i]'(h.1 ▸ hi) := by simp [List.getD_eq_getElem?_getD, h.1 ▸ hi]
  rw [← e1]
  exact hr.one (by rw [e2]; exact List.all_eq_true.1 h1 _ (List.getElem_mem _))
theorem LRel.flat {l : List Value} (h : l.all (flat 0) = true) : LRel μ l l := ⟨rfl, fun i hi => flat_rel 0 _ (by
  have e2 : l.getD i undef = l[i] := by simp [List.getD_eq_getElem?_getD, hi]
  rw [e2]; exact List.all_eq_true.1 h _ (List.getElem_mem _))⟩

theorem LRel.flat_eq {l l' : List Value} (hl : LRel μ l l') (h : l.all (Eng.flat 0) = true) : l' = l := by
  apply List.ext_getElem hl.1.symm
  intro i h1 h2
  have := hl.2 i h2
  have e1 : l'.getD i undef = l'[i] := by simp [List.getD_eq_getElem?_getD, h1]
  have e2 : l.getD i undef = l[i] := by simp [List.getD_eq_getElem?_getD, h2]
  rw [e1, e2] at this
  exact Eng.flat_eq this 0 (List.all_eq_true.1 h _ (List.getElem_mem _))

theorem ptr_inv {a : Addr} {v' : Value} (hv : VRel μ (.pointer (some a)) v') : ∃ i o p, a = ⟨i, o, none⟩ ∧ μ i = some p ∧ v' = .pointer (some ⟨p.b, p.s + o, none⟩) := by
  cases hv with
  | ptr e => exact ⟨_, _, _, rfl, e, rfl⟩

theorem Rel.cells {i : Nat} {cs : List Value} {ro : Bool} {par : List Nat} {gs : Nat} {p : Pl} (h : Rel G μ H w) (hi : H.get i = some (.cells cs ro par gs)) (hp : μ i = some p) :
    ∃ c e lo hi, w.heap[p.b]? = some (.cells c e (lo, hi)) ∧ p.sz = c.size ∧ p.es = gs ∧ p.s + cs.length ≤ c.size ∧ (∀ j, j < cs.length → VRel μ (cs.getD j undef) (c.getD (p.s + j) undef)) ∧
      (∀ x ∈ cs, one x = true) ∧ (ro = false → ∀ j, p.s ≤ j → j < c.size → ¬ (lo ≤ j ∧ j < hi)) ∧ (gs = 0 → lo = 0 ∧ hi = 0) := by
  obtain ⟨q, x, hq, hx, ho⟩ := h.dom _ _ hi
  rw [hp] at hq
  injection hq with hq
  subst hq
  cases ho with
  | cells a1 a2 a3 a4 a5 a6 a7 => exact ⟨_, _, _, _, hx, a1, a2, a3, a4, a5, a6, a7⟩

/-- What a run of cells reads as. -/
theorem load_cells {i o n : Nat} {p : Pl} {vs : List Value} (h : Rel G μ H w) (hp : μ i = some p) (hl : loadN H ⟨i, o, none⟩ n = some vs) :
    ∃ vs', LRel μ vs vs' ∧ vs.length = n ∧ (∀ x ∈ vs, one x = true) ∧ (∀ j v, vs'[j]? = some v → w.cell? ((⟨p.b, p.s + o, none⟩ : Addr).add j) = some v) ∧
      (∀ w1 : World, w1.heap = w.heap → (loadCells ⟨p.b, p.s + o, none⟩ n).run P w1 = .ok vs'.toArray w1) := by
  unfold loadN at hl
  split at hl
  · rename_i cs ro par gs hg
    simp only at hg hl
    split at hl
    · rename_i hle
      injection hl with hl
      subst hl
      obtain ⟨c, e, lo, hi, hb, h1, h2, h3, h4, h5, h6, h7⟩ := h.cells hg hp
      let vs' := (c.toList.drop (p.s + o)).take n
      have hlen : vs'.length = n := by simp [vs']; omega
      have hat : ∀ j, j < n → vs'[j]? = some (c.getD (p.s + o + j) undef) := by
        intro j hj
        have hc : p.s + o + j < c.size := by omega
        simp [vs', List.getElem?_take_of_lt hj, hc, Array.getD]
      have hrd : ∀ j v, vs'[j]? = some v → w.cell? ((⟨p.b, p.s + o, none⟩ : Addr).add j) = some v := by
        intro j v hv
        have hj : j < n := by
          rcases Nat.lt_or_ge j n with hj | hj
          · exact hj
          · rw [List.getElem?_eq_none (by omega)] at hv; cases hv
        rw [hat j hj] at hv
        injection hv with hv
        rw [add_spot, cell_get hb, getD_some (by omega), hv]
      refine ⟨vs', ⟨by simp [hlen]; omega, fun j hj => ?_⟩, by simp; omega, fun x hx => h5 x (List.mem_of_mem_drop (List.mem_of_mem_take hx)), hrd, ?_⟩
      · have hjn : j < n := by simp at hj; omega
        have e1 : ((cs.drop o).take n).getD j undef = cs.getD (o + j) undef := by simp [List.getD_eq_getElem?_getD, List.getElem?_take_of_lt hjn]
        have e2 : vs'.getD j undef = c.getD (p.s + (o + j)) undef := by rw [List.getD_eq_getElem?_getD, hat j hjn, Nat.add_assoc]; rfl
        rw [e1, e2]
        exact h4 _ (by omega)
      · intro w1 e1
        have := run_loadCells_list (P := P) w1 ⟨p.b, p.s + o, none⟩ vs' (fun j v hv => by
          have := hrd j v hv
          simpa [World.cell?, e1] using this)
        rwa [hlen] at this
    · cases hl
  · cases hl

/-! ### Writing -/
def splice (cs : List Value) (o : Nat) (vs : List Value) : List Value := cs.take o ++ vs ++ cs.drop (o + vs.length)
def storeN (H : AHeap) (a : Addr) (vs : List Value) : Option AHeap :=
  match H.get a.block with
  | some (.cells cs ro par gs) => if !ro && (a.off + vs.length ≤ cs.length) && vs.all one then some ((H.dels par).set a.block (.cells (splice cs a.off vs) false [] gs)) else none
  | _ => none

theorem splice_length {cs : List Value} {o : Nat} {vs : List Value} (h : o + vs.length ≤ cs.length) : (splice cs o vs).length = cs.length := by
  simp [splice]; omega
theorem splice_getD {cs : List Value} {o : Nat} {vs : List Value} (h : o + vs.length ≤ cs.length) (j : Nat) :
    (splice cs o vs).getD j undef = if o ≤ j ∧ j < o + vs.length then vs.getD (j - o) undef else cs.getD j undef := by
  unfold splice
  simp only [List.getD_eq_getElem?_getD, List.append_assoc, List.getElem?_append, List.length_take]
  by_cases h1 : j < o
  · rw [if_pos (by omega), if_neg (by omega), List.getElem?_take_of_lt h1]
  · rw [if_neg (by omega)]
    rw [show min o cs.length = o by omega]
    by_cases h2 : j < o + vs.length
    · rw [if_pos (by omega), if_pos (by omega)]
    · rw [if_neg (by omega), if_neg (by omega), List.getElem?_drop]
      congr 2
      omega

theorem setCells_heap (b : Nat) : ∀ (vs : List Value) (o : Nat) (w : World) (c : Array Value) (e : TypeId) (fr : Nat × Nat), w.heap[b]? = some (.cells c e fr) → o + vs.length ≤ c.size →
    ∃ c', c'.size = c.size ∧ (∀ j, c'.getD j undef = if o ≤ j ∧ j < o + vs.length then vs.getD (j - o) undef else c.getD j undef) ∧
      (w.setCells b o vs).heap[b]? = some (.cells c' e fr) ∧ (∀ k, k ≠ b → (w.setCells b o vs).heap[k]? = w.heap[k]?) ∧ (w.setCells b o vs).heap.size = w.heap.size ∧
      (w.setCells b o vs).os = w.os ∧ (w.setCells b o vs).tape = w.tape ∧ (w.setCells b o vs).output = w.output := by
  intro vs
  induction vs with
  | nil => intro o w c e fr h _; exact ⟨c, rfl, fun j => by rw [if_neg (by simp only [List.length_nil]; omega)], h, fun _ _ => rfl, rfl, rfl, rfl, rfl⟩
  | cons v vs ih =>
    intro o w c e fr h hl
    simp only [List.length_cons] at hl
    have hb : (w.setCell ⟨b, o, none⟩ v).heap[b]? = some (.cells (c.setIfInBounds o v) e fr) := by
      simp [World.setCell, Array.getElem?_modify, h]
    obtain ⟨c', h1, h2, h3, h4, h5, h6, h7, h8⟩ := ih (o + 1) (w.setCell ⟨b, o, none⟩ v) _ e fr hb (by simp; omega)
    refine ⟨c', by simpa using h1, fun j => ?_, h3, fun k hk => ?_, ?_, h6, h7, h8⟩
    · rw [h2 j]
      simp only [List.length_cons]
      by_cases e1 : j = o
      · subst e1
        rw [if_neg (by omega), if_pos (by omega)]
        simp [Array.getD_eq_getD_getElem?, show j < c.size by omega]
      · by_cases e2 : o + 1 ≤ j ∧ j < o + 1 + vs.length
        · rw [if_pos e2, if_pos (by omega)]
          rw [show j - o = (j - (o + 1)) + 1 by omega]
          simp
        · rw [if_neg e2, if_neg (by omega)]
          simp [Array.getD_eq_getD_getElem?, Array.getElem?_setIfInBounds_ne (Ne.symm e1)]
    · show ((w.setCell ⟨b, o, none⟩ v).setCells b (o + 1) vs).heap[k]? = _
      rw [h4 k hk]
      simp [World.setCell, Array.getElem?_modify, Ne.symm hk]
    · show ((w.setCell ⟨b, o, none⟩ v).setCells b (o + 1) vs).heap.size = _
      rw [h5]
      simp [World.setCell]

/-- A block that is written: nobody else's name lies on it. -/
theorem Rel.upd {i : Nat} {o o' : AObj} {p : Pl} {x' : Obj} {w' : World} (h : Rel G μ H w) (hi : H.get i = some o) (ha : o.alive = true) (hp : μ i = some p) (hx : ObjRel μ o' x' p) (hpar : o'.par = [])
    (hb : w'.heap[p.b]? = some x') (hk : ∀ k, k ≠ p.b → w'.heap[k]? = w.heap[k]?) (hsz : w'.heap.size = w.heap.size) (h1 : w'.os = w.os) (h2 : w'.tape = w.tape) (h3 : w'.output = w.output) :
    Rel G μ ((H.dels o.par).set i o') w' ∧ Tn μ H w μ ((H.dels o.par).set i o') w' := by
  have apart : ∀ j oj pj, j ≠ i → j ∉ o.par → H.get j = some oj → μ j = some pj → pj.b ≠ p.b := by
    intro j oj pj hj hnp hgj hpj e
    rcases h.sep j i oj o pj p hj hgj hi hpj hp e with hh | hh
    · exact hnp hh
    · have := h.ro i j o oj hi hgj hh
      rw [ha] at this
      cases this
  have get' : ∀ j oj, ((H.dels o.par).set i o').get j = some oj → (j = i ∧ oj = o') ∨ (j ≠ i ∧ j ∉ o.par ∧ H.get j = some oj) := by
    intro j oj hg
    rw [AHeap.get_set _ _ _ _ (by simpa using h.lt hi)] at hg
    split at hg
    · rename_i e; injection hg with hg; exact .inl ⟨e, hg.symm⟩
    · rename_i e
      rw [AHeap.get_dels] at hg
      split at hg
      · cases hg
      · rename_i e2; exact .inr ⟨e, e2, hg⟩
  refine ⟨⟨?_, fun j pj hj => by simpa using h.fin j pj hj, by simpa using h.base, h.glob, ?_, ?_, ?_, ?_⟩, ⟨fun _ _ k => h.lt k, Mu.le_refl _, fun _ _ => rfl, by simp, ⟨h1, h2, h3, by rw [hsz]; exact Nat.le_refl _, ?_⟩, ?_, ?_, ?_⟩, ?_, ?_⟩
  · intro j oj hg
    rcases get' j oj hg with ⟨rfl, rfl⟩ | ⟨e1, e2, e3⟩
    · exact ⟨p, x', hp, hb, hx⟩
    · obtain ⟨pj, xj, hpj, hxj, hoj⟩ := h.dom j oj e3
      exact ⟨pj, xj, hpj, by rw [hk _ (apart j oj pj e1 e2 e3 hpj)]; exact hxj, hoj⟩
  · intro j k oj ok pj pk hjk hgj hgk hpj hpk e
    rcases get' j oj hgj with ⟨rfl, rfl⟩ | ⟨a1, a2, a3⟩
    · rcases get' k ok hgk with ⟨rfl, rfl⟩ | ⟨b1, b2, b3⟩
      · exact absurd rfl hjk
      · rw [hp] at hpj
        injection hpj with hpj
        subst hpj
        exact absurd e.symm (apart k ok pk b1 b2 b3 hpk)
    · rcases get' k ok hgk with ⟨rfl, rfl⟩ | ⟨b1, b2, b3⟩
      · rw [hp] at hpk
        injection hpk with hpk
        subst hpk
        exact absurd e (apart j oj pj a1 a2 a3 hpj)
      · exact h.sep j k oj ok pj pk hjk a3 b3 hpj hpk e
  · intro j k oj ok hgj hgk hm
    rcases get' k ok hgk with ⟨rfl, rfl⟩ | ⟨b1, b2, b3⟩
    · rw [hpar] at hm; cases hm
    · rcases get' j oj hgj with ⟨rfl, rfl⟩ | ⟨a1, a2, a3⟩
      · have := h.ro j k o ok hi b3 hm
        rw [ha] at this
        cases this
      · exact h.ro j k oj ok a3 b3 hm
  · intro j oj k hgj hm
    rcases get' j oj hgj with ⟨rfl, rfl⟩ | ⟨a1, a2, a3⟩
    · rw [hpar] at hm; cases hm
    · exact h.plt j oj k a3 hm
  · intro j k oj ok pj pk hgj hgk hm hpj hpk e
    rcases get' k ok hgk with ⟨rfl, rfl⟩ | ⟨b1, b2, b3⟩
    · rw [hpar] at hm; cases hm
    · rcases get' j oj hgj with ⟨rfl, rfl⟩ | ⟨a1, a2, a3⟩
      · have := h.ro j k o ok hi b3 hm
        rw [ha] at this
        cases this
      · exact h.pend j k oj ok pj pk a3 b3 hm hpj hpk e
  · intro k _ hn
    refine hk k fun e => hn ⟨i, o, p, hi, ha, hp, e.symm⟩
  · intro j oj pj hgj hpj hb
    rcases get' j oj hgj with ⟨rfl, rfl⟩ | ⟨a1, a2, a3⟩
    · rw [hp] at hpj
      injection hpj with hpj
      subst hpj
      exact .inl ⟨j, o, p, hi, ha, hp, rfl⟩
    · exact Img.of a3 hpj
  · intro j o0 o1 h0 hd h1
    rcases get' j o1 h1 with ⟨rfl, rfl⟩ | ⟨a1, a2, a3⟩
    · rw [hi] at h0
      injection h0 with h0
      subst h0
      rw [ha] at hd
      cases hd
    · rw [h0] at a3
      injection a3 with a3
      exact a3.symm
  · intro j oj _ hgj
    rcases get' j oj hgj with ⟨rfl, rfl⟩ | ⟨a1, a2, a3⟩
    · exact ⟨o, hi⟩
    · exact ⟨oj, a3⟩
  · intro j oj k hgj hm _
    rcases get' j oj hgj with ⟨rfl, rfl⟩ | ⟨a1, a2, a3⟩
    · rw [hpar] at hm; cases hm
    · exact .inr (.inr ⟨oj, a3, hm⟩)
  · intro j oj hgj hd
    by_cases e : j ∈ o.par
    · exact .inl ⟨i, o, hi, ha, e⟩
    · right
      have hji : j ≠ i := fun e => by subst e; rw [hi] at hgj; injection hgj with hgj; subst hgj; rw [ha] at hd; cases hd
      rw [AHeap.get_set _ _ _ _ (by simpa using h.lt hi), if_neg hji, AHeap.get_dels, if_neg e]
      exact hgj

theorem store_cells {i o : Nat} {p : Pl} {vs vs' : List Value} {H' : AHeap} (h : Rel G μ H w) (hp : μ i = some p) (hl : LRel μ vs vs') (hs : storeN H ⟨i, o, none⟩ vs = some H') :
    ∃ w', (storeCells ⟨p.b, p.s + o, none⟩ vs').run P w = .ok () w' ∧ Rel G μ H' w' ∧ Tn μ H w μ H' w' ∧ w'.heap.size = w.heap.size := by
  unfold storeN at hs
  split at hs
  · rename_i cs ro par gs hg
    simp only at hg hs
    split at hs
    · rename_i hc
      injection hs with hs
      subst hs
      simp only [Bool.and_eq_true, Bool.not_eq_true', decide_eq_true_eq] at hc
      obtain ⟨⟨hro, hle⟩, hone⟩ := hc
      obtain ⟨c, e, lo, hi, hb, h1, h2, h3, h4, h5, h6, h7⟩ := h.cells hg hp
      obtain ⟨c', k1, k2, k3, k4, k5, k6, k7, k8⟩ := setCells_heap p.b vs' (p.s + o) w c e (lo, hi) hb (by rw [← hl.1]; omega)
      have hfr : ∀ j, j < vs'.length → w.frozen? ⟨p.b, p.s + o + 0 + j, none⟩ = false := by
        intro j hj
        have := h6 hro (p.s + o + j) (by omega) (by rw [← hl.1] at hj; omega)
        simp [World.frozen?, hb]
        omega
      have hcl : ∀ j, j < vs'.length → (w.cell? ⟨p.b, p.s + o + 0 + j, none⟩).isSome = true := by
        intro j hj
        rw [cell_get hb, getD_some (by rw [← hl.1] at hj; omega)]
        rfl
      refine ⟨w.setCells p.b (p.s + o + 0) vs', run_storeCells_cells p.b (p.s + o) vs' 0 w hcl hfr (hl.one hone), ?_⟩
      simp only [Nat.add_zero]
      have key := h.upd (o' := .cells (splice cs o vs) false [] gs) hg (by simp [AObj.alive, hro]) hp (x' := .cells c' e (lo, hi)) ?_ rfl k3 k4 k5 k6 k7 k8
      · exact ⟨key.1, key.2, k5⟩
      · refine .cells (by omega) h2 (by rw [splice_length hle]; omega) (fun j hj => ?_) (fun x hx => ?_) (fun _ j j1 j2 => h6 hro j j1 (by omega)) h7
        · rw [splice_length hle] at hj
          rw [splice_getD hle, k2]
          by_cases e1 : o ≤ j ∧ j < o + vs.length
          · rw [if_pos e1, if_pos (by rw [← hl.1]; omega), show p.s + j - (p.s + o) = j - o by omega]
            exact hl.2 _ (by omega)
          · rw [if_neg e1, if_neg (by rw [← hl.1]; omega)]
            exact h4 j hj
        · simp only [splice, List.mem_append] at hx
          rcases hx with (hx | hx) | hx
          · exact h5 x (List.mem_of_mem_take hx)
          · exact List.all_eq_true.1 hone x hx
          · exact h5 x (List.mem_of_mem_drop hx)
    · cases hs
  · cases hs

/-! ### New blocks -/
def Mu.upd (μ : Mu) (i : Nat) (p : Pl) : Mu := fun j => if j = i then some p else μ j
theorem Mu.upd_same (i : Nat) (p : Pl) : (μ.upd i p) i = some p := by simp [Mu.upd]
theorem Mu.le_upd (h : Rel G μ H w) (p : Pl) : μ.le (μ.upd H.next p) := by
  intro i q hq
  have := h.fin i q hq
  simp only [Mu.upd]
  rw [if_neg (by omega)]
  exact hq

theorem ObjRel.mono {μ' : Mu} (h : μ.le μ') {o : AObj} {x : Obj} {p : Pl} (k : ObjRel μ o x p) : ObjRel μ' o x p := by
  cases k with
  | cells a1 a2 a3 a4 a5 a6 a7 => exact .cells a1 a2 a3 (fun i hi => (a4 i hi).mono h) a5 a6 a7
  | map a1 a2 => exact .map a1 fun i hi => ⟨(a2 i hi).1.mono h, (a2 i hi).2.1.mono h, (a2 i hi).2.2⟩
  | iter s pos a => exact .iter s pos a

/-- A new block at the heap's end. -/
theorem Rel.push {o : AObj} {x : Obj} {p : Pl} {w' : World} (h : Rel G μ H w) (hx : ObjRel μ o x p) (hpar : ∀ j ∈ o.par, (∃ q, μ j = some q) ∧ ∀ oj, H.get j = some oj → oj.alive = false) (hpb : p.b = w.heap.size) (hw : w'.heap = w.heap.push x)
    (h1 : w'.os = w.os) (h2 : w'.tape = w.tape) (h3 : w'.output = w.output) :
    Rel G (μ.upd H.next p) (H.new o) w' ∧ TnB μ H w (μ.upd H.next p) (H.new o) w' := by
  have le := Mu.le_upd h p
  have old : ∀ j oj, H.get j = some oj → ∃ pj xj, μ j = some pj ∧ w.heap[pj.b]? = some xj ∧ ObjRel μ oj xj pj ∧ j < H.next ∧ pj.b < w.heap.size := by
    intro j oj hj
    obtain ⟨pj, xj, a, b, c⟩ := h.dom j oj hj
    exact ⟨pj, xj, a, b, c, h.fin j pj a, (Array.getElem?_eq_some_iff.1 b).1⟩
  have keep : ∀ k, k < w.heap.size → w'.heap[k]? = w.heap[k]? := by
    intro k hk
    rw [hw, Array.getElem?_push, if_neg (by omega)]
  have get' : ∀ j oj, (H.new o).get j = some oj → (j = H.next ∧ oj = o) ∨ (j < H.next ∧ H.get j = some oj) := by
    intro j oj hg
    rw [AHeap.get_new] at hg
    split at hg
    · rename_i e; injection hg with hg; exact .inl ⟨e, hg.symm⟩
    · obtain ⟨pj, xj, _, _, _, hlt, _⟩ := old j oj hg
      exact .inr ⟨hlt, hg⟩
  have mu' : ∀ j pj, j < H.next → (μ.upd H.next p) j = some pj → μ j = some pj := by
    intro j pj hj e
    simpa [Mu.upd, show j ≠ H.next by omega] using e
  have parlt : ∀ j ∈ o.par, ∃ q, μ j = some q ∧ j < H.next := by
    intro j hj
    obtain ⟨q, h6⟩ := (hpar j hj).1
    exact ⟨q, h6, h.fin j q h6⟩
  refine ⟨⟨?_, ?_, ?_, ?_, ?_, ?_, ?_, ?_⟩, fun _ _ k => h.lt k, le, fun i hi => by simp [Mu.upd, show i ≠ H.next by omega], by simp, ⟨h1, h2, h3, by rw [hw]; simp, fun k hk _ => keep k hk⟩, ?_, ?_, ?_⟩
  · intro j oj hg
    rcases get' j oj hg with ⟨rfl, rfl⟩ | ⟨hlt, hg'⟩
    · exact ⟨p, x, Mu.upd_same _ _, by rw [hw, hpb]; simp, hx.mono le⟩
    · obtain ⟨pj, xj, a, b, c, d, e⟩ := old j oj hg'
      exact ⟨pj, xj, le _ _ a, by rw [keep _ e]; exact b, c.mono le⟩
  · intro j pj hj
    simp only [Mu.upd] at hj
    split at hj
    · simp; omega
    · have := h.fin j pj hj; simp; omega
  · have := h.base; simp; omega
  · intro g hg
    obtain ⟨q, a, b, c⟩ := h.glob g hg
    exact ⟨q, le _ _ a, b, c⟩
  · intro j k oj ok pj pk hjk hgj hgk hpj hpk e
    rcases get' j oj hgj with ⟨rfl, rfl⟩ | ⟨a1, a2⟩
    · rcases get' k ok hgk with ⟨rfl, rfl⟩ | ⟨b1, b2⟩
      · exact absurd rfl hjk
      · exfalso
        rw [Mu.upd_same] at hpj
        injection hpj with hpj
        subst hpj
        obtain ⟨q, _, hq, _, _, _, hlt⟩ := old k ok b2
        have := mu' k pk b1 hpk
        rw [this] at hq
        injection hq with hq
        subst hq
        omega
    · rcases get' k ok hgk with ⟨rfl, rfl⟩ | ⟨b1, b2⟩
      · exfalso
        rw [Mu.upd_same] at hpk
        injection hpk with hpk
        subst hpk
        obtain ⟨q, _, hq, _, _, _, hlt⟩ := old j oj a2
        have := mu' j pj a1 hpj
        rw [this] at hq
        injection hq with hq
        subst hq
        omega
      · exact h.sep j k oj ok pj pk hjk a2 b2 (mu' j pj a1 hpj) (mu' k pk b1 hpk) e
  · intro j k oj ok hgj hgk hm
    rcases get' k ok hgk with ⟨rfl, rfl⟩ | ⟨b1, b2⟩
    · rcases get' j oj hgj with ⟨rfl, rfl⟩ | ⟨a1, a2⟩
      · exact absurd (parlt _ hm).choose_spec.2 (by omega)
      · exact (hpar _ hm).2 oj a2
    · rcases get' j oj hgj with ⟨rfl, rfl⟩ | ⟨a1, a2⟩
      · exfalso
        obtain ⟨q, hq⟩ := h.plt k ok _ b2 hm
        have := h.fin _ _ hq
        omega
      · exact h.ro j k oj ok a2 b2 hm
  · intro j oj k hgj hm
    rcases get' j oj hgj with ⟨rfl, rfl⟩ | ⟨a1, a2⟩
    · obtain ⟨q, hq, _⟩ := parlt _ hm
      exact ⟨q, le _ _ hq⟩
    · obtain ⟨q, hq⟩ := h.plt j oj k a2 hm
      exact ⟨q, le _ _ hq⟩
  · intro j k oj ok pj pk hgj hgk hm hpj hpk e
    rcases get' k ok hgk with ⟨rfl, rfl⟩ | ⟨b1, b2⟩
    · rcases get' j oj hgj with ⟨rfl, rfl⟩ | ⟨a1, a2⟩
      · exact absurd (parlt _ hm).choose_spec.2 (by omega)
      · exfalso
        rw [Mu.upd_same] at hpk
        injection hpk with hpk
        subst hpk
        obtain ⟨q, _, hq, _, _, _, hlt⟩ := old j oj a2
        have := mu' j pj a1 hpj
        rw [this] at hq
        injection hq with hq
        subst hq
        omega
    · rcases get' j oj hgj with ⟨rfl, rfl⟩ | ⟨a1, a2⟩
      · exfalso
        obtain ⟨q, hq⟩ := h.plt k ok _ b2 hm
        have := h.fin _ _ hq
        omega
      · exact h.pend j k oj ok pj pk a2 b2 hm (mu' j pj a1 hpj) (mu' k pk b1 hpk) e
  · intro j oj pj hgj hpj hb
    rcases get' j oj hgj with ⟨rfl, rfl⟩ | ⟨a1, a2⟩
    · rw [Mu.upd_same] at hpj
      injection hpj with hpj
      subst hpj
      omega
    · exact Img.of a2 (mu' j pj a1 hpj)
  · intro j o0 o1 h0 hd h1
    rcases get' j o1 h1 with ⟨rfl, rfl⟩ | ⟨a1, a2⟩
    · exact absurd (h.lt h0) (by omega)
    · rw [h0] at a2
      injection a2 with a2
      exact a2.symm
  · intro j oj hlt hgj
    rcases get' j oj hgj with ⟨rfl, rfl⟩ | ⟨a1, a2⟩
    · omega
    · exact ⟨oj, a2⟩
/-- A new row without ancestors. -/
theorem TnP.new {o : AObj} (hR : Rel G μ H w) (hpar : o.par = []) : TnP H (H.new o) := by
  intro j oj k hgj hm _
  rw [AHeap.get_new] at hgj
  split at hgj
  · injection hgj with hgj
    subst hgj
    rw [hpar] at hm
    cases hm
  · exact .inr (.inr ⟨oj, hgj, hm⟩)
theorem TnK.new {o : AObj} (hR : Rel G μ H w) : TnK H (H.new o) := by
  intro i oi hi _
  right
  rw [AHeap.get_new, if_neg]
  · exact hi
  · have := AHeap.get_lt hi; omega
theorem Rel.push0 {o : AObj} {x : Obj} {p : Pl} {w' : World} (h : Rel G μ H w) (hx : ObjRel μ o x p) (hpar : o.par = []) (hpb : p.b = w.heap.size) (hw : w'.heap = w.heap.push x)
    (h1 : w'.os = w.os) (h2 : w'.tape = w.tape) (h3 : w'.output = w.output) :
    Rel G (μ.upd H.next p) (H.new o) w' ∧ Tn μ H w (μ.upd H.next p) (H.new o) w' := by
  obtain ⟨a, b⟩ := h.push hx (fun j hj => by rw [hpar] at hj; cases hj) hpb hw h1 h2 h3
  exact ⟨a, b, TnP.new h hpar, TnK.new h⟩

/-- A row that isn't written any more. -/
theorem Rel.shut {i : Nat} {cs : List Value} {ro : Bool} {par : List Nat} {gs : Nat} (h : Rel G μ H w) (hi : H.get i = some (.cells cs ro par gs)) :
    Rel G μ (H.set i (.cells cs true par gs)) w ∧ Tn μ H w μ (H.set i (.cells cs true par gs)) w := by
  have get' : ∀ j oj, (H.set i (.cells cs true par gs)).get j = some oj → ∃ o0, H.get j = some o0 ∧ oj.par = o0.par ∧ oj.len = o0.len ∧ (o0.alive = false → oj.alive = false) ∧ (oj.alive = true → o0.alive = true) ∧
      ∀ x p, ObjRel μ o0 x p → ObjRel μ oj x p := by
    intro j oj hg
    rw [AHeap.get_set _ _ _ _ (h.lt hi)] at hg
    split at hg
    · rename_i e
      subst e
      injection hg with hg
      subst hg
      refine ⟨_, hi, rfl, rfl, fun _ => rfl, (fun e => by simp [AObj.alive] at e), fun x p hx => ?_⟩
      cases hx with
      | cells a1 a2 a3 a4 a5 a6 a7 => exact .cells a1 a2 a3 a4 a5 (fun e => by cases e) a7
    · exact ⟨oj, hg, rfl, rfl, fun h => h, fun h => h, fun _ _ h => h⟩
  refine ⟨⟨?_, fun j p hj => by simpa using h.fin j p hj, by simpa using h.base, h.glob, ?_, ?_, ?_, ?_⟩, ⟨fun _ _ k => h.lt k, Mu.le_refl _, fun _ _ => rfl, by simp, Ext.refl _ _, ?_, ?_, ?_⟩, ?_, ?_⟩
  · intro j oj hg
    obtain ⟨o0, g0, _, _, _, _, k⟩ := get' j oj hg
    obtain ⟨p, x, a, b, c⟩ := h.dom j o0 g0
    exact ⟨p, x, a, b, k x p c⟩
  · intro j k oj ok pj pk hjk hgj hgk hpj hpk e
    obtain ⟨o0, g0, e0, _⟩ := get' j oj hgj
    obtain ⟨o1, g1, e1, _⟩ := get' k ok hgk
    rw [e0, e1]
    exact h.sep j k o0 o1 pj pk hjk g0 g1 hpj hpk e
  · intro j k oj ok hgj hgk hm
    obtain ⟨o0, g0, e0, _, f0, _⟩ := get' j oj hgj
    obtain ⟨o1, g1, e1, _⟩ := get' k ok hgk
    exact f0 (h.ro j k o0 o1 g0 g1 (by rw [← e1]; exact hm))
  · intro j oj k hgj hm
    obtain ⟨o0, g0, e0, _⟩ := get' j oj hgj
    exact h.plt j o0 k g0 (by rw [← e0]; exact hm)
  · intro j k oj ok pj pk hgj hgk hm hpj hpk e
    obtain ⟨o0, g0, e0, l0, _⟩ := get' j oj hgj
    obtain ⟨o1, g1, e1, l1, _⟩ := get' k ok hgk
    rw [l0, l1]
    exact h.pend j k o0 o1 pj pk g0 g1 (by rw [← e1]; exact hm) hpj hpk e
  · intro j oj pj hgj hpj hb
    obtain ⟨o0, g0, e0, _, _, k0, _⟩ := get' j oj hgj
    rcases Img.of g0 hpj with h1 | ⟨h1, _⟩
    · exact .inl h1
    · cases ha : oj.alive with
      | true => rw [k0 ha] at h1; cases h1
      | false => exact .inr ⟨rfl, o0, g0, hpj⟩
  · intro j o0 o1 h0 hd h1
    rw [AHeap.get_set _ _ _ _ (h.lt hi)] at h1
    split at h1
    · rename_i e
      subst e
      injection h1 with h1
      rw [hi] at h0
      injection h0 with h0
      subst h0
      subst h1
      cases ro with
      | true => rfl
      | false => cases hd
    · rw [h0] at h1
      injection h1 with h1
      exact h1.symm
  · intro j oj _ hgj
    obtain ⟨o0, g0, _⟩ := get' j oj hgj
    exact ⟨o0, g0⟩
  · intro j oj k hgj hm _
    obtain ⟨o0, g0, e0, _⟩ := get' j oj hgj
    exact .inr (.inr ⟨o0, g0, by rw [← e0]; exact hm⟩)
  · intro j oj hgj hd
    right
    rw [AHeap.get_set _ _ _ _ (h.lt hi)]
    split
    · rename_i e
      subst e
      rw [hi] at hgj
      injection hgj with hgj
      subst hgj
      cases ro with
      | true => rfl
      | false => cases hd
    · exact hgj

end Go.Eng
set_option linter.unusedVariables false
set_option linter.unusedSimpArgs false
namespace Go.Eng
open Go

/-! ### Runs that touch no memory -/
def prun (P : Program) {α : Type} : Sem α → Option α
  | .pure a => some a
  | .program k => prun P (k P)
  | .mark _ k => prun P k
  | _ => none
theorem prun_run (P : Program) {α : Type} (m : Sem α) : ∀ a, prun P m = some a → ∀ w, m.run P w = .ok a w := by
  induction m with
  | pure b => intro a h w; injection h with h; subst h; rfl
  | program k ih => intro a h w; exact ih P a h w
  | mark m k ih => intro a h w; exact ih a h w
  | _ => intro a h; cases h
@[simp] theorem prun_pure (P : Program) {α : Type} (a : α) : prun P (Pure.pure a : Sem α) = some a := rfl
@[simp] theorem prun_pure' (P : Program) {α : Type} (a : α) : prun P (Sem.pure a) = some a := rfl
@[simp] theorem prun_bind (P : Program) {α β : Type} (m : Sem α) (f : α → Sem β) : prun P (m >>= f) = (prun P m).bind fun a => prun P (f a) := by
  show prun P (m.bind f) = _
  induction m with
  | pure b => rfl
  | program k ih => exact ih P
  | mark m k ih => exact ih
  | _ => rfl
@[simp] theorem prun_program (P : Program) : prun P program = some P := rfl
theorem prun_underlying {P : Program} {t : TypeId} {d : TypeDesc} (h : P.underlying t = some d) : prun P (underlying t) = some d := by
  simp [underlying, h]

/-! ### Tables of types -/
structure Tb where
  und : TypeId → Option TypeDesc
  info : TypeId → Option TypeInfo
structure TbOK (P : Program) (T : Tb) : Prop where
  und : ∀ t d, T.und t = some d → P.underlying t = some d
  info : ∀ t i, T.info t = some i → P.info? t = some i
  zero : ∀ t i z, T.info t = some i → i.zero = some z → z.cells.toList.all (flat 0) = true ∧ z.cells.size = i.size ∧ flat 1 z = true
def Tb.of (P : Program) : Tb := { und := P.underlying, info := P.info? }

def vcells (v : Value) : List Value := v.cells.toList
def known : Value → Bool
  | .chan _ => false
  | _ => true
theorem VRel.cells {μ : Mu} {v v' : Value} (h : VRel μ v v') (hk : known v = true) : LRel μ (vcells v) (vcells v') := by
  cases h with
  | any v => cases hk
  | agg a b => exact ARel.list ⟨a, b⟩
  | _ => exact LRel.cons (by first | assumption | (constructor <;> assumption) | constructor) LRel.nil
theorem flat_one {v : Value} (h : flat 0 v = true) : one v = true := by cases v <;> simp_all [flat, one]
theorem all_one {l : List Value} (h : l.all (flat 0) = true) : l.all one = true := List.all_eq_true.2 fun x hx => flat_one (List.all_eq_true.1 h x hx)

section
variable {P : Program} {G : Nat} {μ : Mu} {H : AHeap} {w : World} {T : Tb}

/-- An operation comes to a value and a heap. -/
def Snd (P : Program) (G : Nat) (μ : Mu) (H : AHeap) (w : World) (s : Sem Value) (r : Value × AHeap) : Prop :=
  ∃ v' w' μ', s.run P w = .ok v' w' ∧ VRel μ' r.1 v' ∧ Rel G μ' r.2 w' ∧ Tn μ H w μ' r.2 w'

theorem Snd.same {s : Sem Value} {v v' : Value} (hR : Rel G μ H w) (h : s.run P w = .ok v' w) (hv : VRel μ v v') : Snd P G μ H w s (v, H) :=
  ⟨v', w, μ, h, hv, hR, Tn.refl hR⟩

theorem run_info (hT : TbOK P T) {t : TypeId} {i : TypeInfo} (h : T.info t = some i) : (typeInfo t).run P w = .ok i w := run_typeInfo w (hT.info t i h)
theorem run_size (hT : TbOK P T) {t : TypeId} {i : TypeInfo} (h : T.info t = some i) : (sizeOf t).run P w = .ok i.size w := by
  rw [run_sizeOf w (hT.info t i h)]; simp [Program.cellsOf, hT.info t i h]
theorem run_und (hT : TbOK P T) {t : TypeId} {d : TypeDesc} (h : T.und t = some d) : (underlying t).run P w = .ok d w := run_underlying (hT.und t d h) w
theorem run_zero (hT : TbOK P T) {t : TypeId} {i : TypeInfo} {z : Value} (h : T.info t = some i) (hz : i.zero = some z) : (zeroValue t).run P w = .ok z w := by
  simp [zeroValue, run_info hT h, hz]

/-! ### Variables -/
def isAg : TypeDesc → Bool
  | .struct _ | .array _ _ => true
  | _ => false
theorem run_isAg (hT : TbOK P T) {t : TypeId} {d : TypeDesc} (h : T.und t = some d) : (isAgg t).run P w = .ok (isAg d) w := by
  simp only [isAgg, Sem.run_bind, run_und hT h, Result.andThen_ok]
  cases d <;> rfl

def aLoad (T : Tb) (t : TypeId) (x : Value) (H : AHeap) : Option (Value × AHeap) :=
  match x with
  | .pointer (some a) =>
    match T.und t, T.info t with
    | some d, some i =>
      if isAg d then (loadN H a i.size).map fun vs => (.agg vs.toArray, H)
      else match loadN H a 1 with
        | some [v] => some (v, H)
        | _ => none
    | _, _ => none
  | _ => none

theorem aLoad_same (hT : TbOK P T) (hR : Rel G μ H w) {t : TypeId} {x x' : Value} {r : Value × AHeap} (hx : VRel μ x x') (h : aLoad T t x H = some r) :
    ∃ v v', r = (v, H) ∧ VRel μ v v' ∧ (Instr.loadAt t x').run P w = .ok v' w ∧ ∃ b, x' = .pointer (some b) := by
  unfold aLoad at h
  split at h
  · rename_i a
    obtain ⟨i, o, p, rfl, hp, rfl⟩ := ptr_inv hx
    split at h
    · rename_i d inf hd hi
      cases hag : isAg d with
      | true =>
        simp only [hag, if_true, Option.map_eq_some_iff] at h
        obtain ⟨vs, hvs, rfl⟩ := h
        obtain ⟨vs', h1, h2, h3, h4, h5⟩ := load_cells (P := P) hR hp hvs
        refine ⟨_, _, rfl, VRel.agg h1.arr.1 h1.arr.2, ?_, _, rfl⟩
        simp [Instr.loadAt, Instr.sureAddr, loadVar, run_isAg hT hd, hag, run_size hT hi, h5 w rfl]
      | false =>
        simp only [hag, Bool.false_eq_true, if_false] at h
        split at h
        · rename_i v hvs
          injection h with h
          subst h
          obtain ⟨vs', h1, h2, h3, h4, h5⟩ := load_cells (P := P) hR hp hvs
          obtain ⟨u, rfl⟩ : ∃ u, vs' = [u] := List.length_eq_one_iff.1 (by rw [← h1.1]; rfl)
          have hc := h4 0 u rfl
          rw [add_spot, Nat.add_zero] at hc
          refine ⟨_, _, rfl, h1.2 0 (by simp), ?_, _, rfl⟩
          simp [Instr.loadAt, Instr.sureAddr, loadVar, run_isAg hT hd, hag, hc]
        · cases h
    · cases h
  · cases h

theorem aLoad_ok (hT : TbOK P T) (hR : Rel G μ H w) {t : TypeId} {x x' : Value} {r : Value × AHeap} (hx : VRel μ x x') (h : aLoad T t x H = some r) :
    Snd P G μ H w (Instr.loadAt t x') r := by
  obtain ⟨v, v', rfl, h1, h2, _⟩ := aLoad_same hT hR hx h
  exact Snd.same hR h2 h1

def aStore (T : Tb) (t : TypeId) (x v : Value) (H : AHeap) : Option AHeap :=
  match x with
  | .pointer (some a) =>
    match T.info t with
    | some i => if known v = true ∧ (vcells v).length = i.size then storeN H a (vcells v) else none
    | none => none
  | _ => none

/-- An operation without a value. -/
def SndU (P : Program) (G : Nat) (μ : Mu) (H : AHeap) (w : World) (s : Sem Unit) (H' : AHeap) : Prop :=
  ∃ w' μ', s.run P w = .ok () w' ∧ Rel G μ' H' w' ∧ Tn μ H w μ' H' w'

theorem aStore_ok (hT : TbOK P T) (hR : Rel G μ H w) {t : TypeId} {x x' v v' : Value} {H' : AHeap} (hx : VRel μ x x') (hv : VRel μ v v') (h : aStore T t x v H = some H') :
    SndU P G μ H w (Instr.storeAt t x' v') H' := by
  unfold aStore at h
  split at h
  · rename_i a
    obtain ⟨i, o, p, rfl, hp, rfl⟩ := ptr_inv hx
    split at h
    · rename_i inf hi
      split at h
      · rename_i hl
        obtain ⟨hk, hl⟩ := hl
        have hc := hv.cells hk
        obtain ⟨w', h1, h2, h3, _⟩ := store_cells (P := P) hR hp hc h
        refine ⟨w', μ, ?_, h2, h3⟩
        have hsz : v'.cells.size = inf.size := by rw [← hl, hc.1]; simp [vcells]
        have h1' : (storeCells ⟨p.b, p.s + o, none⟩ v'.cells.toList).run P w = .ok () w' := h1
        simp [Instr.storeAt, Instr.sureAddr, storeVar, run_size hT hi, hsz, h1']
      · cases h
    · cases h
  · cases h

/-! ### New variables -/
def aNew (cs : List Value) (gs : Nat) (H : AHeap) : Option (Value × AHeap) :=
  if cs.all one then some (.pointer (some ⟨H.next, 0, none⟩), H.new (.cells cs false [] gs)) else none

/-- A new row: the cells, and whatever stands behind them. -/
theorem Rel.row {cs : List Value} {cs' : Array Value} {gs : Nat} {e : TypeId} {fr : Nat × Nat} {w' : World} (hR : Rel G μ H w) (h1 : cs.all one = true) (hl : cs.length ≤ cs'.size)
    (hv : ∀ i, i < cs.length → VRel μ (cs.getD i undef) (cs'.getD i undef)) (hfr : ∀ j, j < cs'.size → ¬ (fr.1 ≤ j ∧ j < fr.2)) (hgs : gs = 0 → fr.1 = 0 ∧ fr.2 = 0)
    (hw : w'.heap = w.heap.push (.cells cs' e fr)) (a1 : w'.os = w.os) (a2 : w'.tape = w.tape) (a3 : w'.output = w.output) :
    ∃ p : Pl, p = ⟨w.heap.size, 0, cs'.size, gs⟩ ∧ Rel G (μ.upd H.next p) (H.new (.cells cs false [] gs)) w' ∧ Tn μ H w (μ.upd H.next p) (H.new (.cells cs false [] gs)) w' := by
  refine ⟨_, rfl, ?_⟩
  have ho : ObjRel μ (.cells cs false [] gs) (.cells cs' e (fr.1, fr.2)) ⟨w.heap.size, 0, cs'.size, gs⟩ :=
    .cells rfl rfl (by simpa using hl) (fun i hi => by simpa using hv i hi) (fun x hx => List.all_eq_true.1 h1 x hx) (fun _ j _ hj => hfr j hj) hgs
  exact hR.push0 ho rfl rfl hw a1 a2 a3

theorem aNew_ok (hR : Rel G μ H w) {cs cs' : List Value} {gs : Nat} {e : TypeId} {r : Value × AHeap} (hv : LRel μ cs cs') (h : aNew cs gs H = some r) :
    ∃ w' μ', (newRow e cs'.toArray).run P w = .ok ⟨w.heap.size, 0, none⟩ w' ∧ VRel μ' r.1 (.pointer (some ⟨w.heap.size, 0, none⟩)) ∧ Rel G μ' r.2 w' ∧ Tn μ H w μ' r.2 w' ∧
      μ' = μ.upd H.next ⟨w.heap.size, 0, cs'.length, gs⟩ := by
  unfold aNew at h
  split at h
  · rename_i h1
    injection h with h
    subst h
    obtain ⟨p, hp, k1, k2⟩ := hR.row (cs := cs) (cs' := cs'.toArray) (gs := gs) (e := e) (fr := (0, 0)) (w' := { w with heap := w.heap.push (.cells cs'.toArray e) }) h1 (by simp [hv.1]) hv.arr'
      (fun j _ => by simp) (fun _ => ⟨rfl, rfl⟩) rfl rfl rfl rfl
    refine ⟨_, _, rfl, ?_, k1, k2, by rw [hp]; simp⟩
    have := VRel.ptr (μ := μ.upd H.next p) (o := 0) (Mu.upd_same H.next p)
    rw [hp] at this ⊢
    simpa using this
  · cases h

def aBox (x : Value) (H : AHeap) : Option (Value × AHeap) := if known x then aNew (vcells x) 0 H else none
theorem aBox_ok (hR : Rel G μ H w) {e : TypeId} {x x' : Value} {r : Value × AHeap} (hx : VRel μ x x') (h : aBox x H = some r) : Snd P G μ H w (Instr.box e x') r := by
  unfold aBox at h
  split at h
  case isFalse => cases h
  rename_i hk
  obtain ⟨w', μ', h1, h2, h3, h4, _⟩ := aNew_ok (P := P) (e := e) hR (hx.cells hk) h
  refine ⟨_, w', μ', ?_, h2, h3, h4⟩
  have : (newRow e x'.cells).run P w = .ok ⟨w.heap.size, 0, none⟩ w' := by simpa [vcells] using h1
  simp [Instr.box, newVar, this]

def zeroT (T : Tb) (t : TypeId) : Option Value := (T.info t).bind (·.zero)
def aAlloc (T : Tb) (t : TypeId) (H : AHeap) : Option (Value × AHeap) := (zeroT T t).bind fun z => aNew (vcells z) 0 H
theorem zero_rel (hT : TbOK P T) {t : TypeId} {z : Value} (h : zeroT T t = some z) : VRel μ z z := by
  unfold zeroT at h
  obtain ⟨i, hi, hz⟩ := Option.bind_eq_some_iff.1 h
  exact flat_rel 1 z (hT.zero t i z hi hz).2.2
theorem zero_known (hT : TbOK P T) {t : TypeId} {z : Value} (h : zeroT T t = some z) : known z = true := by
  unfold zeroT at h
  obtain ⟨i, hi, hz⟩ := Option.bind_eq_some_iff.1 h
  have := (hT.zero t i z hi hz).2.2
  cases z <;> first | rfl | (simp [flat] at this)
theorem zero_run (hT : TbOK P T) {t : TypeId} {z : Value} (h : zeroT T t = some z) : (zeroValue t).run P w = .ok z w := by
  unfold zeroT at h
  obtain ⟨i, hi, hz⟩ := Option.bind_eq_some_iff.1 h
  exact run_zero hT hi hz
theorem aAlloc_ok (hT : TbOK P T) (hR : Rel G μ H w) {t : TypeId} {r : Value × AHeap} (h : aAlloc T t H = some r) : Snd P G μ H w (Instr.alloc t true (.tuple #[])) r := by
  unfold aAlloc at h
  obtain ⟨z, hz, h⟩ := Option.bind_eq_some_iff.1 h
  have hzr : VRel μ z z := zero_rel hT hz
  obtain ⟨w', μ', h1, h2, h3, h4, _⟩ := aNew_ok (P := P) (e := t) hR (hzr.cells (zero_known hT hz)) h
  refine ⟨_, w', μ', ?_, h2, h3, h4⟩
  have : (newRow t z.cells).run P w = .ok ⟨w.heap.size, 0, none⟩ w' := by simpa [vcells] using h1
  simp [Instr.alloc, newVar, this, zero_run hT hz]

end
end Go.Eng
set_option linter.unusedVariables false
set_option linter.unusedSimpArgs false
namespace Go.Eng
open Go
section
variable {P : Program} {G : Nat} {μ : Mu} {H : AHeap} {w : World} {T : Tb}

/-! ### Filling a row -/
def afill (place : Nat → Option (Nat × Nat)) : List Value → List (Nat × Value) → Option (List Value)
  | cs, [] => some cs
  | cs, (i, v) :: rest =>
    match place i with
    | none => none
    | some (off, size) => if (vcells v).length = size ∧ off + size ≤ cs.length ∧ known v = true then afill place (splice cs off (vcells v)) rest else none

theorem foldl_set (off : Nat) : ∀ (l : List Value) (k : Nat) (c : Array Value), off + k + l.length ≤ c.size →
    ∃ c', (l.zipIdx k).foldl (fun cs x => cs.setIfInBounds (off + x.2) x.1) c = c' ∧ c'.size = c.size ∧
      ∀ j, c'.getD j undef = if off + k ≤ j ∧ j < off + k + l.length then l.getD (j - (off + k)) undef else c.getD j undef := by
  intro l
  induction l with
  | nil => intro k c _; exact ⟨c, rfl, rfl, fun j => by rw [if_neg (by simp only [List.length_nil]; omega)]⟩
  | cons v l ih =>
    intro k c h
    simp only [List.length_cons] at h
    obtain ⟨c', h1, h2, h3⟩ := ih (k + 1) (c.setIfInBounds (off + k) v) (by simp; omega)
    refine ⟨c', by simpa using h1, by simpa using h2, fun j => ?_⟩
    rw [h3 j]
    simp only [List.length_cons]
    by_cases e1 : j = off + k
    · subst e1
      rw [if_neg (by omega), if_pos (by omega)]
      simp [Array.getD_eq_getD_getElem?, show off + k < c.size by omega]
    · by_cases e2 : off + (k + 1) ≤ j ∧ j < off + (k + 1) + l.length
      · rw [if_pos e2, if_pos (by omega), show j - (off + k) = (j - (off + (k + 1))) + 1 by omega]
        simp
      · rw [if_neg e2, if_neg (by omega)]
        simp [Array.getD_eq_getD_getElem?, Array.getElem?_setIfInBounds_ne (Ne.symm e1)]

/-- Parts: the same places, related values. -/
inductive PRel (μ : Mu) : List (Nat × Value) → List (Nat × Value) → Prop
  | nil : PRel μ [] []
  | cons (i : Nat) {v v' : Value} {l l' : List (Nat × Value)} : VRel μ v v' → PRel μ l l' → PRel μ ((i, v) :: l) ((i, v') :: l')

theorem lgetD_toArray (l : List Value) (i : Nat) : l.toArray.getD i undef = l.getD i undef := by simp [Array.getD_eq_getD_getElem?, List.getD_eq_getElem?_getD]
theorem agetD_toList (l : Array Value) (i : Nat) : l.toList.getD i undef = l.getD i undef := by simp [Array.getD_eq_getD_getElem?, List.getD_eq_getElem?_getD]

theorem afill_ok {place : Nat → Option (Nat × Nat)} : ∀ {parts parts' : List (Nat × Value)} {cs out : List Value} {cs' : Array Value}, PRel μ parts parts' → LRel μ cs cs'.toList →
    afill place cs parts = some out → ∃ out', Instr.fill place cs' parts' = some out' ∧ LRel μ out out'.toList := by
  intro parts parts' cs out cs' hp
  induction hp generalizing cs cs' with
  | nil => intro hl h; injection h with h; subst h; exact ⟨cs', rfl, hl⟩
  | @cons i v v' l l' hv _ ih =>
    intro hl h
    simp only [afill] at h
    split at h
    · cases h
    · rename_i off size hpl
      split at h
      · rename_i hc
        obtain ⟨hc1, hc2, hc3⟩ := hc
        have hc : (vcells v).length = size ∧ off + size ≤ cs.length := ⟨hc1, hc2⟩
        have hvc := hv.cells hc3
        have hs1 : v'.cells.size = size := by rw [← hc.1, hvc.1]; simp [vcells]
        have hs2 : cs'.size = cs.length := by rw [hl.1]; simp
        obtain ⟨c2, k1, k2, k3⟩ := foldl_set off v'.cells.toList 0 cs' (by simp; omega)
        have hrel : LRel μ (splice cs off (vcells v)) c2.toList := by
          refine ⟨by rw [splice_length (by omega)]; simp; omega, fun j hj => ?_⟩
          rw [splice_length (by omega)] at hj
          rw [splice_getD (by omega), agetD_toList c2, k3 j]
          simp only [Nat.add_zero]
          by_cases e : off ≤ j ∧ j < off + (vcells v).length
          · rw [if_pos e, if_pos (by rw [hvc.1] at e; simpa [vcells] using e)]
            exact hvc.2 _ (by omega)
          · rw [if_neg e, if_neg (by rw [hvc.1] at e; simpa [vcells] using e)]
            have := hl.2 j hj
            rwa [agetD_toList cs'] at this
        obtain ⟨out', q1, q2⟩ := ih hrel h
        refine ⟨out', ?_, q2⟩
        unfold Instr.fill
        rw [hpl]
        simp only
        rw [if_neg (by simp; omega)]
        have : (v'.cells.zipIdx.foldl (fun cs x => cs.setIfInBounds (off + x.2) x.1) cs') = c2 := by
          rw [← k1, ← Array.foldl_toList]
          simp
        rw [← q1, ← this]
      · cases h

/-! ### Fields' places -/
def places (T : Tb) (fs : List Field) : Option (List (Nat × Nat)) := fs.mapM fun f => (T.info f.type).map fun i => (f.offset, i.size)
theorem run_mapM {α β : Type} (f : α → Sem β) (w : World) : ∀ (l : List α) (ys : List β), l.length = ys.length → (∀ (i : Nat) x y, l[i]? = some x → ys[i]? = some y → (f x).run P w = .ok y w) → (l.mapM f).run P w = .ok ys w := by
  intro l
  induction l with
  | nil => intro ys h _; cases ys with | nil => rfl | cons y ys => cases h
  | cons x l ih =>
    intro ys h hf
    cases ys with
    | nil => cases h
    | cons y ys =>
      have h0 := hf 0 x y rfl rfl
      have := ih ys (by simpa using h) (fun i x y hx hy => hf (i + 1) x y (by simpa using hx) (by simpa using hy))
      simp [List.mapM_cons, h0, this]
theorem optMapM {α β : Type} (f : α → Option β) : ∀ (l : List α) (ys : List β), l.mapM f = some ys → l.length = ys.length ∧ ∀ (i : Nat) x y, l[i]? = some x → ys[i]? = some y → f x = some y := by
  intro l
  induction l with
  | nil => intro ys h; simp at h; subst h; exact ⟨rfl, fun i x y h => by simp at h⟩
  | cons x l ih =>
    intro ys h
    simp only [List.mapM_cons, Option.bind_eq_bind, Option.pure_def, Option.bind_eq_some_iff, Option.some.injEq] at h
    obtain ⟨y, hy, ys', hys, rfl⟩ := h
    obtain ⟨h1, h2⟩ := ih ys' hys
    refine ⟨by simp [h1], fun i a b ha hb => ?_⟩
    cases i with
    | zero => simp at ha hb; subst ha; subst hb; exact hy
    | succ i => exact h2 i a b (by simpa using ha) (by simpa using hb)
theorem places_run' (hT : TbOK P T) {fs : Array Field} {ps : List (Nat × Nat)} (h : places T fs.toList = some ps) :
    (fs.mapM fun f => Prod.mk f.offset <$> sizeOf f.type : Sem (Array (Nat × Nat))).run P w = .ok ps.toArray w := by
  obtain ⟨h1, h2⟩ := optMapM _ _ _ h
  rw [Array.mapM_eq_mapM_toList]
  have := run_mapM (P := P) (fun f : Field => (Prod.mk f.offset <$> sizeOf f.type : Sem (Nat × Nat))) w fs.toList ps h1 (fun i x y hx hy => by
    obtain ⟨inf, hi, rfl⟩ := Option.map_eq_some_iff.1 (h2 i x y hx hy)
    simp [run_size hT hi])
  simp [this]

def aBuild (T : Tb) (t : TypeId) (parts : List (Nat × Value)) : Option Value :=
  match zeroT T t with
  | none => none
  | some z =>
    match T.und t with
    | some (.struct fs) => (places T fs.toList).bind fun ps => (afill (fun i => ps[i]?) (vcells z) parts).map fun cs => .agg cs.toArray
    | some (.array _ e) => (T.info e).bind fun i => (afill (fun k => some (k * i.size, i.size)) (vcells z) parts).map fun cs => .agg cs.toArray
    | _ => none

theorem aBuild_ok (hT : TbOK P T) (hR : Rel G μ H w) {t : TypeId} {parts : List (Nat × Value)} {parts' : Array (Nat × Value)} {v : Value} (hp : PRel μ parts parts'.toList) (h : aBuild T t parts = some v) :
    Snd P G μ H w (Instr.build t parts') (v, H) := by
  unfold aBuild at h
  split at h
  · cases h
  · rename_i z hz
    have hzr : VRel μ z z := zero_rel hT hz
    split at h
    · rename_i fs hu
      obtain ⟨ps, hps, h⟩ := Option.bind_eq_some_iff.1 h
      obtain ⟨cs, hcs, rfl⟩ := Option.map_eq_some_iff.1 h
      obtain ⟨out', k1, k2⟩ := afill_ok (cs' := z.cells) hp (hzr.cells (zero_known hT hz)) hcs
      refine Snd.same hR (v' := .agg out') ?_ (VRel.agg (by simpa using k2.1) (by simpa using k2.arr.2))
      simp [Instr.build, zero_run hT hz, run_und hT hu, places_run' hT hps, k1]
    · rename_i n e hu
      obtain ⟨inf, hi, h⟩ := Option.bind_eq_some_iff.1 h
      obtain ⟨cs, hcs, rfl⟩ := Option.map_eq_some_iff.1 h
      obtain ⟨out', k1, k2⟩ := afill_ok (cs' := z.cells) hp (hzr.cells (zero_known hT hz)) hcs
      refine Snd.same hR (v' := .agg out') ?_ (VRel.agg (by simpa using k2.1) (by simpa using k2.arr.2))
      simp [Instr.build, zero_run hT hz, run_und hT hu, run_size hT hi, k1]
    · cases h

/-- So many zero elements. -/
def zeros (z : Value) : Nat → List Value
  | 0 => []
  | n + 1 => vcells z ++ zeros z n
theorem zeros_length (z : Value) (n : Nat) : (zeros z n).length = n * (vcells z).length := by
  induction n with
  | zero => simp [zeros]
  | succ n ih => simp [zeros, ih, Nat.succ_mul, Nat.add_comm]
theorem zeros_getD (z : Value) (n i : Nat) (h : i < n * (vcells z).length) : (zeros z n).getD i undef = (vcells z).getD (i % (vcells z).length) undef := by
  induction n generalizing i with
  | zero => simp at h
  | succ n ih =>
    simp only [zeros, List.getD_eq_getElem?_getD]
    by_cases e : i < (vcells z).length
    · rw [List.getElem?_append_left e, Nat.mod_eq_of_lt e]
    · rw [List.getElem?_append_right (Nat.le_of_not_lt e)]
      have h' : i - (vcells z).length < n * (vcells z).length := by rw [Nat.succ_mul] at h; omega
      have := ih _ h'
      simp only [List.getD_eq_getElem?_getD] at this
      rw [this]
      congr 2
      have : i = (i - (vcells z).length) + (vcells z).length := by omega
      conv => rhs; rw [this]
      simp
theorem zeros_arr (z : Value) (n : Nat) (hz : 0 < z.cells.size) : LRel μ (zeros z n) (zeros z n) → LRel μ (zeros z n) ((Array.range (n * z.cells.size)).map (fun x => z.cells[x % z.cells.size]!)).toList := by
  intro h
  have e : (vcells z).length = z.cells.size := by simp [vcells]
  refine ⟨by rw [zeros_length, e]; simp, fun i hi => ?_⟩
  have h2 := h.2 i hi
  rw [zeros_length, e] at hi
  have hlt : i % z.cells.size < z.cells.size := Nat.mod_lt _ hz
  have e2 : ((Array.range (n * z.cells.size)).map (fun x => z.cells[x % z.cells.size]!)).toList.getD i undef = (zeros z n).getD i undef := by
    rw [zeros_getD z n i (by rw [e]; exact hi), e]
    simp [List.getD_eq_getElem?_getD, hi, vcells, hlt]
  rw [e2]
  exact h2
theorem zeros_flat {z : Value} (h : z.cells.toList.all (flat 0) = true) (n : Nat) : (zeros z n).all (flat 0) = true := by
  induction n with
  | zero => rfl
  | succ n ih => simp only [zeros, List.all_append, Bool.and_eq_true]; exact ⟨h, ih⟩

def aBuildSlice (T : Tb) (t : TypeId) (len : Nat) (parts : List (Nat × Value)) (H : AHeap) : Option (Value × AHeap) :=
  match T.und t with
  | some (.slice e) =>
    match T.info e, zeroT T e with
    | some i, some z =>
      if 0 < i.size ∧ len * i.size ≤ 16777216 then
        (afill (fun k => some (k * i.size, i.size)) (zeros z len) parts).bind fun cs => (aNew cs i.size H).map fun r => (.slice (some ⟨H.next, 0, none⟩) len len, r.2)
      else none
    | _, _ => none
  | _ => none

theorem aBuildSlice_ok (hT : TbOK P T) (hR : Rel G μ H w) {t : TypeId} {len : Nat} {parts : List (Nat × Value)} {parts' : Array (Nat × Value)} {r : Value × AHeap} (hp : PRel μ parts parts'.toList)
    (h : aBuildSlice T t len parts H = some r) : Snd P G μ H w (Instr.buildSlice t len parts') r := by
  unfold aBuildSlice at h
  split at h
  · rename_i e hu
    split at h
    · rename_i inf z hi hz
      split at h
      · rename_i hc
        obtain ⟨cs, hcs, h⟩ := Option.bind_eq_some_iff.1 h
        obtain ⟨q, hq, rfl⟩ := Option.map_eq_some_iff.1 h
        have hzz : ∃ i, T.info e = some i ∧ i.zero = some z := by
          unfold zeroT at hz; exact Option.bind_eq_some_iff.1 hz
        obtain ⟨i2, hi2, hz2⟩ := hzz
        obtain rfl : i2 = inf := by rw [hi2] at hi; injection hi
        obtain ⟨f1, f2, f3⟩ := hT.zero e i2 z hi2 hz2
        have hza := zeros_arr (μ := μ) z len (by omega) (LRel.flat (zeros_flat f1 len))
        obtain ⟨out', k1, k2⟩ := afill_ok hp hza hcs
        obtain ⟨w', μ', h1, h2, h3, h4, h5⟩ := aNew_ok (P := P) (e := e) (gs := i2.size) hR k2 hq
        have hlen : len < grow := by
          have := Nat.le_mul_of_pos_right len hc.1
          unfold grow; omega
        refine ⟨.slice (some ⟨w.heap.size, 0, none⟩) len len, w', μ', ?_, ?_, h3, h4⟩
        · have h1' : (newRow e out').run P w = .ok ⟨w.heap.size, 0, none⟩ w' := by simpa using h1
          have hbig : ¬ (len * i2.size > 2 ^ 24) := by omega
          have k1' : Instr.fill (fun k => some (k * i2.size, i2.size)) (Array.map (fun x => z.cells[x % z.cells.size]!) (Array.range (len * i2.size))) parts'.toList = some out' := by
            rw [← k1, f2]
          by_cases h0 : len * i2.size = 0
          · have e0 : len = 0 := by
              rcases Nat.mul_eq_zero.1 h0 with h | h
              · exact h
              · omega
            subst e0
            simp only [Nat.zero_mul] at k1'
            have k2' : Instr.fill (fun k => some (k * i2.size, i2.size)) #[] parts'.toList = some out' := by
              have e0 : Array.map (fun x => z.cells[x % z.cells.size]!) (Array.range 0) = #[] := Array.eq_empty_of_size_eq_zero (by simp)
              rwa [e0] at k1'
            have r0 : Array.range 0 = #[] := Array.eq_empty_of_size_eq_zero (by simp)
            simp [r0, Instr.buildSlice, run_und hT hu, run_size hT hi, k2', h1']
          · simp [Instr.buildSlice, run_und hT hu, run_size hT hi, zero_run hT hz, h0, hbig, k1', h1']
        · rw [h5]
          have := VRel.slice (μ := μ.upd H.next ⟨w.heap.size, 0, out'.toList.length, i2.size⟩) (o := 0) (l := len) (c := len) (c' := len) (Mu.upd_same H.next _) ⟨Nat.le_refl _, hlen, .inl ⟨hlen, rfl⟩⟩
          simpa using this
      · cases h
    · cases h
  · cases h

/-! ### Addresses -/
def aFieldAddr (T : Tb) (s : TypeId) (x : Value) (f : Nat) : Option Value :=
  match T.und s, x with
  | some (.struct fs), .pointer (some a) =>
    match fs.toList[f]? with
    | some fd =>
      match T.info fd.type with
      | some i => if 0 < i.size then some (.pointer (some ⟨a.block, a.off + fd.offset, none⟩)) else none
      | none => none
    | none => none
  | _, _ => none

theorem aFieldAddr_ok (hT : TbOK P T) (hR : Rel G μ H w) {s : TypeId} {x x' v : Value} {f : Nat} (hx : VRel μ x x') (h : aFieldAddr T s x f = some v) : Snd P G μ H w (Instr.fieldAt s x' f) (v, H) := by
  unfold aFieldAddr at h
  split at h
  · rename_i fs a hu
    obtain ⟨i, o, p, rfl, hp, rfl⟩ := ptr_inv hx
    split at h
    · rename_i fd hf
      split at h
      · rename_i inf hi
        split at h
        · rename_i hpos
          injection h with h
          subst h
          have hf' : fs[f]? = some fd := by simpa using hf
          refine Snd.same hR (v' := .pointer (some ⟨p.b, p.s + o + fd.offset, none⟩)) ?_ (by rw [Nat.add_assoc]; exact .ptr hp)
          simp [Instr.fieldAt, run_und hT hu, hf', Instr.sureAddr, fieldPlace, run_size hT hi, show inf.size ≠ 0 by omega, add_spot]
        · cases h
      · cases h
    · cases h
  · cases h

def aIndexAddr (T : Tb) (t : TypeId) (x ix : Value) : Option Value :=
  match T.und t, x, ix with
  | some (.array len e), .pointer (some a), .int _ i =>
    match T.info e with
    | some inf => if 0 ≤ i ∧ i < len then some (.pointer (some ⟨a.block, a.off + i.toNat * inf.size, none⟩)) else none
    | none => none
  | some (.slice e), .slice (some a) len _, .int _ i =>
    match T.info e with
    | some inf => if 0 ≤ i ∧ i < len then some (.pointer (some ⟨a.block, a.off + i.toNat * inf.size, none⟩)) else none
    | none => none
  | _, _, _ => none

theorem aIndexAddr_ok (hT : TbOK P T) (hR : Rel G μ H w) {t : TypeId} {x x' ix ix' v : Value} (hx : VRel μ x x') (hix : VRel μ ix ix') (h : aIndexAddr T t x ix = some v) :
    Snd P G μ H w (Instr.indexAt t x' ix') (v, H) := by
  unfold aIndexAddr at h
  split at h
  · rename_i len e a k n hu
    obtain ⟨i, o, p, rfl, hp, rfl⟩ := ptr_inv hx
    cases hix
    split at h
    · rename_i inf hi
      split at h
      · rename_i hb
        injection h with h
        subst h
        refine Snd.same hR (v' := .pointer (some ⟨p.b, p.s + o + n.toNat * inf.size, none⟩)) ?_ (by rw [Nat.add_assoc]; exact .ptr hp)
        simp [Instr.indexAt, run_und hT hu, Instr.sureAddr, asIntOf, run_size hT hi, hb, add_spot]
      · cases h
    · cases h
  · rename_i e a len c k n hu
    cases hix
    split at h
    · rename_i inf hi
      split at h
      · rename_i hb
        injection h with h
        subst h
        cases hx with
        | @slice i o l c c' p hp hc =>
          refine Snd.same hR (v' := .pointer (some ⟨p.b, p.s + o + n.toNat * inf.size, none⟩)) ?_ (by rw [Nat.add_assoc]; exact .ptr hp)
          simp [Instr.indexAt, run_und hT hu, asIntOf, run_size hT hi, hb, add_spot]
        | empty => omega
      · cases h
    · cases h
  · cases h

end
end Go.Eng
set_option linter.unusedVariables false
set_option linter.unusedSimpArgs false
namespace Go.Eng
open Go
section
variable {P : Program} {G : Nat} {μ : Mu} {H : AHeap} {w : World} {T : Tb}

/-! ### Parts of a value -/
def aPart (T : Tb) (t : TypeId) (cs : List Value) (off : Nat) : Option Value :=
  match T.und t, T.info t with
  | some d, some i => if isAg d then (if off + i.size ≤ cs.length then some (.agg ((cs.drop off).take i.size).toArray) else none) else cs[off]?
  | _, _ => none
theorem aPart_ok (hT : TbOK P T) {t : TypeId} {cs : List Value} {cs' : Array Value} {off : Nat} {v : Value} (hl : LRel μ cs cs'.toList) (h : aPart T t cs off = some v) :
    ∃ v', (part t cs' off).run P w = .ok v' w ∧ VRel μ v v' := by
  unfold aPart at h
  split at h
  · rename_i d i hd hi
    cases hag : isAg d with
    | true =>
      simp only [hag, if_true] at h
      split at h
      · injection h with h
        subst h
        have hr := (hl.drop off).take i.size
        refine ⟨.agg ((cs'.toList.drop off).take i.size).toArray, ?_, VRel.agg hr.arr.1 hr.arr.2⟩
        have : cs'.extract off (off + i.size) = ((cs'.toList.drop off).take i.size).toArray := by
          apply Array.ext'
          simp [List.extract_eq_take_drop]
        simp [part, run_isAg hT hd, hag, run_size hT hi, this]
      · cases h
    | false =>
      simp only [hag, Bool.false_eq_true, if_false] at h
      have hlt : off < cs.length := (List.getElem?_eq_some_iff.1 h).1
      have hr := hl.2 off hlt
      have e1 : cs.getD off undef = v := by rw [List.getD_eq_getElem?_getD, h]; rfl
      have e2 : cs'[off]? = some (cs'.toList.getD off undef) := by
        rw [← lgetD_some (by rw [← hl.1]; exact hlt)]; simp
      rw [e1] at hr
      generalize cs'.toList.getD off undef = u at *
      refine ⟨u, ?_, hr⟩
      simp [part, run_isAg hT hd, hag, e2]
  · cases h

def aField (T : Tb) (t : TypeId) (x : Value) (f : Nat) : Option Value :=
  match T.und t, x with
  | some (.struct fs), .agg cs => (fs.toList[f]?).bind fun fd => aPart T fd.type cs.toList fd.offset
  | _, _ => none
theorem aField_ok (hT : TbOK P T) (hR : Rel G μ H w) {t : TypeId} {x x' v : Value} {f : Nat} (hx : VRel μ x x') (h : aField T t x f = some v) : Snd P G μ H w (Instr.field t x' f) (v, H) := by
  unfold aField at h
  split at h
  · rename_i fs cs hu
    obtain ⟨fd, hf, h⟩ := Option.bind_eq_some_iff.1 h
    cases hx with
    | @agg _ c' h1 h2 =>
      obtain ⟨v', k1, k2⟩ := aPart_ok (w := w) hT (ARel.list ⟨h1, h2⟩) h
      have hf' : fs[f]? = some fd := by simpa using hf
      refine Snd.same hR ?_ k2
      simp [Instr.field, run_und hT hu, hf', asAgg, k1]
  · cases h

def aIndex (T : Tb) (t : TypeId) (x ix : Value) : Option Value :=
  match T.und t, x, ix with
  | some (.array len e), .agg cs, .int _ i =>
    match T.info e with
    | some inf => if 0 ≤ i ∧ i < len then aPart T e cs.toList (i.toNat * inf.size) else none
    | none => none
  | some .string, .string s, .int _ i => if 0 ≤ i then (s.data.toList[i.toNat]?).map fun b => .int .u8 b.toNat else none
  | _, _, _ => none
theorem ba_get (s : ByteArray) (i : Nat) : s[i]? = s.data.toList[i]? := by
  simp only [Array.getElem?_toList]
  by_cases h : i < s.size
  · rw [getElem?_pos s i h, getElem?_pos s.data i h]; rfl
  · rw [getElem?_neg s i h, getElem?_neg s.data i h]
theorem aIndex_ok (hT : TbOK P T) (hR : Rel G μ H w) {t : TypeId} {x x' ix ix' v : Value} (hx : VRel μ x x') (hix : VRel μ ix ix') (h : aIndex T t x ix = some v) :
    Snd P G μ H w (Instr.index t x' ix') (v, H) := by
  unfold aIndex at h
  split at h
  · rename_i len e cs k i hu
    cases hix
    split at h
    · rename_i inf hi
      split at h
      · rename_i hb
        cases hx with
        | @agg _ c' h1 h2 =>
          obtain ⟨v', k1, k2⟩ := aPart_ok (w := w) hT (ARel.list ⟨h1, h2⟩) h
          refine Snd.same hR ?_ k2
          simp [Instr.index, run_und hT hu, asIntOf, hb, run_size hT hi, k1]
      · cases h
    · cases h
  · rename_i s k i hu
    cases hix
    cases hx
    split at h
    · rename_i h0
      obtain ⟨b, hb, rfl⟩ := Option.map_eq_some_iff.1 h
      refine Snd.same hR ?_ (.int _ _)
      simp only [Instr.index, asIntOf, pure_bind, Sem.run_bind, run_und hT hu, Result.andThen_ok, Sem.run_pure]
      rw [if_pos h0, ba_get, hb]
      rfl
    · cases h
  · cases h

def aExtract (x : Value) (i : Nat) : Option Value :=
  match x with
  | .tuple vs => vs.toList[i]?
  | _ => none
theorem aExtract_ok (hR : Rel G μ H w) {x x' v : Value} {i : Nat} (hx : VRel μ x x') (h : aExtract x i = some v) : Snd P G μ H w (Instr.extract x' i) (v, H) := by
  unfold aExtract at h
  split at h
  · rename_i vs
    cases hx with
    | @tuple _ c' h1 h2 =>
      have hlt : i < vs.toList.length := (List.getElem?_eq_some_iff.1 h).1
      have hr := h2 i (by simpa using hlt)
      have e1 : vs.getD i undef = v := by rw [← agetD_toList, List.getD_eq_getElem?_getD, h]; rfl
      have e2 : c'[i]? = some (c'.getD i undef) := getD_some (by rw [← h1]; simpa using hlt)
      rw [e1] at hr
      generalize c'.getD i undef = u at *
      refine Snd.same hR (v' := u) ?_ hr
      simp [Instr.extract, e2]
  · cases h

/-! ### Slices -/
/-- A bound: given, or left out. -/
def bnd (v : Option Value) (dflt y : Nat) : Option Nat :=
  match v with
  | none => some dflt
  | some (.int _ i) => if 0 ≤ i ∧ i ≤ y then some i.toNat else none
  | _ => none
inductive ORel (μ : Mu) : Option Value → Option Value → Prop
  | none : ORel μ none none
  | some {v v' : Value} : VRel μ v v' → ORel μ (some v) (some v')

theorem bound_run {v v' : Value} {y y' n : Nat} {code : BoundsCode} (hv : VRel μ v v') (hy : y ≤ y') {d : Nat} (h : bnd (some v) d y = some n) : (Instr.sliceBound v' y' code).run P w = .ok n w ∧ n ≤ y := by
  unfold bnd at h
  split at h
  · rename_i e; cases e
  · rename_i k i e
    injection e with e
    subst e
    cases hv
    split at h
    · rename_i hb
      injection h with h
      subst h
      exact ⟨by simp [Instr.sliceBound, asIntOf, show (0 ≤ i ∧ i ≤ (y' : Int)) by omega], by omega⟩
    · cases h
  · cases h

/-- The three bounds, where no third one is given: 'c' at least may be reached. -/
theorem bounds_run {lo lo' hi hi' : Option Value} {isS : Bool} {len c c' l hh : Nat} (h1 : ORel μ lo lo') (h2 : ORel μ hi hi') (hc : c ≤ c') (hlen : len ≤ c)
    (hh2 : bnd hi len c = some hh) (hl : bnd lo 0 hh = some l) : (Instr.sliceBounds isS len c' lo' hi' none).run P w = .ok (l, hh, c') w ∧ l ≤ hh ∧ hh ≤ c := by
  have b : hh ≤ c ∧ ∀ code, (match hi' with | some v => Instr.sliceBound v c' code | none => pure len : Sem Nat).run P w = .ok hh w := by
    cases h2 with
    | none => injection hh2 with hh2; subst hh2; exact ⟨hlen, fun _ => rfl⟩
    | some hv => exact ⟨(bound_run (P := P) (w := w) (code := .index) hv hc hh2).2, fun code => (bound_run hv hc hh2).1⟩
  have d : l ≤ hh ∧ (match lo' with | some v => Instr.sliceBound v hh .sliceB | none => pure 0 : Sem Nat).run P w = .ok l w := by
    cases h1 with
    | none => injection hl with hl; subst hl; exact ⟨Nat.zero_le _, rfl⟩
    | some hv => exact ⟨(bound_run (P := P) (w := w) (code := .index) hv (Nat.le_refl _) hl).2, (bound_run hv (Nat.le_refl _) hl).1⟩
  refine ⟨?_, d.1, b.1⟩
  have d2 := d.2
  unfold Instr.sliceBounds
  cases h2 with
  | none =>
    have := b.2 .index
    cases h1 with
    | none => simp at this d2; simp [this, d2]
    | some hv => simp at this d2; simp [this, d2]
  | some hv2 =>
    have := b.2 (if isS then .sliceAcap else .sliceAlen)
    cases h1 with
    | none => simp at this d2; simp [this, d2]
    | some hv => simp at this d2; simp [this, d2]

def gsOf (H : AHeap) (i : Nat) : Option Nat := match H.get i with | some (.cells _ _ _ gs) => some gs | _ => none

def aSlice (T : Tb) (t : TypeId) (x : Value) (lo hi mx : Option Value) (H : AHeap) : Option Value :=
  match mx with
  | some _ => none
  | none =>
  match T.und t, x with
  | some (.array n e), .pointer (some a) =>
    match T.info e, bnd hi n n with
    | some inf, some h => if n < grow then (bnd lo 0 h).map fun l => .slice (some (if n = l then a else ⟨a.block, a.off + l * inf.size, none⟩)) (h - l) (n - l) else none
    | _, _ => none
  | some .string, .string s => (bnd hi s.size s.size).bind fun h => (bnd lo 0 h).map fun l => .string (s.extract l h)
  | some (.slice e), .slice none 0 0 => (T.info e).bind fun _ => (bnd hi 0 0).bind fun h => (bnd lo 0 h).map fun _ => .slice none 0 0
  | some (.slice e), .slice (some a) len c =>
    match T.info e with
    | some inf =>
      if c < grow then (if len ≤ c then (bnd hi len c).bind fun h => (bnd lo 0 h).map fun l => .slice (some (if c = l then a else ⟨a.block, a.off + l * inf.size, none⟩)) (h - l) (c - l) else none)
      else if c < empt then (if len ≤ c - grow ∧ gsOf H a.block = some inf.size then
          (bnd hi len (c - grow)).bind fun h => (bnd lo 0 h).map fun l => if l = c - grow then .slice (some a) 0 empt else .slice (some ⟨a.block, a.off + l * inf.size, none⟩) (h - l) (c - l) else none)
      else (bnd hi 0 0).bind fun h => (bnd lo 0 h).map fun _ => .slice (some a) 0 empt
    | none => none
  | _, _ => none

theorem aSlice_ok (hT : TbOK P T) (hR : Rel G μ H w) {t : TypeId} {x x' v : Value} {lo hi mx lo' hi' mx' : Option Value} (hx : VRel μ x x') (h1 : ORel μ lo lo') (h2 : ORel μ hi hi') (h3 : ORel μ mx mx')
    (h : aSlice T t x lo hi mx H = some v) : Snd P G μ H w (Instr.sliceAt t x' lo' hi' mx') (v, H) := by
  cases h3 with
  | some _ => cases h
  | none =>
  unfold aSlice at h
  simp only at h
  split at h
  · rename_i n e a hu
    obtain ⟨i, o, p, rfl, hp, rfl⟩ := ptr_inv hx
    split at h
    · rename_i inf hh hi' hb
      split at h
      · rename_i hn
        obtain ⟨l, hl, rfl⟩ := Option.map_eq_some_iff.1 h
        obtain ⟨k1, k2, k3⟩ := bounds_run (P := P) (w := w) (isS := false) h1 h2 (Nat.le_refl n) (Nat.le_refl n) hb hl
        have hcap : CapRel (hh - l) (n - l) (n - l) (if n = l then o else o + l * inf.size) p := ⟨by omega, by omega, .inl ⟨by omega, rfl⟩⟩
        have hv := VRel.slice hp hcap
        refine Snd.same hR (v' := .slice (some ⟨p.b, p.s + (if n = l then o else o + l * inf.size), none⟩) (hh - l) (n - l)) ?_ ?_
        · simp only [Instr.sliceAt, Sem.run_bind, run_und hT hu, Result.andThen_ok, Instr.sureAddr, pure_bind, k1, run_size hT hi', Sem.run_pure]
          by_cases e1 : n = l
          · simp [e1]
          · simp [e1, add_spot, Nat.add_assoc]
        · by_cases e1 : n = l
          · simpa [e1] using hv
          · simpa [e1] using hv
      · cases h
    · cases h
  · rename_i s hu
    cases hx
    obtain ⟨hh, hb, h⟩ := Option.bind_eq_some_iff.1 h
    obtain ⟨l, hl, rfl⟩ := Option.map_eq_some_iff.1 h
    obtain ⟨k1, k2, k3⟩ := bounds_run (P := P) (w := w) (isS := false) h1 h2 (Nat.le_refl _) (Nat.le_refl _) hb hl
    refine Snd.same hR (v' := .string (s.extract l hh)) ?_ (.string _)
    simp [Instr.sliceAt, run_und hT hu, Instr.slice, k1]
  · rename_i e hu
    cases hx
    obtain ⟨inf, hie, h⟩ := Option.bind_eq_some_iff.1 h
    obtain ⟨hh, hb, h⟩ := Option.bind_eq_some_iff.1 h
    obtain ⟨l, hl, rfl⟩ := Option.map_eq_some_iff.1 h
    obtain ⟨k1, k2, k3⟩ := bounds_run (P := P) (w := w) (isS := true) h1 h2 (Nat.le_refl 0) (Nat.le_refl 0) hb hl
    obtain rfl : hh = 0 := by omega
    obtain rfl : l = 0 := by omega
    refine Snd.same hR (v' := .slice none 0 0) ?_ .sliceNil
    simp [Instr.sliceAt, run_und hT hu, Instr.slice, k1, run_size hT hie]
  · rename_i e a len c hu
    split at h
    · rename_i inf hie
      split at h
      · rename_i hc
        split at h
        · rename_i hlc
          obtain ⟨hh, hb, h⟩ := Option.bind_eq_some_iff.1 h
          obtain ⟨l, hl, rfl⟩ := Option.map_eq_some_iff.1 h
          cases hx with
          | @slice i o _ _ c' p hp hcap =>
            have hcc : c' = c := by rcases hcap.2.2 with h | h <;> (unfold grow at *; omega)
            subst hcc
            obtain ⟨k1, k2, k3⟩ := bounds_run (P := P) (w := w) (isS := true) h1 h2 (Nat.le_refl c') hlc hb hl
            have hcap' : CapRel (hh - l) (c' - l) (c' - l) (if c' = l then o else o + l * inf.size) p := ⟨by omega, by omega, .inl ⟨by omega, rfl⟩⟩
            have hv := VRel.slice hp hcap'
            refine Snd.same hR (v' := .slice (some ⟨p.b, p.s + (if c' = l then o else o + l * inf.size), none⟩) (hh - l) (c' - l)) ?_ ?_
            · by_cases e1 : c' = l
              · subst e1; simp [Instr.sliceAt, run_und hT hu, Instr.slice, k1, run_size hT hie]
              · simp [Instr.sliceAt, run_und hT hu, Instr.slice, k1, run_size hT hie, e1, add_spot, Nat.add_assoc]
            · by_cases e1 : c' = l
              · simpa [e1] using hv
              · simpa [e1] using hv
          | empty => exact absurd hc (by decide)
        · cases h
      · rename_i hc
        split at h
        · rename_i hce
          split at h
          · rename_i hlc
            obtain ⟨hh, hb, h⟩ := Option.bind_eq_some_iff.1 h
            obtain ⟨l, hl, rfl⟩ := Option.map_eq_some_iff.1 h
            cases hx with
            | @slice i o _ _ c' p hp hcap =>
              have hk : c - grow ≤ c' ∧ p.s + o + c' * p.es ≤ p.sz := by rcases hcap.2.2 with h | h <;> (unfold grow empt at *; omega)
              obtain ⟨k1, k2, k3⟩ := bounds_run (P := P) (w := w) (isS := true) h1 h2 hk.1 hlc.1 hb hl
              have hes : p.es = inf.size := by
                have := hlc.2
                simp only [gsOf] at this
                split at this
                · rename_i cs ro par gs hg
                  obtain ⟨_, _, _, _, _, _, h3, _⟩ := hR.cells hg hp
                  injection this with this
                  omega
                · cases this
              by_cases e0 : l = c - grow
              · rw [if_pos e0]
                obtain rfl : hh = l := by omega
                by_cases e1 : c' = hh
                · subst e1
                  refine Snd.same hR (v' := .slice (some ⟨p.b, p.s + o, none⟩) 0 0) ?_ (.empty (by decide))
                  simp [Instr.sliceAt, run_und hT hu, Instr.slice, k1, run_size hT hie]
                · refine Snd.same hR (v' := .slice (some ⟨p.b, p.s + o + hh * inf.size, none⟩) 0 (c' - hh)) ?_ (.empty (by have := hcap.2.1; omega))
                  simp [Instr.sliceAt, run_und hT hu, Instr.slice, k1, run_size hT hie, e1, add_spot]
              · rw [if_neg e0]
                have e1 : c' ≠ l := by omega
                have hmul : (c' - l) * p.es + l * p.es = c' * p.es := by rw [← Nat.add_mul]; congr 1; omega
                have hcap' : CapRel (hh - l) (c - l) (c' - l) (o + l * inf.size) p := ⟨by omega, by have := hcap.2.1; omega, .inr ⟨by omega, by omega, by omega, by
                  rw [← hes]; omega⟩⟩
                refine Snd.same hR (v' := .slice (some ⟨p.b, p.s + o + l * inf.size, none⟩) (hh - l) (c' - l)) ?_ (by rw [Nat.add_assoc]; exact VRel.slice hp hcap')
                simp [Instr.sliceAt, run_und hT hu, Instr.slice, k1, run_size hT hie, e1, add_spot]
            | empty => exact absurd hce (by decide)
          · cases h
        · rename_i hce
          obtain ⟨hh, hb, h⟩ := Option.bind_eq_some_iff.1 h
          obtain ⟨l, hl, rfl⟩ := Option.map_eq_some_iff.1 h
          cases hx with
          | slice hp hcap => rcases hcap.2.2 with h | h <;> (unfold grow empt at *; omega)
          | @empty _ a' c' hc' =>
            obtain ⟨k1, k2, k3⟩ := bounds_run (P := P) (w := w) (isS := true) h1 h2 (Nat.zero_le c') (Nat.le_refl 0) hb hl
            obtain rfl : hh = 0 := by omega
            obtain rfl : l = 0 := by omega
            refine Snd.same hR (v' := .slice (some a') 0 c') ?_ (.empty hc')
            by_cases e1 : c' = 0
            · subst e1; simp [Instr.sliceAt, run_und hT hu, Instr.slice, k1, run_size hT hie]
            · simp [Instr.sliceAt, run_und hT hu, Instr.slice, k1, run_size hT hie, e1, Addr.add]
    · cases h
  · cases h

end
end Go.Eng
set_option linter.unusedVariables false
set_option linter.unusedSimpArgs false
namespace Go.Eng
open Go
section
variable {P : Program} {G : Nat} {μ : Mu} {H : AHeap} {w : World} {T : Tb}

/-- A row that has grown in place: the old name is shut, a new one lies on the same block. -/
theorem Rel.grown {i o : Nat} {cs xs xs' : List Value} {par : List Nat} {gs : Nat} {p : Pl} {m : Nat} (h : Rel G μ H w) (hi : H.get i = some (.cells cs false par gs)) (hp : μ i = some p) (ho : o ≤ cs.length)
    (hx : LRel μ xs xs') (h1 : xs.all one = true) (hroom : p.s + cs.length + xs.length ≤ p.sz) :
    ∃ w', (storeCells ⟨p.b, p.s + cs.length, none⟩ xs').run P w = .ok () w' ∧
      Rel G (μ.upd H.next ⟨p.b, p.s + o, p.sz, gs⟩) ((H.set i (.cells cs true par gs)).new (.cells (cs.drop o ++ xs) false (i :: par) gs)) w' ∧
      Tn μ H w (μ.upd H.next ⟨p.b, p.s + o, p.sz, gs⟩) ((H.set i (.cells cs true par gs)).new (.cells (cs.drop o ++ xs) false (i :: par) gs)) w' := by
  obtain ⟨c, e, lo, hi', hb, a1, a2, a3, a4, a5, a6, a7⟩ := h.cells hi hp
  have hlen : xs'.length = xs.length := hx.1.symm
  obtain ⟨c', k1, k2, k3, k4, k5, k6, k7, k8⟩ := setCells_heap p.b xs' (p.s + cs.length) w c e (lo, hi') hb (by omega)
  have hfr : ∀ j, j < xs'.length → w.frozen? ⟨p.b, p.s + cs.length + 0 + j, none⟩ = false := by
    intro j hj
    have := a6 rfl (p.s + cs.length + j) (by omega) (by omega)
    simp [World.frozen?, hb]
    omega
  have hcl : ∀ j, j < xs'.length → (w.cell? ⟨p.b, p.s + cs.length + 0 + j, none⟩).isSome = true := by
    intro j hj
    rw [cell_get hb, getD_some (by omega)]
    rfl
  have hrun : (storeCells ⟨p.b, p.s + cs.length, none⟩ xs').run P w = .ok () (w.setCells p.b (p.s + cs.length) xs') := by
    have := run_storeCells_cells (P := P) p.b (p.s + cs.length) xs' 0 w hcl hfr (hx.one h1)
    simpa using this
  have hilt := h.fin i p hp
  have le := Mu.le_upd h ⟨p.b, p.s + o, p.sz, gs⟩
  have hs := (h.shut hi).1
  have ht := (h.shut hi).2
  -- who lies on the same block
  have same : ∀ j oj pj, j ≠ i → H.get j = some oj → μ j = some pj → pj.b = p.b → j ∈ par := by
    intro j oj pj hj hg hpj e
    rcases h.sep j i oj _ pj p hj hg hi hpj hp e with hh | hh
    · exact hh
    · have := h.ro i j _ oj hi hg hh
      simp [AObj.alive] at this
  have get' : ∀ j oj, ((H.set i (.cells cs true par gs)).new (.cells (cs.drop o ++ xs) false (i :: par) gs)).get j = some oj →
      (j = H.next ∧ oj = .cells (cs.drop o ++ xs) false (i :: par) gs) ∨ (j < H.next ∧ (H.set i (.cells cs true par gs)).get j = some oj) := by
    intro j oj hg
    rw [AHeap.get_new] at hg
    split at hg
    · rename_i e; injection hg with hg; exact .inl ⟨e, hg.symm⟩
    · obtain ⟨pj, xj, hpj, _, _⟩ := hs.dom j oj hg
      exact .inr ⟨h.fin j pj hpj, hg⟩
  have mu' : ∀ j pj, j < H.next → (μ.upd H.next ⟨p.b, p.s + o, p.sz, gs⟩) j = some pj → μ j = some pj := by
    intro j pj hj e
    simpa [Mu.upd, show j ≠ H.next by omega] using e
  -- what the old objects read in the new world
  have keep : ∀ j oj pj xj, (H.set i (.cells cs true par gs)).get j = some oj → μ j = some pj → w.heap[pj.b]? = some xj → ObjRel μ oj xj pj →
      ∃ xj', (w.setCells p.b (p.s + cs.length) xs').heap[pj.b]? = some xj' ∧ ObjRel μ oj xj' pj := by
    intro j oj pj xj hg hpj hxj hoj
    by_cases eb : pj.b = p.b
    · have hend : pj.s + oj.len ≤ p.s + cs.length ∧ oj.alive = false := by
        by_cases ej : j = i
        · subst ej
          rw [AHeap.get_set _ _ _ _ (AHeap.get_lt hi), if_pos rfl] at hg
          injection hg with hg
          subst hg
          rw [hp] at hpj
          injection hpj with hpj
          subst hpj
          exact ⟨Nat.le_refl _, rfl⟩
        · rw [AHeap.get_set _ _ _ _ (AHeap.get_lt hi), if_neg ej] at hg
          have hm := same j oj pj ej hg hpj eb
          exact ⟨h.pend j i oj _ pj p hg hi hm hpj hp eb, h.ro j i oj _ hg hi hm⟩
      rw [eb] at hxj ⊢
      rw [hb] at hxj
      injection hxj with hxj
      subst hxj
      refine ⟨_, k3, ?_⟩
      cases hoj with
      | cells b1 b2 b3 b4 b5 b6 b7 =>
        simp only [AObj.len, AObj.alive, Bool.not_eq_false'] at hend
        refine .cells (by omega) b2 (by omega) (fun x hx => ?_) b5 (fun e => by rw [hend.2] at e; cases e) b7
        rw [k2, if_neg (by omega)]
        exact b4 x hx
    · exact ⟨xj, by rw [k4 _ eb]; exact hxj, hoj⟩
  refine ⟨_, hrun, ⟨?_, ?_, ?_, ?_, ?_, ?_, ?_, ?_⟩, ⟨fun _ _ k => h.lt k, le, fun j hj => by simp [Mu.upd, show j ≠ H.next by omega], by simp, ⟨k6, k7, k8, by rw [k5]; exact Nat.le_refl _, ?_⟩, ?_, ?_, ?_⟩, ?_, ?_⟩
  · intro j oj hg
    rcases get' j oj hg with ⟨rfl, rfl⟩ | ⟨hlt, hg'⟩
    · refine ⟨_, _, Mu.upd_same _ _, k3, .cells (by simp; omega) rfl (by simp; omega) (fun x hx' => ?_) (fun x hx' => ?_) (fun _ x x1 x2 => a6 rfl x (by simp at x1; omega) (by omega)) a7⟩
      · refine VRel.mono le ?_
        simp only [List.length_append, List.length_drop] at hx'
        simp only
        rw [k2]
        by_cases e1 : x < cs.length - o
        · rw [if_neg (by omega)]
          have := a4 (o + x) (by omega)
          have e2 : (cs.drop o ++ xs).getD x undef = cs.getD (o + x) undef := by
            simp [List.getD_eq_getElem?_getD, List.getElem?_append_left (show x < (cs.drop o).length by simp; omega)]
          rw [e2, show p.s + o + x = p.s + (o + x) by omega]
          exact this
        · rw [if_pos (by omega)]
          have := hx.2 (x - (cs.length - o)) (by omega)
          have e2 : (cs.drop o ++ xs).getD x undef = xs.getD (x - (cs.length - o)) undef := by
            simp [List.getD_eq_getElem?_getD, List.getElem?_append_right (show (cs.drop o).length ≤ x by simp; omega)]
          rw [e2, show p.s + o + x - (p.s + cs.length) = x - (cs.length - o) by omega]
          exact this
      · simp only [List.mem_append] at hx'
        rcases hx' with hx' | hx'
        · exact a5 x (List.mem_of_mem_drop hx')
        · exact List.all_eq_true.1 h1 x hx'
    · obtain ⟨pj, xj, a, b, c⟩ := hs.dom j oj hg'
      obtain ⟨xj', q1, q2⟩ := keep j oj pj xj hg' a b c
      exact ⟨pj, xj', le _ _ a, q1, q2.mono le⟩
  · intro j pj hj
    simp only [Mu.upd] at hj
    split at hj
    · simp; omega
    · have := h.fin j pj hj; simp; omega
  · have := h.base; simp; omega
  · intro g hg
    obtain ⟨q, a, b, c⟩ := h.glob g hg
    exact ⟨q, le _ _ a, b, c⟩
  · intro j k oj ok pj pk hjk hgj hgk hpj hpk e
    rcases get' j oj hgj with ⟨rfl, rfl⟩ | ⟨b1, b2⟩
    · rcases get' k ok hgk with ⟨rfl, rfl⟩ | ⟨c1, c2⟩
      · exact absurd rfl hjk
      · rw [Mu.upd_same] at hpj
        injection hpj with hpj
        subst hpj
        have hpk' := mu' k pk c1 hpk
        right
        by_cases ek : k = i
        · subst ek; exact List.mem_cons_self ..
        · rw [AHeap.get_set _ _ _ _ (AHeap.get_lt hi), if_neg ek] at c2
          exact List.mem_cons_of_mem _ (same k ok pk ek c2 hpk' e.symm)
    · rcases get' k ok hgk with ⟨rfl, rfl⟩ | ⟨c1, c2⟩
      · rw [Mu.upd_same] at hpk
        injection hpk with hpk
        subst hpk
        have hpj' := mu' j pj b1 hpj
        left
        by_cases ek : j = i
        · subst ek; exact List.mem_cons_self ..
        · rw [AHeap.get_set _ _ _ _ (AHeap.get_lt hi), if_neg ek] at b2
          exact List.mem_cons_of_mem _ (same j oj pj ek b2 hpj' e)
      · exact hs.sep j k oj ok pj pk hjk b2 c2 (mu' j pj b1 hpj) (mu' k pk c1 hpk) e
  · intro j k oj ok hgj hgk hm
    rcases get' k ok hgk with ⟨rfl, rfl⟩ | ⟨c1, c2⟩
    · simp only [AObj.par, List.mem_cons] at hm
      rcases get' j oj hgj with ⟨rfl, rfl⟩ | ⟨b1, b2⟩
      · exfalso
        rcases hm with hm | hm
        · omega
        · obtain ⟨q, hq⟩ := h.plt i _ _ hi hm
          have := h.fin _ _ hq
          omega
      · by_cases ek : j = i
        · subst ek
          rw [AHeap.get_set _ _ _ _ (AHeap.get_lt hi), if_pos rfl] at b2
          injection b2 with b2
          subst b2
          rfl
        · rcases hm with hm | hm
          · exact absurd hm ek
          · rw [AHeap.get_set _ _ _ _ (AHeap.get_lt hi), if_neg ek] at b2
            exact h.ro j i oj _ b2 hi hm
    · rcases get' j oj hgj with ⟨rfl, rfl⟩ | ⟨b1, b2⟩
      · exfalso
        obtain ⟨q, hq⟩ := hs.plt k ok _ c2 hm
        have := h.fin _ _ hq
        omega
      · exact hs.ro j k oj ok b2 c2 hm
  · intro j oj k hgj hm
    rcases get' j oj hgj with ⟨rfl, rfl⟩ | ⟨b1, b2⟩
    · simp only [AObj.par, List.mem_cons] at hm
      rcases hm with rfl | hm
      · exact ⟨p, le _ _ hp⟩
      · obtain ⟨q, hq⟩ := h.plt i _ _ hi hm
        exact ⟨q, le _ _ hq⟩
    · obtain ⟨q, hq⟩ := hs.plt j oj k b2 hm
      exact ⟨q, le _ _ hq⟩
  · intro j k oj ok pj pk hgj hgk hm hpj hpk e
    rcases get' k ok hgk with ⟨rfl, rfl⟩ | ⟨c1, c2⟩
    · rcases get' j oj hgj with ⟨rfl, rfl⟩ | ⟨b1, b2⟩
      · simp only [AObj.par, List.mem_cons] at hm
        exfalso
        rcases hm with hm | hm
        · omega
        · obtain ⟨q, hq⟩ := h.plt i _ _ hi hm
          have := h.fin _ _ hq
          omega
      · rw [Mu.upd_same] at hpk
        injection hpk with hpk
        subst hpk
        have hpj' := mu' j pj b1 hpj
        have : pj.s + oj.len ≤ p.s + cs.length := by
          by_cases ek : j = i
          · subst ek
            rw [AHeap.get_set _ _ _ _ (AHeap.get_lt hi), if_pos rfl] at b2
            injection b2 with b2
            subst b2
            rw [hp] at hpj'
            injection hpj' with hpj'
            subst hpj'
            exact Nat.le_refl _
          · rw [AHeap.get_set _ _ _ _ (AHeap.get_lt hi), if_neg ek] at b2
            exact h.pend j i oj _ pj p b2 hi (same j oj pj ek b2 hpj' e) hpj' hp e
        have e3 : AObj.len (.cells (cs.drop o ++ xs) false (i :: par) gs) = cs.length - o + xs.length := by simp [AObj.len]
        rw [e3]
        show pj.s + oj.len ≤ p.s + o + _
        omega
    · rcases get' j oj hgj with ⟨rfl, rfl⟩ | ⟨b1, b2⟩
      · exfalso
        obtain ⟨q, hq⟩ := hs.plt k ok _ c2 hm
        have := h.fin _ _ hq
        omega
      · exact hs.pend j k oj ok pj pk b2 c2 hm (mu' j pj b1 hpj) (mu' k pk c1 hpk) e
  · intro k hk hn
    refine k4 k fun e => hn ⟨i, _, p, hi, rfl, hp, e.symm⟩
  · intro j oj pj hgj hpj hb'
    rcases get' j oj hgj with ⟨rfl, rfl⟩ | ⟨b1, b2⟩
    · rw [Mu.upd_same] at hpj
      injection hpj with hpj
      subst hpj
      exact .inl ⟨i, _, p, hi, rfl, hp, rfl⟩
    · have hpj' := mu' j pj b1 hpj
      exact ht.img j oj pj b2 hpj' hb'
  · intro j o0 o1 h0 hd h1'
    rcases get' j o1 h1' with ⟨rfl, rfl⟩ | ⟨b1, b2⟩
    · exact absurd (h.lt h0) (by omega)
    · exact ht.dead j o0 o1 h0 hd b2
  · intro j oj hlt hgj
    rcases get' j oj hgj with ⟨rfl, rfl⟩ | ⟨b1, b2⟩
    · omega
    · exact ht.dom j oj hlt b2
  · intro j oj k hgj hm hlt
    rcases get' j oj hgj with ⟨rfl, rfl⟩ | ⟨b1, b2⟩
    · simp only [AObj.par, List.mem_cons] at hm
      rcases hm with rfl | hm
      · exact .inl ⟨_, hi, rfl⟩
      · exact .inr (.inl ⟨i, _, hi, rfl, hm⟩)
    · exact ht.par j oj k b2 hm hlt
  · intro j oj hgj hd
    rcases ht.kept j oj hgj hd with h1 | h1
    · exact .inl h1
    · right
      rw [AHeap.get_new, if_neg]
      · exact h1
      · have := AHeap.get_lt h1; simp at this ⊢; omega

/-! ### append -/
/-- What is appended: how many elements, their cells. -/
def srcOf (H : AHeap) (size : Nat) (x : Value) : Option (Nat × List Value) :=
  match x with
  | .slice none _ _ => some (0, [])
  | .slice (some a) n c => if c = empt then (if n = 0 then some (0, []) else none) else (loadN H a (n * size)).map fun vs => (n, vs)
  | .string s => if size = 1 then some (s.size, s.data.toList.map fun b => .int .u8 b.toNat) else none
  | _ => none

theorem src_ok (hR : Rel G μ H w) {size : Nat} {x x' : Value} {n : Nat} {vs : List Value} (hx : VRel μ x x') (h : srcOf H size x = some (n, vs)) :
    ∃ vs', LRel μ vs vs' ∧ vs.length = n * size ∧ vs.all one = true ∧ (Builtin.lenOf x').run P w = .ok n w ∧ (∀ w1 : World, w1.heap = w.heap → (Builtin.firstCells size n x').run P w1 = .ok vs'.toArray w1) := by
  unfold srcOf at h
  split at h
  · rename_i n0 c0
    injection h with h
    injection h with h1 h2
    subst h1; subst h2
    cases hx
    exact ⟨[], LRel.nil, by simp, rfl, by simp [Builtin.lenOf], fun w1 _ => by simp [Builtin.firstCells]⟩
  · rename_i a n0 c0
    split at h
    · split at h
      · rename_i hc hn
        injection h with h
        injection h with h1 h2
        subst h1; subst h2
        subst hn
        cases hx with
        | slice hp hcap => exact ⟨[], LRel.nil, by simp, rfl, by simp [Builtin.lenOf], fun w1 _ => by simp [Builtin.firstCells, loadCells, loadCellsFrom]⟩
        | empty hc => exact ⟨[], LRel.nil, by simp, rfl, by simp [Builtin.lenOf], fun w1 _ => by simp [Builtin.firstCells, loadCells, loadCellsFrom]⟩
      · cases h
    · rename_i hc
      obtain ⟨vs0, hvs, h⟩ := Option.map_eq_some_iff.1 h
      injection h with h1 h2
      subst h1; subst h2
      cases hx with
      | slice hp hcap =>
        obtain ⟨vs', k1, k2, k3, k4, k5⟩ := load_cells (P := P) hR hp hvs
        exact ⟨vs', k1, k2, List.all_eq_true.2 k3, by simp [Builtin.lenOf], fun w1 e1 => by simp [Builtin.firstCells, k5 w1 e1]⟩
      | empty hc' => exact absurd rfl hc
  · rename_i s
    split at h
    · rename_i hs
      injection h with h
      injection h with h1 h2
      subst h1; subst h2; subst hs
      cases hx
      have hl : (s.data.toList.map fun b => Value.int .u8 b.toNat).all (flat 0) = true := List.all_eq_true.2 fun x hx => by
        obtain ⟨b, _, rfl⟩ := List.mem_map.1 hx
        rfl
      refine ⟨_, LRel.flat hl, ?_, all_one hl, by simp [Builtin.lenOf], ?_⟩
      · simp
      · intro w1 _
        have := Lib.run_firstCells_string (P := P) w1 1 s
        simpa [Lib.strCells] using this
    · cases h
  · cases h

def isInt : TypeDesc → Bool
  | .int _ => true
  | _ => false
/-- The whole of a slice's block, from the slice on; what else is known of the block. -/
def aAppend (T : Tb) (t xt : TypeId) (s x : Value) (H : AHeap) : Option (Value × AHeap) :=
  match T.und t, T.und xt with
  | some (.slice e), some d =>
    if isInt d then none else
    match T.info e, zeroT T e with
    | some i, some _ =>
      if i.size = 0 ∨ i.bytes = 0 then none else
      match srcOf H i.size x with
      | some (n, vs) =>
        match s with
        | .slice none 0 0 =>
          if n = 0 then some (s, H) else
          if n * i.bytes ≤ 140737488355328 then (aNew vs i.size H).map fun r => (.slice (some ⟨H.next, 0, none⟩) n (grow + n), r.2) else none
        | .slice (some a) l c =>
          if n = 0 then some (s, H) else
          if c < grow then
            if l + n ≤ c then (storeN H ⟨a.block, a.off + l * i.size, none⟩ vs).map fun H' => (.slice (some a) (l + n) c, H')
            else if (l + n) * i.bytes ≤ 140737488355328 then
              (loadN H a (l * i.size)).bind fun old => (aNew (old ++ vs) i.size H).map fun r => (.slice (some ⟨H.next, 0, none⟩) (l + n) (grow + (l + n)), r.2)
            else none
          else if c < empt then
            if l + n ≤ c - grow then (storeN H ⟨a.block, a.off + l * i.size, none⟩ vs).map fun H' => (.slice (some a) (l + n) c, H')
            else match H.get a.block with
              | some (.cells cs false par gs) =>
                if gs = i.size ∧ l = c - grow ∧ a.off + l * i.size = cs.length ∧ (l + n) * i.bytes ≤ 140737488355328 then
                  some (.slice (some ⟨H.next, 0, none⟩) (l + n) (grow + (l + n)), (H.set a.block (.cells cs true par gs)).new (.cells (cs.drop a.off ++ vs) false (a.block :: par) gs))
                else none
              | _ => none
          else none
        | _ => none
      | none => none
    | _, _ => none
  | _, _ => none

/-- There is room: what is appended is stored behind the slice. -/
theorem append_stays (hT : TbOK P T) {t xt e : TypeId} {d : TypeDesc} {i : TypeInfo} {base : Option Addr} {l c n : Nat} {x' : Value} {vs' : List Value} {ty : TypeId} {w' : World}
    (hu : T.und t = some (.slice e)) (hd : T.und xt = some d) (hni : isInt d = false) (hi : T.info e = some i)
    (h1 : (Builtin.lenOf x').run P w = .ok n w) (h2 : (Builtin.firstCells i.size n x').run P w = .ok vs'.toArray w) (hc : l + n ≤ c)
    (hst : (match base with | some a => storeCells (a.add (l * i.size)) vs' | none => pure () : Sem Unit).run P w = .ok () w') :
    (Builtin.append_ #[t, xt] ty #[.slice base l c, x']).run P w = .ok (.slice base (l + n) c) w' := by
  have hm : Builtin.append_.match_1 (fun _ => Bool) d (fun _ => true) (fun _ => false) = false := by cases d <;> first | rfl | simp [isInt] at hni
  cases base with
  | none =>
    injection hst with _ hst
    subst hst
    simp [Builtin.append_, run_und hT hu, run_und hT hd, run_size hT hi, h1, h2, hc, hm]
  | some a =>
    simp only at hst
    simp [Builtin.append_, run_und hT hu, run_und hT hd, run_size hT hi, h1, h2, hc, hst, hm]

/-- There is none: a new row. -/
theorem append_moves (hT : TbOK P T) {t xt e : TypeId} {d : TypeDesc} {i : TypeInfo} {z : Value} {base : Option Addr} {l c n : Nat} {x' : Value} {old' vs' : List Value} {ty : TypeId}
    (hu : T.und t = some (.slice e)) (hd : T.und xt = some d) (hni : isInt d = false) (hi : T.info e = some i) (hz : i.zero = some z) (hb : i.bytes ≠ 0)
    (h1 : (Builtin.lenOf x').run P w = .ok n w) (h2 : ∀ w1 : World, w1.heap = w.heap → (Builtin.firstCells i.size n x').run P w1 = .ok vs'.toArray w1) (hc : ¬ l + n ≤ c) (hby : (l + n) * i.bytes ≤ 140737488355328)
    (ho : ∀ w1 : World, w1.heap = w.heap → (Builtin.firstCells i.size l (.slice base l c)).run P w1 = .ok old'.toArray w1) :
    ∃ c' : Nat, l + n ≤ c' ∧ c' < grow ∧ (Builtin.append_ #[t, xt] ty #[.slice base l c, x']).run P w =
      .ok (.slice (some ⟨w.heap.size, 0, none⟩) (l + n) c') { w with drawn := w.drawn + 1, heap := w.heap.push (.cells (old'.toArray ++ vs'.toArray ++ Builtin.zeroCells z.cells (c' - (l + n))) e) } := by
  have hfit := growslice_fits (Nat.lt_of_not_le hc) hby
  have hlt : l + n < grow := by
    have := Nat.le_mul_of_pos_right (l + n) (Nat.pos_of_ne_zero hb)
    unfold grow; omega
  refine ⟨(Question.appendCap (l + n) c e).cut (w.tape w.drawn (.appendCap (l + n) c e)), ?_, ?_, ?_⟩
  · simp [Question.cut]
  · simp only [Question.cut]
    have := Nat.mod_lt (w.tape w.drawn (.appendCap (l + n) c e)) (show 0 < 2 ^ 63 - (l + n) by unfold grow at hlt; omega)
    unfold grow at *
    omega
  · have a1 := h2 w.drew rfl
    have a2 := ho w.drew rfl
    have a3 : ∀ w1 : World, (zeroValue e).run P w1 = .ok z w1 := fun w1 => run_zero hT hi hz
    have a4 : ∀ w1 : World, (typeInfo e).run P w1 = .ok i w1 := fun w1 => run_info hT hi
    have hfit' : ¬ (281474976710656 < Builtin.nextslicecap (l + n) c * i.bytes) := by omega
    have hm : Builtin.append_.match_1 (fun _ => Bool) d (fun _ => true) (fun _ => false) = false := by cases d <;> first | rfl | simp [isInt] at hni
    simp [hm, Builtin.append_, run_und hT hu, run_und hT hd, run_size hT hi, h1, hc, hb, a4, hfit', Question.forced, a1, a2, a3, newRow]
    exact congrArg (fun a => ({ w with drawn := w.drawn + 1, heap := w.heap.push (.cells a e) } : World)) (by rw [← Array.append_assoc]; simp)

theorem zeroCells_size (z : Array Value) (n : Nat) : (Builtin.zeroCells z n).size = n * z.size := by simp [Builtin.zeroCells]

/-- What append makes anew, in the abstract heap and in the world. -/
theorem moved {cs cs' : List Value} {z : Value} {n c' gs : Nat} {e : TypeId} {par : List Nat} (hR : Rel G μ H w) (hv : LRel μ cs cs') (h1 : cs.all one = true) (hl : cs.length = n * gs) (hz : z.cells.size = gs) (hn : n ≤ c') (hc : c' < grow)
    (hpar : ∀ j ∈ par, (∃ q, μ j = some q) ∧ ∀ oj, H.get j = some oj → oj.alive = false) (hgrow : grow + n < empt) :
    ∃ μ', VRel μ' (.slice (some ⟨H.next, 0, none⟩) n (grow + n)) (.slice (some ⟨w.heap.size, 0, none⟩) n c') ∧
      Rel G μ' (H.new (.cells cs false par gs)) { w with drawn := w.drawn + 1, heap := w.heap.push (.cells (cs'.toArray ++ Builtin.zeroCells z.cells (c' - n)) e) } ∧
      TnB μ H w μ' (H.new (.cells cs false par gs)) { w with drawn := w.drawn + 1, heap := w.heap.push (.cells (cs'.toArray ++ Builtin.zeroCells z.cells (c' - n)) e) } := by
  have hsz : (cs'.toArray ++ Builtin.zeroCells z.cells (c' - n)).size = c' * gs := by
    simp [zeroCells_size, ← hv.1, hl, hz, ← Nat.add_mul]
    congr 1
    omega
  have hle : n * gs ≤ c' * gs := Nat.mul_le_mul_right _ hn
  have ho : ObjRel μ (.cells cs false par gs) (.cells (cs'.toArray ++ Builtin.zeroCells z.cells (c' - n)) e (0, 0)) ⟨w.heap.size, 0, c' * gs, gs⟩ := by
    refine .cells hsz.symm rfl (by rw [hsz]; simp; omega) (fun i hi => ?_) (fun x hx => List.all_eq_true.1 h1 x hx) (fun _ j _ _ => by simp) (fun _ => ⟨rfl, rfl⟩)
    have := hv.2 i hi
    have e2 : (cs'.toArray ++ Builtin.zeroCells z.cells (c' - n)).getD (0 + i) undef = cs'.getD i undef := by
      simp [Array.getD_eq_getD_getElem?, List.getD_eq_getElem?_getD, Array.getElem?_append, show i < cs'.length by rw [← hv.1]; exact hi]
    rw [e2]
    exact this
  obtain ⟨k1, k2⟩ := hR.push (w' := { w with drawn := w.drawn + 1, heap := w.heap.push (.cells (cs'.toArray ++ Builtin.zeroCells z.cells (c' - n)) e) }) ho hpar rfl rfl rfl rfl rfl
  refine ⟨_, ?_, k1, k2⟩
  have := VRel.slice (μ := μ.upd H.next ⟨w.heap.size, 0, c' * gs, gs⟩) (o := 0) (l := n) (c := grow + n) (c' := c') (Mu.upd_same H.next _)
    ⟨hn, hc, .inr ⟨by omega, hgrow, by omega, by simp⟩⟩
  simpa using this

theorem aAppend_ok (hT : TbOK P T) (hR : Rel G μ H w) {t xt ty : TypeId} {s s' x x' : Value} {r : Value × AHeap} (hs : VRel μ s s') (hx : VRel μ x x') (h : aAppend T t xt s x H = some r) :
    Snd P G μ H w (Builtin.append_ #[t, xt] ty #[s', x']) r := by
  unfold aAppend at h
  split at h
  · rename_i e d hu hd
    split at h
    · cases h
    · rename_i hni
      have hni : isInt d = false := by simpa using hni
      split at h
      · rename_i i z hi hz
        have hzz : i.zero = some z := by simpa [zeroT, hi] using hz
        obtain ⟨f1, f2, f3⟩ := hT.zero e i z hi hzz
        split at h
        · cases h
        · rename_i hnz
          split at h
          · rename_i n vs hsrc
            obtain ⟨vs', v1, v2, v3, v4, v5⟩ := src_ok (P := P) hR hx hsrc
            split at h
            · cases hs
              split at h
              · rename_i hn
                injection h with h
                subst h
                subst hn
                have := append_stays (P := P) (w := w) (T := T) hT (base := none) (l := 0) (c := 0) (ty := ty) hu hd hni hi v4 (v5 w rfl) (by omega) (w' := w) rfl
                exact Snd.same hR this .sliceNil
              · split at h
                · rename_i hn hby
                  obtain ⟨q, hq, rfl⟩ := Option.map_eq_some_iff.1 h
                  unfold aNew at hq
                  rw [if_pos v3] at hq
                  injection hq with hq
                  subst hq
                  have hgn : grow + (0 + n) < empt := by
                    have := Nat.le_mul_of_pos_right n (Nat.pos_of_ne_zero (fun e => hnz (.inr e)))
                    unfold grow empt; omega
                  obtain ⟨c', c1, c2, c3⟩ := append_moves (P := P) (w := w) (T := T) (base := none) (l := 0) (c := 0) (old' := []) (ty := ty) hT hu hd hni hi hzz (fun e => hnz (.inr e)) v4 v5 (by omega) (by simpa using hby)
                    (fun w1 _ => by simp [Builtin.firstCells])
                  obtain ⟨μ', m1, m2, m3⟩ := moved (e := e) (n := 0 + n) (par := []) hR v1 v3 (by simpa using v2) f2 c1 c2 (fun j hj => by cases hj) hgn
                  refine ⟨_, _, μ', c3, ?_, ?_, ?_⟩
                  · simpa using m1
                  · simpa using m2
                  · exact ⟨by simpa using m3, TnP.new hR rfl, TnK.new hR⟩
                · cases h
            · rename_i a l c
              split at h
              · rename_i hn
                injection h with h
                subst h
                subst hn
                have h0 : vs' = [] := List.length_eq_zero_iff.1 (by rw [← v1.1, v2]; simp)
                subst h0
                cases hs with
                | @slice i0 o _ _ c' p hp hcap =>
                  have := append_stays (P := P) (w := w) (T := T) hT (base := some ⟨p.b, p.s + o, none⟩) (l := l) (c := c') (ty := ty) hu hd hni hi v4 (v5 w rfl) (by have := hcap.1; omega) (w' := w) rfl
                  exact Snd.same hR this (VRel.slice hp hcap)
                | @empty _ a' c' hc =>
                  have := append_stays (P := P) (w := w) (T := T) hT (base := some a') (l := 0) (c := c') (ty := ty) hu hd hni hi v4 (v5 w rfl) (by omega) (w' := w) rfl
                  exact Snd.same hR this (VRel.empty hc)
              · rename_i hn
                split at h
                · rename_i hc
                  cases hs with
                  | empty hc' => exact absurd hc (by decide)
                  | @slice i0 o _ _ c' p hp hcap =>
                    have hcc : c' = c := by rcases hcap.2.2 with h | h <;> (unfold grow at *; omega)
                    subst hcc
                    split at h
                    · rename_i hln
                      obtain ⟨H', hH, rfl⟩ := Option.map_eq_some_iff.1 h
                      obtain ⟨w', q1, q2, q3, _⟩ := store_cells (P := P) hR hp v1 hH
                      have := append_stays (P := P) (w := w) (T := T) hT (base := some ⟨p.b, p.s + o, none⟩) (l := l) (c := c') (ty := ty) hu hd hni hi v4 (v5 w rfl) hln (w' := w') (by
                        simp only [add_spot]; rw [Nat.add_assoc]; exact q1)
                      exact ⟨_, w', μ, this, VRel.slice hp ⟨hln, hcap.2.1, hcap.2.2⟩, q2, q3⟩
                    · rename_i hln
                      split at h
                      · rename_i hby
                        obtain ⟨old, ho, h⟩ := Option.bind_eq_some_iff.1 h
                        obtain ⟨q, hq, rfl⟩ := Option.map_eq_some_iff.1 h
                        obtain ⟨old', o1, o2, o3, o4, o5⟩ := load_cells (P := P) hR hp ho
                        unfold aNew at hq
                        have hall : (old ++ vs).all one = true := by simp only [List.all_append, Bool.and_eq_true]; exact ⟨List.all_eq_true.2 o3, v3⟩
                        rw [if_pos hall] at hq
                        injection hq with hq
                        subst hq
                        have hgn : grow + (l + n) < empt := by
                          have := Nat.le_mul_of_pos_right (l + n) (Nat.pos_of_ne_zero (fun e => hnz (.inr e)))
                          unfold grow empt; omega
                        obtain ⟨c2, c1, c2', c3⟩ := append_moves (P := P) (w := w) (T := T) (base := some ⟨p.b, p.s + o, none⟩) (l := l) (c := c') (old' := old') (ty := ty) hT hu hd hni hi hzz (fun e => hnz (.inr e)) v4 v5 hln hby
                          (fun w1 e1 => by simp [Builtin.firstCells, o5 w1 e1])
                        obtain ⟨μ', m1, m2, m3⟩ := moved (e := e) (n := l + n) (par := []) hR (o1.append v1) hall (by simp [o2, v2, Nat.add_mul]) f2 c1 c2' (fun j hj => by cases hj) hgn
                        refine ⟨_, _, μ', c3, m1, ?_, ?_⟩
                        · simpa using m2
                        · exact ⟨by simpa using m3, by simpa using TnP.new hR rfl, by simpa using TnK.new hR⟩
                      · cases h
                · rename_i hc
                  split at h
                  · rename_i hce
                    cases hs with
                    | empty hc' => exact absurd hce (by decide)
                    | @slice i0 o _ _ c' p hp hcap =>
                      have hk : c - grow ≤ c' ∧ p.s + o + c' * p.es ≤ p.sz := by rcases hcap.2.2 with h | h <;> (unfold grow empt at *; omega)
                      split at h
                      · rename_i hln
                        obtain ⟨H', hH, rfl⟩ := Option.map_eq_some_iff.1 h
                        obtain ⟨w', q1, q2, q3, _⟩ := store_cells (P := P) hR hp v1 hH
                        have := append_stays (P := P) (w := w) (T := T) hT (base := some ⟨p.b, p.s + o, none⟩) (l := l) (c := c') (ty := ty) hu hd hni hi v4 (v5 w rfl) (by omega) (w' := w') (by
                          simp only [add_spot]; rw [Nat.add_assoc]; exact q1)
                        exact ⟨_, w', μ, this, VRel.slice hp ⟨by omega, hcap.2.1, hcap.2.2⟩, q2, q3⟩
                      · rename_i hln
                        split at h
                        · rename_i cs par gs hg
                          split at h
                          · rename_i hq
                            obtain ⟨q1, q2, q3, hby⟩ := hq
                            injection h with h
                            subst h
                            simp only at hg q3
                            subst q1
                            have hgn : grow + (l + n) < empt := by
                              have := Nat.le_mul_of_pos_right (l + n) (Nat.pos_of_ne_zero (fun e => hnz (.inr e)))
                              unfold grow empt; omega
                            have hes : p.es = i.size := by obtain ⟨_, _, _, _, _, _, h3, _⟩ := hR.cells hg hp; exact h3
                            have hdl : (cs.drop o).length = l * i.size := by simp; omega
                            have hld : loadN H ⟨i0, o, none⟩ (l * i.size) = some (cs.drop o) := by
                              unfold loadN
                              simp only [hg]
                              rw [if_pos (by omega), ← hdl, List.take_length]
                            by_cases hroom : l + n ≤ c'
                            · obtain ⟨w', g1, g2, g3⟩ := Rel.grown (P := P) (m := 0) (o := o) hR hg hp (by omega) v1 v3 (by
                                have : (l + n) * i.size ≤ c' * i.size := Nat.mul_le_mul_right _ hroom
                                rw [Nat.add_mul] at this
                                rw [hes] at hk
                                omega)
                              have := append_stays (P := P) (w := w) (T := T) hT (base := some ⟨p.b, p.s + o, none⟩) (l := l) (c := c') (ty := ty) hu hd hni hi v4 (v5 w rfl) hroom (w' := w') (by
                                simp only [add_spot]; rw [Nat.add_assoc, q3]; exact g1)
                              refine ⟨_, w', _, this, ?_, g2, g3⟩
                              have hv := VRel.slice (μ := μ.upd H.next ⟨p.b, p.s + o, p.sz, i.size⟩) (o := 0) (l := l + n) (c := grow + (l + n)) (c' := c') (Mu.upd_same H.next _)
                                ⟨hroom, hcap.2.1, .inr ⟨by omega, hgn, by omega, by rw [hes] at hk; simpa using hk.2⟩⟩
                              simpa using hv
                            · obtain ⟨old', o1, o2, o3, o4, o5⟩ := load_cells (P := P) hR hp hld
                              have hall : (cs.drop o ++ vs).all one = true := by simp only [List.all_append, Bool.and_eq_true]; exact ⟨List.all_eq_true.2 o3, v3⟩
                              obtain ⟨c2, c1, c2', c3⟩ := append_moves (P := P) (w := w) (T := T) (base := some ⟨p.b, p.s + o, none⟩) (l := l) (c := c') (old' := old') (ty := ty) hT hu hd hni hi hzz (fun e => hnz (.inr e)) v4 v5 hroom hby
                                (fun w1 e1 => by simp [Builtin.firstCells, o5 w1 e1])
                              obtain ⟨s1, s2⟩ := hR.shut hg
                              obtain ⟨μ', m1, m2, m3⟩ := moved (e := e) (n := l + n) (par := i0 :: par) s1 (o1.append v1) hall (by simp only [List.length_append]; rw [hdl, v2, Nat.add_mul]) f2 c1 c2' (fun j hj => by
                                simp only [List.mem_cons] at hj
                                refine ⟨?_, fun oj hoj => ?_⟩
                                · rcases hj with rfl | hj
                                  · exact ⟨p, hp⟩
                                  · exact hR.plt i0 _ j hg hj
                                · rw [AHeap.get_set _ _ _ _ (AHeap.get_lt hg)] at hoj
                                  split at hoj
                                  · injection hoj with hoj; subst hoj; rfl
                                  · rename_i hji
                                    rcases hj with rfl | hj
                                    · exact absurd rfl hji
                                    · exact hR.ro j i0 oj _ hoj hg hj) hgn
                              refine ⟨_, _, μ', c3, m1, ?_, ?_⟩
                              · simpa using m2
                              · refine ⟨by simpa using s2.toTnB.trans m3, fun j oj k hgj hm _ => ?_, fun j oj hgj hd => ?_⟩
                                rotate_left
                                · rcases s2.kept j oj hgj hd with h | h
                                  · exact .inl h
                                  · rcases TnK.new s1 j oj h hd with ⟨k, ok, k1, k2, k3⟩ | h
                                    · right
                                      rw [AHeap.get_new, if_neg]
                                      · exact h
                                      · have := AHeap.get_lt h; exact Nat.ne_of_lt this
                                    · exact .inr h
                                rw [AHeap.get_new] at hgj
                                split at hgj
                                · injection hgj with hgj
                                  subst hgj
                                  simp only [AObj.par, List.mem_cons] at hm
                                  rcases hm with rfl | hm
                                  · exact .inl ⟨_, hg, rfl⟩
                                  · exact .inr (.inl ⟨i0, _, hg, rfl, hm⟩)
                                · rw [AHeap.get_set _ _ _ _ (AHeap.get_lt hg)] at hgj
                                  split at hgj
                                  · rename_i e
                                    subst e
                                    injection hgj with hgj
                                    subst hgj
                                    exact .inr (.inr ⟨_, hg, hm⟩)
                                  · exact .inr (.inr ⟨oj, hgj, hm⟩)
                          · cases h
                        · cases h
                  · cases h
            · cases h
          · cases h
      · cases h
  · cases h

end
end Go.Eng
set_option linter.unusedVariables false
set_option linter.unusedSimpArgs false
namespace Go.Eng
open Go
section
variable {P : Program} {G : Nat} {μ : Mu} {H : AHeap} {w : World} {T : Tb}

/-! ### make -/
def aMakeSlice (T : Tb) (t : TypeId) (len cap : Value) (H : AHeap) : Option (Value × AHeap) :=
  match T.und t, len, cap with
  | some (.slice e), .int _ l, .int _ c =>
    match T.info e, zeroT T e with
    | some i, some z =>
      if 0 < i.size ∧ 0 ≤ l ∧ l ≤ c ∧ c < 9223372036854775808 ∧ i.bytes * c ≤ 281474976710656 then
        (aNew (zeros z c.toNat) i.size H).map fun r => (.slice (some ⟨H.next, 0, none⟩) l.toNat c.toNat, r.2)
      else none
    | _, _ => none
  | _, _, _ => none

theorem aMakeSlice_ok (hT : TbOK P T) (hR : Rel G μ H w) {t : TypeId} {len len' cap cap' : Value} {r : Value × AHeap} (h1 : VRel μ len len') (h2 : VRel μ cap cap') (h : aMakeSlice T t len cap H = some r) :
    Snd P G μ H w (Instr.makeSlice t len' cap') r := by
  unfold aMakeSlice at h
  split at h
  · rename_i e k l k' c hu
    cases h1
    cases h2
    split at h
    · rename_i i z hi hz
      have hzz : i.zero = some z := by simpa [zeroT, hi] using hz
      obtain ⟨f1, f2, f3⟩ := hT.zero e i z hi hzz
      split at h
      · rename_i hc
        obtain ⟨b0, b1, b2, b3, b4⟩ := hc
        obtain ⟨q, hq, rfl⟩ := Option.map_eq_some_iff.1 h
        have hza := zeros_arr (μ := μ) z c.toNat (by omega) (LRel.flat (zeros_flat f1 c.toNat))
        obtain ⟨w', μ', g1, g2, g3, g4, g5⟩ := aNew_ok (P := P) (e := e) (gs := i.size) hR hza hq
        have hwl : IntKind.i64.wrap l = l := by
          simp [IntKind.wrap, IntKind.bits, IntKind.signed]; omega
        have hwc : IntKind.i64.wrap c = c := by
          simp [IntKind.wrap, IntKind.bits, IntKind.signed]; omega
        refine ⟨.slice (some ⟨w.heap.size, 0, none⟩) l.toNat c.toNat, w', μ', ?_, ?_, g3, g4⟩
        · have hn1 : ¬ (c < 0) := by omega
          have hn2 : ¬ (l < 0) := by omega
          have hn3 : ¬ (c < l) := by omega
          have hn4 : ¬ (281474976710656 < (i.bytes : Int) * c) := by omega
          have g1' : (newRow e (Array.map (fun x => z.cells[x % z.cells.size]!) (Array.range (c.toNat * i.size)))).run P w = .ok ⟨w.heap.size, 0, none⟩ w' := by
            rw [← f2]; rw [Array.toArray_toList] at g1; exact g1
          by_cases h0 : c.toNat * i.size = 0
          · rw [h0] at g1'
            have r0 : Array.range 0 = #[] := Array.eq_empty_of_size_eq_zero (by simp)
            rw [r0] at g1'
            have g1'' : (newRow e #[]).run P w = .ok ⟨w.heap.size, 0, none⟩ w' := by simpa using g1'
            simp only [Instr.makeSlice, Sem.run_bind, run_und hT hu, Result.andThen_ok, asInt, asIntOf, pure_bind, run_info hT hi, hwl, hwc, Sem.run_pure, run_size hT hi, h0, run_askRoom]
            simp [hn1, hn2, hn3, hn4, run_size hT hi, h0, g1'', r0]
          · simp only [Instr.makeSlice, Sem.run_bind, run_und hT hu, Result.andThen_ok, asInt, asIntOf, pure_bind, run_info hT hi, hwl, hwc, Sem.run_pure, run_size hT hi, h0, run_askRoom]
            simp [hn1, hn2, hn3, hn4, run_size hT hi, h0, run_zero hT hi hzz, g1']
        · rw [g5]
          have hlt : c.toNat < grow := by unfold grow; omega
          have := VRel.slice (μ := μ.upd H.next ⟨w.heap.size, 0, ((Array.range (c.toNat * z.cells.size)).map (fun x => z.cells[x % z.cells.size]!)).toList.length, i.size⟩) (o := 0) (l := l.toNat) (c := c.toNat) (c' := c.toNat) (Mu.upd_same H.next _) ⟨by omega, hlt, .inl ⟨hlt, rfl⟩⟩
          simpa using this
      · cases h
    · cases h
  · cases h

/-! ### Conversions -/
def bytesOf : List Value → Option (List UInt8)
  | [] => some []
  | .int .u8 n :: l => (bytesOf l).map fun r => UInt8.ofNat n.toNat :: r
  | _ => none

def aConv (T : Tb) (src dst : TypeId) (x : Value) (H : AHeap) : Option (Value × AHeap) :=
  match T.und src, T.und dst, x with
  | some _, some (.int k), .int _ n => some (.int k (k.wrap n), H)
  | some _, some .string, .string s => some (.string s, H)
  | some (.slice e), some .string, .slice none _ _ => (match T.und e with | some (.int .u8) => some (.string .empty, H) | _ => none)
  | some (.slice e), some .string, .slice (some a) l c =>
    (match T.und e with
     | some (.int .u8) => if c = empt then none else (loadN H a l).bind fun vs => (bytesOf vs).map fun bs => (.string ⟨bs.toArray⟩, H)
     | _ => none)
  | some _, some (.slice e), .string s =>
    (match T.und e with
     | some (.int .u8) => if s.size < grow then (aNew (s.data.toList.map fun b => .int .u8 b.toNat) 1 H).map fun r => (.slice (some ⟨H.next, 0, none⟩) s.size (grow + s.size), r.2) else none
     | _ => none)
  | _, _, _ => none

theorem bytesOf_flat : ∀ (vs : List Value) (bs : List UInt8), bytesOf vs = some bs → vs.all (flat 0) = true := by
  intro vs
  induction vs with
  | nil => intros; rfl
  | cons v vs ih =>
    intro bs h
    unfold bytesOf at h
    split at h
    · rename_i heq; cases heq
    · rename_i n l heq
      injection heq with e1 e2
      subst e1; subst e2
      obtain ⟨bs', hb, rfl⟩ := Option.map_eq_some_iff.1 h
      simp only [List.all_cons, Bool.and_eq_true]
      exact ⟨rfl, ih bs' hb⟩
    · cases h

theorem bytesOf_run (P : Program) (f : Value → ByteArray → Sem (ForInStep ByteArray)) (hf : ∀ n r, f (.int .u8 n) r = pure (ForInStep.yield (r.push (UInt8.ofNat n.toNat)))) :
    ∀ (vs : List Value) (bs : List UInt8), bytesOf vs = some bs → ∀ (s : ByteArray) (w : World), (forIn (m := Sem) vs s f).run P w = .ok ⟨(s.data.toList ++ bs).toArray⟩ w := by
  intro vs
  induction vs with
  | nil =>
    intro bs h s w
    injection h with h
    subst h
    simp
  | cons v vs ih =>
    intro bs h s w
    unfold bytesOf at h
    split at h
    · rename_i heq; cases heq
    · rename_i n l heq
      injection heq with e1 e2
      subst e1; subst e2
      obtain ⟨bs', hb, rfl⟩ := Option.map_eq_some_iff.1 h
      simp only [List.forIn_cons, hf, Sem.run_bind, Sem.run_pure, Result.andThen_ok]
      rw [ih bs' hb]
      simp [ByteArray.push]
    · cases h

theorem freeze_new (w : World) (C : Array Value) (e : TypeId) : (w.drew.alloc (.cells C e)).freeze ⟨w.heap.size, C.size, none⟩ 1 =
    { w with drawn := w.drawn + 1, heap := w.heap.push (.cells C e (C.size, C.size + 1)) } := by
  unfold World.freeze World.alloc World.drew
  rw [if_neg (by omega)]
  congr 1
  apply Array.ext
  · simp
  · intro i h1 h2
    simp only [Array.getElem_modify]
    split
    · rename_i e1
      subst e1
      simp
    · rename_i e1
      simp only [Array.size_push] at h2
      rw [Array.getElem_push_lt (by omega), Array.getElem_push_lt (by omega)]

theorem aConv_ok (hT : TbOK P T) (hR : Rel G μ H w) {src dst : TypeId} {x x' : Value} {r : Value × AHeap} (hx : VRel μ x x') (h : aConv T src dst x H = some r) : Snd P G μ H w (convert src dst x') r := by
  unfold aConv at h
  split at h
  · rename_i d k k' n hs hd
    injection h with h
    subst h
    cases hx
    refine Snd.same hR (v' := .int k (k.wrap n)) ?_ (.int _ _)
    simp [convert, run_und hT hs, run_und hT hd, Conv.intToInt]
  · rename_i d s hs hd
    injection h with h
    subst h
    cases hx
    refine Snd.same hR (v' := .string s) ?_ (.string _)
    simp [convert, run_und hT hs, run_und hT hd]
  · rename_i e l c hs hd
    cases hx
    split at h
    · rename_i he
      injection h with h
      subst h
      refine Snd.same hR (v' := .string .empty) ?_ (.string _)
      simp [convert, run_und hT hs, run_und hT hd, run_und hT he, Conv.bytesToString]
    · cases h
  · rename_i e a l c hs hd
    split at h
    · rename_i he
      split at h
      · cases h
      · rename_i hc
        obtain ⟨vs, hvs, h⟩ := Option.bind_eq_some_iff.1 h
        obtain ⟨bs, hbs, rfl⟩ := Option.map_eq_some_iff.1 h
        cases hx with
        | empty => exact absurd rfl hc
        | @slice i0 o _ _ c' p hp hcap =>
          obtain ⟨vs', k1, k2, k3, k4, k5⟩ := load_cells (P := P) hR hp hvs
          have hb' : bytesOf vs' = some bs := by
            rw [k1.flat_eq (bytesOf_flat vs bs hbs)]; exact hbs
          refine Snd.same hR (v' := .string ⟨bs.toArray⟩) ?_ (.string _)
          simp only [convert, Sem.run_bind, run_und hT hs, run_und hT hd, run_und hT he, Result.andThen_ok, Conv.bytesToString, k5 w rfl, List.forIn_toArray]
          rw [bytesOf_run P _ (fun _ _ => rfl) vs' bs hb' .empty w]
          rfl
    · cases h
  · rename_i d e s hs hd
    cases hx
    split at h
    · rename_i he
      split at h
      case isFalse => cases h
      rename_i hsz
      obtain ⟨q, hq, rfl⟩ := Option.map_eq_some_iff.1 h
      unfold aNew at hq
      have hfl : (s.data.toList.map fun b => Value.int .u8 b.toNat).all (flat 0) = true := List.all_eq_true.2 fun x hx => by
        obtain ⟨b, _, rfl⟩ := List.mem_map.1 hx
        rfl
      rw [if_pos (all_one hfl)] at hq
      injection hq with hq
      subst hq
      obtain ⟨c', hc'⟩ : ∃ c', c' = (Question.appendCap s.size 0 e).cut (w.tape w.drawn (.appendCap s.size 0 e)) := ⟨_, rfl⟩
      have hn : s.size ≤ c' := by rw [hc']; simp [Question.cut]
      have hlt : c' < grow := by
        rw [hc']
        simp only [Question.cut]
        have := Nat.mod_lt (w.tape w.drawn (.appendCap s.size 0 e)) (show 0 < 2 ^ 63 - s.size by unfold grow at hsz; omega)
        unfold grow at *
        omega
      let C : Array Value := (s.data.map fun b => Value.int .u8 b.toNat) ++ Array.replicate (c' - s.size) (.int .u8 0)
      have hC : C.size = c' := by simp [C]; omega
      have hrun : (convert src dst (.string s)).run P w = .ok (.slice (some ⟨w.heap.size, 0, none⟩) s.size c') { w with drawn := w.drawn + 1, heap := w.heap.push (.cells C e (C.size, C.size + 1)) } := by
        rw [← freeze_new]
        have hsh : (w.drew.alloc (.cells C e)).shape? w.heap.size = some (e, C.size) := by
          have : (w.drew.alloc (.cells C e)).heap[w.heap.size]? = some (.cells C e (0, 0)) := by show (w.heap.push _)[w.heap.size]? = _; simp
          simp only [World.shape?, this]
        simp only [convert, Sem.run_bind, run_und hT hs, run_und hT hd, run_und hT he, Result.andThen_ok, Conv.stringToBytes, run_choose, Question.forced, Bool.false_eq_true, if_false, ← hc']
        have hnr : (newRow e C).run P w.drew = .ok ⟨w.heap.size, 0, none⟩ (w.drew.alloc (.cells C e)) := rfl
        show ((newRow e C).run P w.drew).andThen _ = _
        rw [hnr]
        simp [markStringish, hsh]
      have ho : ObjRel μ (.cells (s.data.toList.map fun b => Value.int .u8 b.toNat) false [] 1) (.cells C e (C.size, C.size + 1)) ⟨w.heap.size, 0, C.size, 1⟩ := by
        refine .cells rfl rfl (by simp [hC]; omega) (fun i hi => ?_) (fun x hx => flat_one (List.all_eq_true.1 hfl x hx)) (fun _ j _ hj => by omega) (fun e => by cases e)
        have hi' : i < s.size := by simpa using hi
        have e1 : (s.data.toList.map fun b => Value.int .u8 b.toNat).getD i undef = C.getD (0 + i) undef := by
          simp [C, Array.getD_eq_getD_getElem?, List.getD_eq_getElem?_getD, Array.getElem?_append, hi']
        rw [← e1]
        refine flat_rel 0 _ ?_
        have e2 := List.all_eq_true.1 hfl _ (List.getElem_mem (h := hi))
        have e3 : ∀ (l : List Value) (hi : i < l.length), l.getD i undef = l[i] := fun l hi => by simp [List.getD_eq_getElem?_getD, hi]
        rw [e3 _ hi]
        exact e2
      obtain ⟨k1, k2⟩ := hR.push0 (w' := { w with drawn := w.drawn + 1, heap := w.heap.push (.cells C e (C.size, C.size + 1)) }) ho rfl rfl rfl rfl rfl rfl
      refine ⟨_, _, _, hrun, ?_, k1, k2⟩
      have := VRel.slice (μ := μ.upd H.next ⟨w.heap.size, 0, C.size, 1⟩) (o := 0) (l := s.size) (c := grow + s.size) (c' := c') (Mu.upd_same H.next _)
        ⟨hn, hlt, .inr ⟨by omega, by unfold grow empt at *; omega, by omega, by simp [hC]⟩⟩
      simpa using this
    · cases h
  · cases h

end
end Go.Eng
