/- The engine: a function's run, reckoned. -/
import Derived.Test.YtkjclebafpomhaaDoorPDA2
import Derived.Lib.Bytealg
import GoSem.Extern.BytealgCount
import GoSem.Extern.BytealgIndexByte
import Derived.Attr
import Derived.Test.YtkjclebafpomhaaDoorProg
import Derived.KernelRfl
set_option linter.unusedVariables false
set_option linter.unusedSimpArgs false
namespace Go.Eng
open Go

/-- What a run rests on: the program, its tables. -/
structure Cx where
  P : Program
  T : Tb
  G : Nat
  fn : FuncId → Option Func
  ext : FuncId → List Value → Option Value
  sp : FuncId → Option (List Value → AHeap → Option (Value × AHeap)) := fun _ => none

/-- Where a byte stands first; how often it stands. -/
def byteIdx (c : UInt8) : List UInt8 → Nat → Int
  | [], _ => -1
  | b :: l, i => if b == c then (i : Int) else byteIdx c l (i + 1)
def byteCnt (c : UInt8) : List UInt8 → Nat
  | [] => 0
  | b :: l => if b == c then byteCnt c l + 1 else byteCnt c l
def extIdx : List Value → Option Value
  | [.string s, .int .u8 c] => some (.int .i64 (byteIdx c.toNat.toUInt8 s.data.toList 0))
  | _ => none
def extCnt : List Value → Option Value
  | [.string s, .int .u8 c] => some (.int .i64 (byteCnt c.toNat.toUInt8 s.data.toList))
  | _ => none

abbrev St := Tmps × AHeap
abbrev Calling := FuncId → List Value → AHeap → Option (Value × AHeap)

def stepOp (cx : Cx) (N : Nat) (call : Calling) (ops : Array Oper) (o : Oper) (s : St) : Option St :=
  match awanted ops s.1 o with
  | some true =>
    match acallee cx.G s.1 o.op with
    | some (g, vs) =>
      match call g vs s.2 with
      | some (v, H) => (aput N o.dst v s.1).map (·, H)
      | none => none
    | none =>
      match aop cx.P cx.T cx.G s.1 o.op s.2 with
      | some (v, H) => (aput N o.dst v s.1).map (·, H)
      | none => none
  | some false => (aput N o.dst undef s.1).map (·, s.2)
  | none => none

def runOps (cx : Cx) (N : Nat) (call : Calling) (ops : Array Oper) : List Oper → St → Option St
  | [], s => some s
  | o :: l, s => match stepOp cx N call ops o s with
    | some s' => runOps cx N call ops l s'
    | none => none

def loopN (body : St → Option (Exit × St)) : Nat → St → Option (Exit × St)
  | 0, _ => none
  | n + 1, s => match body s with
    | some (.normal, s') => loopN body n s'
    | r => r

def runC (cx : Cx) (N : Nat) (call : Calling) (lf : Nat) : Code → St → Option (Exit × St)
  | .skip, s => some (.normal, s)
  | .label _, s => some (.normal, s)
  | .ret, s => some (.ret, s)
  | .exit i, s => some (.exit i, s)
  | .seq a b, s => match runC cx N call lf a s with
    | some (.normal, s') => runC cx N call lf b s'
    | r => r
  | .cond c a b, s => match aeval cx.G s.1 c with
    | some (.bool true) => runC cx N call lf a s
    | some (.bool false) => runC cx N call lf b s
    | _ => none
  | .block i c, s => match runC cx N call lf c s with
    | some (.exit j, s') => if j = i then some (.normal, s') else some (.exit j, s')
    | r => r
  | .loop c, s => loopN (runC cx N call lf c) lf s
  | .region _ ops d, s => match runOps cx N call ops ops.toList s with
    | some s' => some (.normal, s')
    | none => none
  | _, _ => none

def callF (cx : Cx) (lf : Nat) : Nat → Calling
  | 0, _, _, _ => none
  | k + 1, f, args, H =>
    match cx.fn f with
    | some fn =>
      match fn.body with
      | some c =>
        match runC cx fn.ntmps (callF cx lf k) lf c (initT 0 args, H) with
        | some (.normal, τ, H') | some (.ret, τ, H') => (aresults cx.T τ H' fn.results.toList).map fun vs => (wrapR vs, H')
        | _ => none
      | none => (cx.ext f args).map (·, H)
    | none => none
end Go.Eng
set_option linter.unusedVariables false
set_option linter.unusedSimpArgs false
namespace Go.Eng
open Go

/-! ### Which operations come ahead of which -/
def maskL (M : List Nat) : List Edge → Nat
  | [] => 0
  | e :: l => if Region.binds .any e then (maskL M l ||| 2 ^ e.on) ||| M.getD e.on 0 else maskL M l
def masksGo : List Oper → List Nat → List Nat
  | [], acc => acc
  | o :: l, acc => masksGo l (acc ++ [maskL acc o.after.toList])
def ordOkGo (M : List Nat) : List Oper → Nat → Bool
  | [], _ => true
  | o :: l, j => Nat.beq (M.getD j 0) (maskL M o.after.toList) && o.after.toList.all (fun e => !Region.binds .any e || Nat.blt e.on j) && ordOkGo M l (j + 1)
def befB (M : List Nat) (i j : Nat) : Bool := (M.getD j 0).testBit i

theorem maskL_bit (M : List Nat) (i : Nat) : ∀ l, (maskL M l).testBit i = true → ∃ e ∈ l, Region.binds .any e = true ∧ (e.on = i ∨ befB M i e.on = true) := by
  intro l
  induction l with
  | nil => intro h; simp [maskL] at h
  | cons e l ih =>
    intro h
    simp only [maskL] at h
    split at h
    · rename_i hb
      rw [Nat.testBit_or, Nat.testBit_or, Bool.or_eq_true, Bool.or_eq_true] at h
      rcases h with (h | h) | h
      · obtain ⟨e', h1, h2⟩ := ih h
        exact ⟨e', List.mem_cons_of_mem _ h1, h2⟩
      · rw [Nat.testBit_two_pow] at h
        exact ⟨e, List.mem_cons_self .., hb, .inl (by simpa using h)⟩
      · exact ⟨e, List.mem_cons_self .., hb, .inr h⟩
    · obtain ⟨e', h1, h2⟩ := ih h
      exact ⟨e', List.mem_cons_of_mem _ h1, h2⟩

theorem ordOkGo_at (M : List Nat) : ∀ (l : List Oper) (k : Nat), ordOkGo M l k = true → ∀ j o, l[j]? = some o → M.getD (k + j) 0 = maskL M o.after.toList ∧ ∀ e ∈ o.after.toList, Region.binds .any e = true → e.on < k + j := by
  intro l
  induction l with
  | nil => intro k _ j o h; simp at h
  | cons x l ih =>
    intro k h j o hj
    simp only [ordOkGo, Bool.and_eq_true] at h
    obtain ⟨⟨h1, h2⟩, h3⟩ := h
    cases j with
    | zero =>
      simp at hj
      subst hj
      refine ⟨Nat.eq_of_beq_eq_true h1, fun e he hb => ?_⟩
      have := List.all_eq_true.1 h2 e he
      rw [hb] at this
      simpa [Nat.blt_eq] using this
    | succ j =>
      have := ih (k + 1) h3 j o (by simpa using hj)
      rw [show k + (j + 1) = k + 1 + j by omega]
      exact this

theorem ord_ok {ops : Array Oper} {M : List Nat} (hl : M.length = ops.size) (h : ordOkGo M ops.toList 0 = true) : ROrd ops (befB M) := by
  have at_ : ∀ j o, ops[j]? = some o → M.getD j 0 = maskL M o.after.toList ∧ ∀ e ∈ o.after.toList, Region.binds .any e = true → e.on < j := by
    intro j o hj
    have := ordOkGo_at M ops.toList 0 h j o (by simpa using hj)
    simpa using this
  have src : ∀ i j o, befB M i j = true → ops[j]? = some o → ∃ e ∈ o.after.toList, Region.binds .any e = true ∧ (e.on = i ∨ befB M i e.on = true) := by
    intro i j o hb hj
    unfold befB at hb
    rw [(at_ j o hj).1] at hb
    exact maskL_bit M i _ hb
  refine ⟨?_, fun i j o hb hj => ?_, fun j o hj e he hb => (at_ j o hj).2 e (by simpa using he) hb⟩
  · intro i j
    induction j using Nat.strongRecOn with
    | _ j ih =>
      intro hb
      rcases Nat.lt_or_ge j ops.size with h1 | h1
      · have hj : ops[j]? = some ops[j] := Array.getElem?_eq_getElem h1
        obtain ⟨e, he, hbd, h2⟩ := src i j _ hb hj
        have h3 := (at_ j _ hj).2 e he hbd
        rcases h2 with rfl | h2
        · exact h3
        · have := ih e.on h3 h2; omega
      · have : M.getD j 0 = 0 := by simp [List.getD_eq_getElem?_getD, List.getElem?_eq_none (show M.length ≤ j by omega)]
        unfold befB at hb
        rw [this] at hb
        simp at hb
  · obtain ⟨e, he, h⟩ := src i j o hb hj
    exact ⟨e, by simpa using he, h⟩

/-! ### The part of the heap that an operation sees -/
inductive Foot where
  | ids (l : List Nat)
  | but (ex : List (List Nat × Nat × Nat))
def inL (l : List Nat) (i : Nat) : Bool := l.any (Nat.beq i)
theorem inL_iff {l : List Nat} {i : Nat} : inL l i = true ↔ i ∈ l := by
  unfold inL
  rw [List.any_eq_true]
  constructor
  · rintro ⟨x, h1, h2⟩; rw [Nat.eq_of_beq_eq_true h2]; exact h1
  · intro h; exact ⟨i, h, Nat.beq_refl i⟩
def inR (a b i : Nat) : Bool := Nat.ble a i && Nat.blt i b
theorem inR_iff {a b i : Nat} : inR a b i = true ↔ a ≤ i ∧ i < b := by simp [inR, Nat.blt_eq]
def Foot.has : Foot → Nat → Bool
  | .ids l, i => inL l i
  | .but ex, i => !ex.any fun (l, a, b) => inL l i || inR a b i

/-- One step of a region. -/
structure Stp where
  τ : Tmps
  h : AHeap
  V : AHeap
  R : AHeap
  v : Value
  foot : Foot
  wr : Option (List Nat)
  rd : List Nat
  o : Oper

def viewL (W F : List Nat) (H : AHeap) : AHeap := { t := .lf, next := H.next, back := fun i => if inL W i then H.get i else if inL F i then (H.get i).bind AObj.shut else none }
def viewQ (f : Foot) (H : AHeap) : AHeap := { t := .lf, next := H.next, back := fun i => if f.has i then (H.get i).bind AObj.shut else none }
theorem get_viewL (W F : List Nat) (H : AHeap) (i : Nat) : (viewL W F H).get i = if inL W i then H.get i else if inL F i then (H.get i).bind AObj.shut else none := by
  rcases Nat.lt_or_ge i H.next with h | h
  · rw [AHeap.get_in (H := viewL W F H) h]; rfl
  · rw [AHeap.get_out (H := viewL W F H) h, AHeap.get_out h]; split <;> first | rfl | (split <;> rfl)
theorem get_viewQ (f : Foot) (H : AHeap) (i : Nat) : (viewQ f H).get i = if f.has i then (H.get i).bind AObj.shut else none := by
  rcases Nat.lt_or_ge i H.next with h | h
  · rw [AHeap.get_in (H := viewQ f H) h]; rfl
  · rw [AHeap.get_out (H := viewQ f H) h, AHeap.get_out h]; split <;> rfl

/-- What a step brings, laid into the whole. -/
def putAll (R : AHeap) : List Nat → AHeap → AHeap
  | [], H => H
  | i :: l, H => putAll R l (match R.get i with | some o => H.set i o | none => H.del i)
theorem putAll_next (R : AHeap) : ∀ (l : List Nat) (H : AHeap), (putAll R l H).next = H.next := by
  intro l
  induction l with
  | nil => intro H; rfl
  | cons i l ih => intro H; simp only [putAll]; rw [ih]; split <;> rfl
theorem get_putAll (R : AHeap) : ∀ (l : List Nat) (H : AHeap), (∀ i ∈ l, i < H.next) → ∀ j, (putAll R l H).get j = if j ∈ l then R.get j else H.get j := by
  intro l
  induction l with
  | nil => intro H _ j; simp [putAll]
  | cons i l ih =>
    intro H hl j
    have hi := hl i (List.mem_cons_self ..)
    simp only [putAll]
    have hn : (match R.get i with | some o => H.set i o | none => H.del i).next = H.next := by split <;> rfl
    rw [ih _ (fun k hk => by rw [hn]; exact hl k (List.mem_cons_of_mem _ hk))]
    by_cases h1 : j ∈ l
    · rw [if_pos h1, if_pos (List.mem_cons_of_mem _ h1)]
    · rw [if_neg h1]
      by_cases h2 : j = i
      · subst h2
        rw [if_pos (List.mem_cons_self ..)]
        cases hR : R.get j with
        | some o => simp only []; rw [AHeap.get_set _ _ _ _ hi, if_pos rfl]
        | none => simp only []; rw [AHeap.get_del, if_pos rfl]
      · rw [if_neg (by simp [h1, h2])]
        cases hR : R.get i with
        | some o => simp only []; rw [AHeap.get_set _ _ _ _ hi, if_neg h2]
        | none => simp only []; rw [AHeap.get_del, if_neg h2]
def upFrom : Nat → Nat → List Nat
  | 0, _ => []
  | k + 1, n => n :: upFrom k (n + 1)
theorem mem_upFrom : ∀ (k n i : Nat), i ∈ upFrom k n ↔ n ≤ i ∧ i < n + k := by
  intro k
  induction k with
  | zero => intro n i; simp only [upFrom, List.not_mem_nil, false_iff]; omega
  | succ k ih => intro n i; simp only [upFrom, List.mem_cons, ih]; omega
def layIn (W : List Nat) (H R : AHeap) : AHeap := putAll R (W ++ upFrom (R.next - H.next) H.next) { H with next := R.next }
theorem layIn_next (W : List Nat) (H R : AHeap) : (layIn W H R).next = R.next := putAll_next ..
theorem get_layIn {W : List Nat} {H R : AHeap} (hn : H.next ≤ R.next) (hW : ∀ i ∈ W, i < H.next) (i : Nat) : (layIn W H R).get i = if i ∈ W ∨ (H.next ≤ i ∧ i < R.next) then R.get i else H.get i := by
  unfold layIn
  rw [get_putAll _ _ _ (fun k hk => by
    rw [List.mem_append, mem_upFrom] at hk
    show k < R.next
    rcases hk with hk | hk
    · have := hW k hk; omega
    · omega)]
  have e : (i ∈ W ++ upFrom (R.next - H.next) H.next) ↔ (i ∈ W ∨ (H.next ≤ i ∧ i < R.next)) := by
    rw [List.mem_append, mem_upFrom, show H.next + (R.next - H.next) = R.next by omega]
  by_cases h : i ∈ W ∨ (H.next ≤ i ∧ i < R.next)
  · rw [if_pos h, if_pos (e.2 h)]
  · rw [if_neg h, if_neg fun x => h (e.1 x)]
    rcases Nat.lt_or_ge i H.next with h1 | h1
    · rw [AHeap.get_in (H := { H with next := R.next }) (Nat.lt_of_lt_of_le h1 hn), AHeap.get_in h1]; rfl
    · rw [AHeap.get_out h1, AHeap.get_out (H := { H with next := R.next })]
      show R.next ≤ i
      omega

/-! ### Steps that clash -/
def clashNew (f : Foot) (n a b : Nat) : Bool := match f with
  | .ids l => l.any (inR a b)
  | .but ex => !(Nat.ble b a || Nat.ble n a || ex.any fun (_, a', b') => Nat.ble a' a && Nat.ble b b')
def noclash (f : Foot) (n : Nat) (k : Stp) : Bool := match k.wr with
  | none => (match f with | .ids [] => true | _ => false)
  | some W => W.all (fun i => !(f.has i) || Nat.ble n i) && !clashNew f n k.h.next k.R.next
def Stp.W (s : Stp) (i : Nat) : Prop := match s.wr with
  | none => i < s.h.next
  | some W => i ∈ W

theorem noclash_ok {f : Foot} {n : Nat} {k : Stp} (h : noclash f n k = true) {i : Nat} (hf : f.has i = true) (hi : i < n) : ¬ (k.W i ∨ (k.h.next ≤ i ∧ i < k.R.next)) := by
  unfold noclash at h
  unfold Stp.W
  split at h
  · rename_i hw
    split at h
    · simp [Foot.has, inL] at hf
    · cases h
  · rename_i W hw
    simp only [Bool.and_eq_true, Bool.not_eq_true'] at h
    obtain ⟨h1, h2⟩ := h
    rintro (h3 | h3)
    · have := List.all_eq_true.1 h1 i h3
      rw [hf] at this
      simp at this
      omega
    · unfold clashNew at h2
      split at h2
      · rename_i l
        simp only [Foot.has] at hf
        have := List.any_eq_false.1 h2 i (inL_iff.1 hf)
        exact this (inR_iff.2 h3)
      · rename_i ex
        simp only [Bool.not_eq_false', Bool.or_eq_true] at h2
        rcases h2 with (h2 | h2) | h2
        · rw [Nat.ble_eq] at h2; omega
        · rw [Nat.ble_eq] at h2; omega
        · rw [List.any_eq_true] at h2
          obtain ⟨⟨l, a', b'⟩, m1, m2⟩ := h2
          simp only [Bool.and_eq_true, Nat.ble_eq] at m2
          simp only [Foot.has, Bool.not_eq_true'] at hf
          have := List.any_eq_false.1 hf _ m1
          simp only [Bool.or_eq_true, not_or] at this
          exact this.2 (inR_iff.2 ⟨by omega, by omega⟩)

def noT (s t : Stp) : Bool := match t.o.dst with
  | none => true
  | some d => !(inL s.rd d) && !(match s.o.dst with | some d' => Nat.beq d d' | none => false)
theorem noT_ok {s t : Stp} (h : noT s t = true) {d : Nat} (hs : d ∈ s.rd ∨ s.o.dst = some d) : t.o.dst ≠ some d := by
  intro e
  unfold noT at h
  rw [e] at h
  simp only [Bool.and_eq_true, Bool.not_eq_true'] at h
  rcases hs with hs | hs
  · have := inL_iff.2 hs; rw [h.1] at this; cases this
  · rw [hs] at h; simp at h
def pairOk (s t : Stp) : Bool := noclash s.foot s.h.next t && noclash t.foot t.h.next s && noT s t && noT t s
def pairsFrom (M : List Nat) (j : Nat) (s : Stp) : List Stp → Nat → Bool
  | [], _ => true
  | t :: l, k => ((M.getD k 0).testBit j || pairOk s t) && pairsFrom M j s l (k + 1)
def pairsOk (M : List Nat) : List Stp → Nat → Bool
  | [], _ => true
  | s :: l, j => pairsFrom M j s l (j + 1) && pairsOk M l (j + 1)
theorem pairsFrom_at {M : List Nat} {j : Nat} {s : Stp} : ∀ (l : List Stp) (k : Nat), pairsFrom M j s l k = true → ∀ b t, l[b]? = some t → befB M j (k + b) = true ∨ pairOk s t = true := by
  intro l
  induction l with
  | nil => intro k _ b t h; simp at h
  | cons x l ih =>
    intro k h b t hb
    simp only [pairsFrom, Bool.and_eq_true, Bool.or_eq_true] at h
    cases b with
    | zero => simp at hb; subst hb; exact h.1
    | succ b =>
      have := ih (k + 1) h.2 b t (by simpa using hb)
      rw [show k + (b + 1) = k + 1 + b by omega]
      exact this
theorem pairsOk_at {M : List Nat} : ∀ (l : List Stp) (j : Nat), pairsOk M l j = true → ∀ a b s t, a < b → l[a]? = some s → l[b]? = some t → befB M (j + a) (j + b) = true ∨ pairOk s t = true := by
  intro l
  induction l with
  | nil => intro j _ a b s t _ h; simp at h
  | cons x l ih =>
    intro j h a b s t hab ha hb
    simp only [pairsOk, Bool.and_eq_true] at h
    cases b with
    | zero => omega
    | succ b =>
      cases a with
      | zero =>
        simp at ha
        subst ha
        have := pairsFrom_at l (j + 1) h.1 b t (by simpa using hb)
        rw [show j + (b + 1) = j + 1 + b by omega]
        exact this
      | succ a =>
        have := ih (j + 1) h.2 a b s t (by omega) (by simpa using ha) (by simpa using hb)
        rw [show j + (a + 1) = j + 1 + a by omega, show j + (b + 1) = j + 1 + b by omega]
        exact this
end Go.Eng
set_option linter.unusedVariables false
set_option linter.unusedSimpArgs false
namespace Go.Eng
open Go

/-- What a reckoned run rests on. -/
structure CxOK (cx : Cx) : Prop where
  tb : TbOK cx.P cx.T
  fn : ∀ f fn, cx.fn f = some fn → cx.P.funcs[f]? = some fn ∧ (fn.name == "runtime.NumGoroutine") = false
  ext : ∀ f fn vs v, cx.fn f = some fn → fn.body = none → cx.ext f vs = some v → vs.all (flat 0) = true ∧ prun cx.P (callFunc f vs.toArray) = some (.value v) ∧ flat 1 v = true
  mix : cx.P.follows .mixedOrders = true
  sp : ∀ f fn g, cx.fn f = some fn → cx.sp f = some g → fn.body.isSome = true ∧ ∀ vs H v H', g vs H = some (v, H') → ACalls cx.P cx.G f vs H fun v1 H1 => v1 = v ∧ H1 = H'
def CallOK (cx : Cx) (call : Calling) : Prop := ∀ g vs H v H', call g vs H = some (v, H') → ∃ fn, cx.fn g = some fn ∧
  ((fn.body.isSome = true ∧ ACalls cx.P cx.G g vs H fun v1 H1 => v1 = v ∧ H1 = H') ∨ (fn.body = none ∧ vs.all (flat 0) = true ∧ prun cx.P (callFunc g vs.toArray) = some (.value v) ∧ flat 1 v = true ∧ H' = H))

/-! ### What an operation looks at, what it writes -/
def vids : Nat → Value → List Nat
  | _, .pointer (some a) => [a.block]
  | _, .slice (some a) _ _ => [a.block]
  | _, .map (some i) => [i]
  | d + 1, .iface _ v => vids d v
  | d + 1, .agg c => c.toList.flatMap (vids d)
  | _, _ => []
def isPure : Op → Bool
  | .move _ | .assign _ | .pick .. | .binOp .. | .unOp .. | .field .. | .extract .. | .fieldAddr .. | .indexAddr .. | .index .. | .nilCheck _ | .makeInterface .. | .makeFunc .. => true
  | _ => false
def opIds (G : Nat) (τ : Tmps) (x : Operand) : List Nat := match aeval G τ x with
  | some v => vids 2 v
  | none => []
def rIds (G : Nat) (τ : Tmps) (o : Op) : List Nat := if isPure o then [] else o.operands.toList.flatMap (opIds G τ)
def wRoots (G : Nat) (τ : Tmps) : Op → List Nat
  | .store _ a _ => opIds G τ a
  | .mapUpdate _ m _ _ | .insert _ m _ _ | .mapEntry _ m _ | .entryStore _ m _ _ => opIds G τ m
  | .next x _ => opIds G τ x
  | .call { callee := .builtin .append, args, .. } | .call { callee := .builtin .copy, args, .. } | .call { callee := .builtin .delete, args, .. } => match args[0]? with
    | some x => opIds G τ x
    | none => []
  | _ => []
def wIds (G : Nat) (H : AHeap) (τ : Tmps) (o : Op) : List Nat := (wRoots G τ o).flatMap fun i => match H.get i with
  | some ob => i :: ob.par
  | none => []
def okW (H : AHeap) (W : List Nat) : Bool := W.all fun i => Nat.blt i H.next && match H.get i with
  | some o => !o.alive || o.par.all (inL W)
  | none => true
def isLoud (M : List Nat) (j : Nat) : List Oper → Nat → Bool
  | [], _ => true
  | p :: l, k => (Nat.beq k j || isPure p.op || (M.getD j 0).testBit k || (M.getD k 0).testBit j) && isLoud M j l (k + 1)
def exOf (M : List Nat) (j : Nat) : List (Nat × Stp) → List (List Nat × Nat × Nat)
  | [] => []
  | (k, t) :: l => if (M.getD j 0).testBit k then exOf M j l else match t.wr with
    | none => exOf M j l
    | some W => if W.isEmpty && Nat.beq t.h.next t.R.next then exOf M j l else (W, t.h.next, t.R.next) :: exOf M j l

def skipStp (o : Oper) (rd : List Nat) (s : St) : Stp := ⟨s.1, s.2, viewL [] [] s.2, viewL [] [] s.2, undef, .ids [], some [], rd, o⟩
def stepReg (cx : Cx) (N : Nat) (call : Calling) (ops : Array Oper) (M : List Nat) (j : Nat) (o : Oper) (prev : List (Nat × Stp)) (s : St) : Option (Stp × St) :=
  match awanted ops (restr s.1 (o.looksAt ops)) o with
  | some false => (aput N o.dst undef s.1).map fun τ' => (skipStp o (o.looksAt ops) s, (τ', s.2))
  | some true =>
    match acallee cx.G (restr s.1 (o.looksAt ops)) o.op with
    | some (g, vs) =>
      if isLoud M j ops.toList 0 then
        match call g vs s.2 with
        | some (v, R) => if Nat.ble s.2.next R.next then (aput N o.dst v s.1).map fun τ' => (⟨s.1, s.2, s.2, R, v, .but [], none, o.looksAt ops, o⟩, (τ', R)) else none
        | none => none
      else
        match call g vs (viewQ (.but (exOf M j prev)) s.2) with
        | some (v, R) => if Nat.ble s.2.next R.next then (aput N o.dst v s.1).map fun τ' => (⟨s.1, s.2, viewQ (.but (exOf M j prev)) s.2, R, v, .but (exOf M j prev), some [], o.looksAt ops, o⟩, (τ', layIn [] s.2 R)) else none
        | none => none
    | none =>
      match wIds cx.G s.2 (restr s.1 (o.looksAt ops)) o.op with
      | W =>
        match W ++ rIds cx.G (restr s.1 (o.looksAt ops)) o.op with
        | F =>
          if okW s.2 W then
            match aop cx.P cx.T cx.G (restr s.1 (o.looksAt ops)) o.op (viewL W F s.2) with
            | some (v, R) => if Nat.ble s.2.next R.next then (aput N o.dst v s.1).map fun τ' => (⟨s.1, s.2, viewL W F s.2, R, v, .ids F, some W, o.looksAt ops, o⟩, (τ', layIn W s.2 R)) else none
            | none => none
          else none
  | none => none

def goReg (cx : Cx) (N : Nat) (call : Calling) (ops : Array Oper) (M : List Nat) : List Oper → Nat → List (Nat × Stp) → St → Option (List Stp × St)
  | [], _, _, s => some ([], s)
  | o :: l, j, prev, s => match stepReg cx N call ops M j o prev s with
    | some (p, s') => match goReg cx N call ops M l (j + 1) ((j, p) :: prev) s' with
      | some (ps, f) => some (p :: ps, f)
      | none => none
    | none => none
def runReg (cx : Cx) (N : Nat) (call : Calling) (ops : Array Oper) (s : St) : Option St :=
  match masksGo ops.toList [] with
  | M => if Nat.beq M.length ops.size && ordOkGo M ops.toList 0 then
      match goReg cx N call ops M ops.toList 0 [] s with
      | some (ps, f) => if pairsOk M ps 0 then some f else none
      | none => none
    else none

section
variable {cx : Cx} {N : Nat} {call : Calling} {ops : Array Oper}

/-- What a step of a region is, in the model. -/
structure SOK (cx : Cx) (NT : Nat) (ops : Array Oper) (j : Nat) (sp : Stp) (st : St) : Prop where
  sound : ∀ Q μ a w K, Rel cx.G μ sp.V w → TRel μ NT (restr sp.τ sp.rd) a.tmps → a.defers = [] →
    (∀ μ' w' v', VRel μ' sp.v v' → Rel cx.G μ' sp.R w' → Tn μ sp.V w μ' sp.R w' → K (a.put sp.o.dst v') w') → wpOp cx.P ops Q j K a w
  dst : ∀ d, sp.o.dst = some d → d < NT
  tau : ∀ t, tget st.1 t = if sp.o.dst = some t then sp.v else tget sp.τ t
  heap : ∀ i, ((sp.W i ∨ (sp.h.next ≤ i ∧ i < sp.R.next)) → st.2.get i = sp.R.get i) ∧ (¬ (sp.W i ∨ (sp.h.next ≤ i ∧ i < sp.R.next)) → st.2.get i = sp.h.get i)
  next : st.2.next = sp.R.next ∧ sp.h.next ≤ sp.R.next
  vnext : sp.V.next = sp.h.next
  sub : ∀ i o', sp.V.get i = some o' → (sp.foot.has i = true ∧ i < sp.h.next) ∧ ∃ o, sp.h.get i = some o ∧ (o' = o ∨ o.shut = some o')
  alive : ∀ i o, sp.V.get i = some o → o.alive = true → sp.W i
  par : ∀ k o i, sp.V.get k = some o → o.alive = true → i ∈ o.par → i < sp.h.next → sp.W i
  wf : ∀ i, sp.W i → (sp.foot.has i = true ∧ i < sp.h.next) ∧ sp.V.get i = sp.h.get i

theorem aput_dst {N : Nat} {dst : Option Tmp} {v : Value} {τ τ' : Tmps} (h : aput N dst v τ = some τ') : (∀ d, dst = some d → d < N) ∧ ∀ t, tget τ' t = if dst = some t then v else tget τ t := by
  unfold aput at h
  split at h
  · injection h with h; subst h
    exact ⟨fun d e => (by cases e), fun t => (by simp)⟩
  · rename_i d
    split at h
    · rename_i hd
      injection h with h
      subst h
      refine ⟨fun d' e => by injection e with e; subst e; exact hd, fun t => ?_⟩
      rw [tget_put]
      by_cases e : t = d
      · subst e; simp
      · rw [if_neg e, if_neg]; intro h; injection h with h; exact e h.symm
    · cases h

theorem wpOp_skip {j : Nat} {o : Oper} {τ : Tmps} {μ : Mu} {a : Act} {w : World} {Q : Exit → Act → World → Prop} {K : Act → World → Prop} (hj : ops[j]? = some o) (hw : awanted ops τ o = some false) (hT : TRel μ N τ a.tmps) (h : K (a.put o.dst undef) w) : wpOp cx.P ops Q j K a w := by
  unfold wpOp
  rw [hj]
  simp only
  rw [awanted_ok hT hw, if_neg (by simp)]
  exact h
theorem wpOp_aop (hc : CxOK cx) {j : Nat} {o : Oper} {τ : Tmps} {μ : Mu} {a : Act} {w : World} {V : AHeap} {r : Value × AHeap} {Q : Exit → Act → World → Prop} {K : Act → World → Prop} (hj : ops[j]? = some o) (hw : awanted ops τ o = some true)
    (ho : aop cx.P cx.T cx.G τ o.op V = some r) (hR : Rel cx.G μ V w) (hT : TRel μ N τ a.tmps) (h : ∀ μ' w' v', VRel μ' r.1 v' → Rel cx.G μ' r.2 w' → Tn μ V w μ' r.2 w' → K (a.put o.dst v') w') : wpOp cx.P ops Q j K a w := by
  unfold wpOp
  rw [hj]
  simp only
  rw [awanted_ok hT hw, if_pos rfl]
  left
  obtain ⟨n, w', μ', h1, h2, h3, h4⟩ := aop_ok (a := a) hc.tb hR hT ho
  unfold Oper.wp
  rw [h1]
  rcases h2 with ⟨v', rfl, hv⟩ | ⟨rfl, hv⟩
  · exact h μ' w' v' hv h3 h4
  · exact h μ' w' undef (by rw [hv]; exact .undef μ') h3 h4
theorem wpOp_call (hc : CxOK cx) (hcall : CallOK cx call) {j : Nat} {o : Oper} {τ : Tmps} {μ : Mu} {a : Act} {w : World} {V R : AHeap} {g : FuncId} {vs : List Value} {v : Value} {Q : Exit → Act → World → Prop} {K : Act → World → Prop} (hj : ops[j]? = some o) (hw : awanted ops τ o = some true)
    (ho : acallee cx.G τ o.op = some (g, vs)) (hr : call g vs V = some (v, R)) (hR : Rel cx.G μ V w) (hT : TRel μ N τ a.tmps) (h : ∀ μ' w' v', VRel μ' v v' → Rel cx.G μ' R w' → Tn μ V w μ' R w' → K (a.put o.dst v') w') : wpOp cx.P ops Q j K a w := by
  unfold wpOp
  rw [hj]
  simp only
  rw [awanted_ok hT hw, if_pos rfl]
  left
  obtain ⟨vs', k1, k2⟩ := acallee_ok (a := a) hR hT ho
  obtain ⟨fn, f1, f2⟩ := hcall g vs V v R hr
  obtain ⟨f3, f4⟩ := hc.fn g fn f1
  unfold Oper.wp
  rcases f2 with ⟨hb, hA⟩ | ⟨hb, hfl, hx, hv, rfl⟩
  · obtain ⟨cb, hcb⟩ := Option.isSome_iff_exists.1 hb
    have hrun : (callFunc g vs').run cx.P w = .ok (.enter g vs') w := by
      have hn' : fn.name ≠ "runtime.NumGoroutine" := by simpa using f4
      simp [callFunc, f3, hn', hcb]
    rw [k2, hrun]
    simp only [Oper.upon]
    refine (hA μ w vs' hR k1).mono ?_
    rintro e w' ⟨v1, v', H', μ', rfl, q1, q2, q3, rfl, rfl⟩
    exact h μ' w' v' q1 q2 q3
  · have e : vs' = vs.toArray := min_flat k1 hfl
    subst e
    rw [k2, prun_run cx.P _ _ hx w]
    simp only [Oper.upon]
    exact h μ w v (flat_rel 1 _ hv) hR (Tn.refl hR)

theorem view_facts {H : AHeap} {W : List Nat} {F : List Nat} (hW : okW H W = true) (hF : ∀ i ∈ W, i ∈ F) :
    (∀ i o', (viewL W F H).get i = some o' → (Foot.has (.ids F) i = true ∧ i < H.next) ∧ ∃ o, H.get i = some o ∧ (o' = o ∨ o.shut = some o')) ∧
    (∀ i o, (viewL W F H).get i = some o → o.alive = true → i ∈ W) ∧ (∀ k o i, (viewL W F H).get k = some o → o.alive = true → i ∈ o.par → i < H.next → i ∈ W) ∧
    (∀ i, i ∈ W → (Foot.has (.ids F) i = true ∧ i < H.next) ∧ (viewL W F H).get i = H.get i) := by
  have alive : ∀ i o, (viewL W F H).get i = some o → o.alive = true → i ∈ W ∧ H.get i = some o := by
    intro i o h ha
    rw [get_viewL] at h
    split at h
    · rename_i hi; exact ⟨inL_iff.1 hi, h⟩
    · split at h
      · obtain ⟨o1, h1, h2⟩ := Option.bind_eq_some_iff.1 h
        have := (shut_par h2).2.2
        rw [ha] at this; cases this
      · cases h
  refine ⟨fun i o' h => ?_, fun i o h ha => (alive i o h ha).1, fun k o i h ha hp _ => ?_, fun i hi => ?_⟩
  · rw [get_viewL] at h
    split at h
    · rename_i hi
      exact ⟨⟨inL_iff.2 (hF i (inL_iff.1 hi)), AHeap.get_lt h⟩, o', h, .inl rfl⟩
    · split at h
      · rename_i hi
        obtain ⟨o1, h1, h2⟩ := Option.bind_eq_some_iff.1 h
        exact ⟨⟨hi, AHeap.get_lt h1⟩, o1, h1, .inr h2⟩
      · cases h
  · obtain ⟨h1, h2⟩ := alive k o h ha
    have := List.all_eq_true.1 hW k h1
    rw [h2] at this
    simp only [ha, Bool.and_eq_true, Bool.not_true, Bool.false_or] at this
    exact inL_iff.1 (List.all_eq_true.1 this.2 i hp)
  · have := List.all_eq_true.1 hW i hi
    simp only [Bool.and_eq_true] at this
    refine ⟨⟨inL_iff.2 (hF i hi), by simpa [Nat.blt_eq] using this.1⟩, ?_⟩
    rw [get_viewL, if_pos (inL_iff.2 hi)]
theorem viewQ_facts {H : AHeap} {f : Foot} : ∀ i o', (viewQ f H).get i = some o' → (f.has i = true ∧ i < H.next) ∧ o'.alive = false ∧ ∃ o, H.get i = some o ∧ (o' = o ∨ o.shut = some o') := by
  intro i o' h
  rw [get_viewQ] at h
  split at h
  · rename_i hi
    obtain ⟨o1, h1, h2⟩ := Option.bind_eq_some_iff.1 h
    exact ⟨⟨hi, AHeap.get_lt h1⟩, (shut_par h2).2.2, o1, h1, .inr h2⟩
  · cases h

theorem stepReg_ok (hc : CxOK cx) (hcall : CallOK cx call) {M : List Nat} {j : Nat} {o : Oper} {prev : List (Nat × Stp)} {s st : St} {sp : Stp} (hj : ops[j]? = some o) (h : stepReg cx N call ops M j o prev s = some (sp, st)) :
    sp.o = o ∧ sp.τ = s.1 ∧ sp.h = s.2 ∧ SOK cx N ops j sp st := by
  unfold stepReg at h
  split at h
  · rename_i hw
    obtain ⟨τ', hp, h⟩ := Option.map_eq_some_iff.1 h
    injection h with h1 h2
    subst h1; subst h2
    obtain ⟨d1, d2⟩ := aput_dst hp
    have vf := view_facts (H := s.2) (W := []) (F := []) rfl (fun _ h => h)
    refine ⟨rfl, rfl, rfl, ⟨fun Q μ a w K hR hT hd hK => wpOp_skip hj hw hT (hK μ w undef (.undef μ) hR (Tn.refl hR)), d1, d2, fun i => ⟨?_, fun _ => rfl⟩, ⟨rfl, Nat.le_refl _⟩, rfl, vf.1, vf.2.1, vf.2.2.1, vf.2.2.2⟩⟩
    rintro (hi | hi)
    · cases hi
    · exact absurd (show s.2.next ≤ i ∧ i < s.2.next from hi) (by omega)
  · rename_i hw
    split at h
    · rename_i g vs hg
      split at h
      · split at h
        · rename_i v R hr
          split at h
          · rename_i hn
            rw [Nat.ble_eq] at hn
            obtain ⟨τ', hp, h⟩ := Option.map_eq_some_iff.1 h
            injection h with h1 h2
            subst h1; subst h2
            obtain ⟨d1, d2⟩ := aput_dst hp
            refine ⟨rfl, rfl, rfl, ⟨fun Q μ a w K hR hT hd hK => wpOp_call hc hcall hj hw hg hr hR hT hK, d1, d2, fun i => ⟨fun _ => rfl, fun hi => ?_⟩, ⟨rfl, hn⟩, rfl, fun i o' hi => ⟨⟨rfl, AHeap.get_lt hi⟩, o', hi, .inl rfl⟩, fun i o hi _ => AHeap.get_lt hi,
              fun k ok i hk ha hi h => h, fun i hi => ⟨⟨rfl, hi⟩, rfl⟩⟩⟩
            · have h1 : ¬ i < s.2.next := fun h => hi (.inl h)
              have h2 : ¬ i < R.next := fun h => hi (.inr ⟨Nat.le_of_not_lt h1, h⟩)
              show R.get i = s.2.get i
              rw [AHeap.get_out (Nat.le_of_not_lt h1), AHeap.get_out (Nat.le_of_not_lt h2)]
          · cases h
        · cases h
      · split at h
        · rename_i v R hr
          split at h
          · rename_i hn
            rw [Nat.ble_eq] at hn
            obtain ⟨τ', hp, h⟩ := Option.map_eq_some_iff.1 h
            injection h with h1 h2
            subst h1; subst h2
            obtain ⟨d1, d2⟩ := aput_dst hp
            have vf := viewQ_facts (H := s.2) (f := .but (exOf M j prev))
            refine ⟨rfl, rfl, rfl, ⟨fun Q μ a w K hR hT hd hK => wpOp_call hc hcall hj hw hg hr hR hT hK, d1, d2, fun i => ?_, ⟨layIn_next _ _ _, hn⟩, rfl, fun i o' hi => ⟨(vf i o' hi).1, (vf i o' hi).2.2⟩, fun i o hi ha => ?_, fun k ok i hk ha hi _ => ?_, fun i hi => by cases hi⟩⟩
            · have := get_layIn (W := []) (H := s.2) (R := R) hn (fun _ h => by cases h) i
              exact ⟨fun h => this.trans (if_pos h), fun h => this.trans (if_neg h)⟩
            · rw [(vf i o hi).2.1] at ha; cases ha
            · rw [(vf k ok hk).2.1] at ha; cases ha
          · cases h
        · cases h
    · simp only at h
      split at h
      · rename_i hW
        split at h
        · rename_i v R hr
          split at h
          · rename_i hn
            rw [Nat.ble_eq] at hn
            obtain ⟨τ', hp, h⟩ := Option.map_eq_some_iff.1 h
            injection h with h1 h2
            subst h1; subst h2
            obtain ⟨d1, d2⟩ := aput_dst hp
            have vf := view_facts (F := wIds cx.G s.2 (restr s.1 (o.looksAt ops)) o.op ++ rIds cx.G (restr s.1 (o.looksAt ops)) o.op) hW (fun i hi => List.mem_append_left _ hi)
            refine ⟨rfl, rfl, rfl, ⟨fun Q μ a w K hR hT hd hK => wpOp_aop hc hj hw hr hR hT hK, d1, d2, fun i => ?_, ⟨layIn_next _ _ _, hn⟩, rfl, vf.1, vf.2.1, vf.2.2.1, vf.2.2.2⟩⟩
            have := get_layIn (H := s.2) (R := R) hn (fun i hi => (vf.2.2.2 i hi).1.2) i
            exact ⟨fun h => this.trans (if_pos h), fun h => this.trans (if_neg h)⟩
          · cases h
        · cases h
      · cases h
  · cases h


/-! ### The region's steps -/
def stAt (ps : List Stp) (f : St) (j : Nat) : St := match ps[j]? with
  | some p => (p.τ, p.h)
  | none => f

theorem goReg_ok (hc : CxOK cx) (hcall : CallOK cx call) {M : List Nat} : ∀ (l : List Oper) (j : Nat) (prev : List (Nat × Stp)) (s : St) (ps : List Stp) (f : St), (∀ i o, l[i]? = some o → ops[j + i]? = some o) → goReg cx N call ops M l j prev s = some (ps, f) →
    ps.length = l.length ∧ stAt ps f 0 = s ∧ stAt ps f ps.length = f ∧ ∀ i o, l[i]? = some o → ∃ sp, ps[i]? = some sp ∧ sp.o = o ∧ SOK cx N ops (j + i) sp (stAt ps f (i + 1)) := by
  intro l
  induction l with
  | nil =>
    intro j prev s ps f _ h
    injection h with h
    injection h with h1 h2
    subst h1; subst h2
    exact ⟨rfl, rfl, rfl, fun i o h => by simp at h⟩
  | cons o l ih =>
    intro j prev s ps f hat h
    simp only [goReg] at h
    split at h
    · rename_i p s' hp
      split at h
      · rename_i ps' f' hg
        injection h with h
        injection h with h1 h2
        subst h1; subst h2
        obtain ⟨k1, k2, k3, k4⟩ := stepReg_ok hc hcall (hat 0 o rfl) hp
        obtain ⟨i1, i2, i3, i4⟩ := ih (j + 1) _ s' ps' f' (fun i o' h => by rw [show j + 1 + i = j + (i + 1) by omega]; exact hat (i + 1) o' (by simpa using h)) hg
        refine ⟨by simp [i1], by simp [stAt, k2, k3], by simp [stAt], fun i o' hi => ?_⟩
        cases i with
        | zero =>
          simp at hi
          subst hi
          refine ⟨p, rfl, k1, ?_⟩
          have : stAt (p :: ps') f' (0 + 1) = s' := by rw [← i2]; simp [stAt]
          rw [this]
          exact k4
        | succ i =>
          obtain ⟨sp, m1, m2, m3⟩ := i4 i o' (by simpa using hi)
          refine ⟨sp, by simpa using m1, m2, ?_⟩
          have : stAt (p :: ps') f' (i + 1 + 1) = stAt ps' f' (i + 1) := by simp [stAt]
          rw [this, show j + (i + 1) = j + 1 + i by omega]
          exact m3
      · cases h
    · cases h

/-- A region of which every step is known. -/
theorem steps_ok (hc : CxOK cx) {M : List Nat} {id : Nat} {s f : St} {ps : List Stp} (hO : ROrd ops (befB M)) (hlen : ps.length = ops.size) (k2 : stAt ps f 0 = s) (k3 : stAt ps f ps.length = f)
    (at_ : ∀ j o, ops[j]? = some o → ∃ sp, ps[j]? = some sp ∧ sp.o = o ∧ SOK cx N ops j sp (stAt ps f (j + 1)))
    (hP : ∀ a b s t, a < b → ps[a]? = some s → ps[b]? = some t → befB M a b = true ∨ pairOk s t = true) : ACode cx.P cx.G N (.region id ops true) (fun e τ H => e = .normal ∧ τ = f.1 ∧ H = f.2) s.1 s.2 := by
  let dflt : Stp := ⟨f.1, f.2, f.2, f.2, undef, .ids [], none, [], default⟩
  have gd : ∀ j sp, ps[j]? = some sp → ps.getD j dflt = sp := fun j sp h => by simp [List.getD_eq_getElem?_getD, h]
  have sd : ∀ j sp, ps[j]? = some sp → stAt ps f j = (sp.τ, sp.h) := fun j sp h => by simp [stAt, h]
  have hS : ∀ j o, ops[j]? = some o → RStep cx.P cx.G N ops (befB M) (fun j => (stAt ps f j).1) (fun j => (stAt ps f j).2) (fun j => (ps.getD j dflt).V) (fun j => (ps.getD j dflt).R)
      (fun j i => (ps.getD j dflt).foot.has i = true ∧ i < (ps.getD j dflt).h.next) (fun j i => (ps.getD j dflt).W i) (fun j => (ps.getD j dflt).v) (fun j => (ps.getD j dflt).rd) j o := by
    intro j o hj
    obtain ⟨sp, e1, e2, S⟩ := at_ j o hj
    subst e2
    have e3 := gd j sp e1
    have e4 := sd j sp e1
    have pair : ∀ k ok, ops[k]? = some ok → k ≠ j → ∃ sk, ps[k]? = some sk ∧ sk.o = ok ∧ SOK cx N ops k sk (stAt ps f (k + 1)) ∧ (befB M k j = true ∨ befB M j k = true ∨ (noclash sp.foot sp.h.next sk = true ∧ noT sp sk = true)) := by
      intro k ok hk hne
      obtain ⟨sk, m1, m2, m3⟩ := at_ k ok hk
      refine ⟨sk, m1, m2, m3, ?_⟩
      rcases Nat.lt_or_ge j k with h1 | h1
      · have := hP j k sp sk h1 e1 m1
        simp only [pairOk, Bool.and_eq_true] at this
        rcases this with h | h
        · exact .inr (.inl h)
        · exact .inr (.inr ⟨h.1.1.1, h.1.2⟩)
      · have := hP k j sk sp (by omega) m1 e1
        simp only [pairOk, Bool.and_eq_true] at this
        rcases this with h | h
        · exact .inl h
        · exact .inr (.inr ⟨h.1.1.2, h.2⟩)
    have wr : ∀ k sk, ps[k]? = some sk → SOK cx N ops k sk (stAt ps f (k + 1)) → ∀ i, Wr (fun j => (stAt ps f j).2) (fun j i => (ps.getD j dflt).W i) k i ↔ (sk.W i ∨ (sk.h.next ≤ i ∧ i < sk.R.next)) := by
      intro k sk m1 m3 i
      unfold Wr
      simp only [gd k sk m1, sd k sk m1, m3.next.1]
    refine ⟨?_, S.dst, ?_, ?_, ?_, ?_, ?_, ?_, ?_, ?_, ?_, ?_, ?_⟩
    · simp only [e3, e4]; exact S.sound
    · simp only [e3, e4]; exact S.tau
    · intro i
      rw [wr j sp e1 S i]
      simp only [e3, e4]
      exact S.heap i
    · simp only [e4, S.next.1]; exact S.next.2
    · simp only [e3, S.next.1]; exact Nat.le_refl _
    · simp only [e3, e4]; exact S.vnext
    · simp only [e3, e4]; exact S.sub
    · simp only [e3]; exact S.alive
    · simp only [e3, e4]; exact S.par
    · simp only [e3, e4]
      intro i hi
      have := S.wf i hi
      exact ⟨this.1, this.1.2, this.2⟩
    · intro i k hk hne hF hW
      simp only [e3] at hF
      obtain ⟨sk, m1, m2, m3, m4⟩ := pair k _ (Array.getElem?_eq_getElem hk) hne
      rw [wr k sk m1 m3 i] at hW
      rcases m4 with m4 | m4 | m4
      · exact .inl m4
      · exact .inr m4
      · exact absurd hW (noclash_ok m4.1 hF.1 hF.2)
    · intro t k ok hne ht hk hd
      simp only [e3] at ht
      obtain ⟨sk, m1, m2, m3, m4⟩ := pair k ok hk hne
      rcases m4 with m4 | m4 | m4
      · exact .inl m4
      · exact .inr m4
      · exact absurd (by rw [m2]; exact hd) (noT_ok m4.2 ht)
  have e0 : stAt ps f 0 = s := k2
  have eN : stAt ps f ops.size = f := by rw [← hlen]; exact k3
  have := acode_region_any (G := cx.G) (NT := N) hS hc.mix hO (id := id) (Q := fun e τ H => e = .normal ∧ τ = f.1 ∧ H = f.2) ⟨rfl, by rw [eN], by rw [eN]⟩
  simp only [e0] at this
  exact this

theorem runReg_ok (hc : CxOK cx) (hcall : CallOK cx call) {id : Nat} {s st : St} (h : runReg cx N call ops s = some st) : ACode cx.P cx.G N (.region id ops true) (fun e τ H => e = .normal ∧ τ = st.1 ∧ H = st.2) s.1 s.2 := by
  unfold runReg at h
  simp only at h
  split at h
  · rename_i hM
    simp only [Bool.and_eq_true] at hM
    split at h
    · rename_i ps f hg
      split at h
      · rename_i hP
        injection h with h
        subst h
        have hO := ord_ok (Nat.eq_of_beq_eq_true hM.1) hM.2
        obtain ⟨k1, k2, k3, k4⟩ := goReg_ok hc hcall ops.toList 0 [] s ps f (fun i o h => by simpa using h) hg
        have hlen : ps.length = ops.size := by simpa using k1
        have at_ : ∀ j o, ops[j]? = some o → ∃ sp, ps[j]? = some sp ∧ sp.o = o ∧ SOK cx N ops j sp (stAt ps f (j + 1)) := fun j o hj => by
          have := k4 j o (by simpa using hj)
          simpa using this
        exact steps_ok hc hO hlen k2 k3 at_ fun a b x y hab ha hb => by
          have := pairsOk_at ps 0 hP a b x y hab ha hb
          simpa using this
      · cases h
    · cases h
  · cases h


/-! ### Code, functions -/
theorem runOps_ok (hc : CxOK cx) (hcall : CallOK cx call) : ∀ (l : List Oper) (s st : St), runOps cx N call ops l s = some st → AOps cx.P cx.G N ops (fun e τ H => e = .normal ∧ τ = st.1 ∧ H = st.2) l s.1 s.2 := by
  intro l
  induction l with
  | nil => intro s st h; injection h with h; subst h; exact aops_nil ⟨rfl, rfl, rfl⟩
  | cons o l ih =>
    intro s st h
    simp only [runOps] at h
    split at h
    · rename_i s' hs
      have hrest := ih s' st h
      unfold stepOp at hs
      split at hs
      · rename_i hw
        split at hs
        · rename_i g vs hg
          split at hs
          · rename_i v H' hr
            obtain ⟨τ', hp, rfl⟩ := Option.map_eq_some_iff.1 hs
            obtain ⟨fn, f1, f2⟩ := hcall g vs s.2 v H' hr
            obtain ⟨f3, f4⟩ := hc.fn g fn f1
            rcases f2 with ⟨hb, hA⟩ | ⟨hb, hfl, hx, hv, rfl⟩
            · exact aops_call hw hg f3 hb f4 hA (fun v1 H1 ⟨e1, e2⟩ => ⟨τ', by rw [e1]; exact hp, by rw [e2]; exact hrest⟩)
            · exact aops_ext hw hg hfl hx hv hp hrest
          · cases hs
        · split at hs
          · rename_i v H' hr
            obtain ⟨τ', hp, rfl⟩ := Option.map_eq_some_iff.1 hs
            exact aops_op hc.tb hw hr hp hrest
          · cases hs
      · rename_i hw
        obtain ⟨τ', hp, rfl⟩ := Option.map_eq_some_iff.1 hs
        exact aops_skip hw hp hrest
      · cases hs
    · cases h

/-- As before, with regions in whatever order. -/
def runD (cx : Cx) (N : Nat) (call : Calling) (lf : Nat) : Code → St → Option (Exit × St)
  | .skip, s => some (.normal, s)
  | .label _, s => some (.normal, s)
  | .ret, s => some (.ret, s)
  | .exit i, s => some (.exit i, s)
  | .seq a b, s => match runD cx N call lf a s with
    | some (.normal, s') => runD cx N call lf b s'
    | r => r
  | .cond c a b, s => match aeval cx.G s.1 c with
    | some (.bool true) => runD cx N call lf a s
    | some (.bool false) => runD cx N call lf b s
    | _ => none
  | .block i c, s => match runD cx N call lf c s with
    | some (.exit j, s') => if j = i then some (.normal, s') else some (.exit j, s')
    | r => r
  | .loop c, s => loopN (runD cx N call lf c) lf s
  | .region _ ops false, s => match runOps cx N call ops ops.toList s with
    | some s' => some (.normal, s')
    | none => none
  | .region _ ops true, s => match runReg cx N call ops s with
    | some s' => some (.normal, s')
    | none => none
  | _, _ => none

def At (r : Exit × St) : Post := fun e τ H => e = r.1 ∧ τ = r.2.1 ∧ H = r.2.2
theorem loop_ok {c : Code} {f : St → Option (Exit × St)} (hf : ∀ s r, f s = some r → ACode cx.P cx.G N c (At r) s.1 s.2) : ∀ (n : Nat) (s : St) (r : Exit × St), loopN f n s = some r → ACode cx.P cx.G N (.loop c) (At r) s.1 s.2 := by
  intro n s r h
  refine acode_loop (fun k τ H => ∃ m, m ≤ k ∧ loopN f m (τ, H) = some r) ?_ (n := n) ⟨n, Nat.le_refl _, h⟩
  rintro k τ H ⟨m, hm, hl⟩
  cases m with
  | zero => cases hl
  | succ m =>
    simp only [loopN] at hl
    cases hq : f (τ, H) with
    | none => rw [hq] at hl; cases hl
    | some q =>
      obtain ⟨e, s'⟩ := q
      rw [hq] at hl
      refine (hf (τ, H) _ hq).mono ?_
      rintro e1 τ1 H1 ⟨h1, h2, h3⟩
      simp only at h1 h2 h3
      subst h1; subst h2; subst h3
      cases e1 with
      | normal => exact ⟨m, by omega, m, Nat.le_refl _, hl⟩
      | _ => (injection hl with hl; subst hl; exact ⟨rfl, rfl, rfl⟩)

theorem runD_ok (hc : CxOK cx) (hcall : CallOK cx call) {lf : Nat} : ∀ (c : Code) (s : St) (r : Exit × St), runD cx N call lf c s = some r → ACode cx.P cx.G N c (At r) s.1 s.2 := by
  intro c
  induction c with
  | skip => intro s r h; injection h with h; subst h; exact acode_skip ⟨rfl, rfl, rfl⟩
  | label l => intro s r h; injection h with h; subst h; exact acode_label ⟨rfl, rfl, rfl⟩
  | ret => intro s r h; injection h with h; subst h; exact acode_ret ⟨rfl, rfl, rfl⟩
  | exit i => intro s r h; injection h with h; subst h; exact acode_exit ⟨rfl, rfl, rfl⟩
  | seq a b iha ihb =>
    intro s r h
    simp only [runD] at h
    refine acode_seq ?_
    cases hq : runD cx N call lf a s with
    | none => rw [hq] at h; cases h
    | some q =>
      obtain ⟨e, s'⟩ := q
      rw [hq] at h
      refine (iha s _ hq).mono ?_
      rintro e1 τ1 H1 ⟨h1, h2, h3⟩
      simp only at h1 h2 h3
      subst h1; subst h2; subst h3
      cases e1 with
      | normal => exact ihb s' r h
      | _ => (injection h with h; subst h; exact ⟨rfl, rfl, rfl⟩)
  | cond c a b iha ihb =>
    intro s r h
    simp only [runD] at h
    split at h
    · rename_i hv; exact acode_cond hv (iha s r h)
    · rename_i hv; exact acode_cond hv (ihb s r h)
    · cases h
  | block i c ih =>
    intro s r h
    simp only [runD] at h
    refine acode_block ?_
    cases hq : runD cx N call lf c s with
    | none => rw [hq] at h; cases h
    | some q =>
      obtain ⟨e, s'⟩ := q
      rw [hq] at h
      refine (ih s _ hq).mono ?_
      rintro e1 τ1 H1 ⟨h1, h2, h3⟩
      simp only at h1 h2 h3
      subst h1; subst h2; subst h3
      cases e1 with
      | exit k =>
        simp only [blockQ]
        simp only at h
        split at h
        · rename_i e; rw [if_pos e]; injection h with h; subst h; exact ⟨rfl, rfl, rfl⟩
        · rename_i e; rw [if_neg e]; injection h with h; subst h; exact ⟨rfl, rfl, rfl⟩
      | _ => (injection h with h; subst h; exact ⟨rfl, rfl, rfl⟩)
  | loop c ih => intro s r h; exact loop_ok (fun s r => ih s r) lf s r h
  | region id ops d =>
    intro s r h
    cases d with
    | false =>
      simp only [runD] at h
      split at h
      · rename_i s' hs
        injection h with h
        subst h
        exact acode_region (runOps_ok hc hcall _ s s' hs)
      · cases h
    | true =>
      simp only [runD] at h
      split at h
      · rename_i s' hs
        injection h with h
        subst h
        exact runReg_ok hc hcall hs
      · cases h
  | _ => intros; rename_i h; cases h

def callD (cx : Cx) (lf : Nat) : Nat → Calling
  | 0, _, _, _ => none
  | k + 1, f, args, H =>
    match cx.fn f with
    | some fn =>
      match cx.sp f with
      | some g => g args H
      | none =>
      match fn.body with
      | some c =>
        if Nat.ble args.length fn.ntmps then
          match runD cx fn.ntmps (callD cx lf k) lf c (initT 0 args, H) with
          | some (.normal, τ, H') | some (.ret, τ, H') => (aresults cx.T τ H' fn.results.toList).map fun vs => (wrapR vs, H')
          | _ => none
        else none
      | none => (cx.ext f args).map (·, H)
    | none => none

theorem callD_ok (hc : CxOK cx) {lf : Nat} : ∀ k, CallOK cx (callD cx lf k) := by
  intro k
  induction k with
  | zero => intro g vs H v H' h; cases h
  | succ k ih =>
    intro g vs H v H' h
    simp only [callD] at h
    split at h
    · rename_i fn hf
      refine ⟨fn, hf, ?_⟩
      split at h
      · rename_i g' hg'
        obtain ⟨e1, e2⟩ := hc.sp g fn g' hf hg'
        exact .inl ⟨e1, e2 vs H v H' h⟩
      split at h
      · rename_i c hb
        left
        refine ⟨by rw [hb]; rfl, ?_⟩
        split at h
        · rename_i hlen
          rw [Nat.ble_eq] at hlen
          have key : ∀ e τ H1, runD cx fn.ntmps (callD cx lf k) lf c (initT 0 vs, H) = some (e, τ, H1) → (e = .normal ∨ e = .ret) → (aresults cx.T τ H1 fn.results.toList).map (fun us => (wrapR us, H1)) = some (v, H') →
              ACalls cx.P cx.G g vs H fun v1 H2 => v1 = v ∧ H2 = H' := by
            intro e τ H1 hr he hm
            obtain ⟨us, hu, hm⟩ := Option.map_eq_some_iff.1 hm
            injection hm with hm1 hm2
            subst hm1; subst hm2
            refine acalls_of hc.tb (hc.fn g fn hf).1 hb hlen ((runD_ok hc ih c _ _ hr).mono ?_)
            rintro e1 τ1 H1' ⟨h1, h2, h3⟩
            simp only at h1 h2 h3
            subst h1; subst h2; subst h3
            exact ⟨he, us, hu, rfl, rfl⟩
          split at h
          · rename_i τ H1 hr; exact key _ τ H1 hr (.inl rfl) h
          · rename_i τ H1 hr; exact key _ τ H1 hr (.inr rfl) h
          · cases h
        · cases h
      · rename_i hb
        right
        obtain ⟨u, hu, h⟩ := Option.map_eq_some_iff.1 h
        injection h with h1 h2
        subst h1; subst h2
        obtain ⟨e1, e2, e3⟩ := hc.ext g fn vs u hf hb hu
        exact ⟨hb, e1, e2, e3, rfl⟩
    · cases h

end
end Go.Eng
set_option linter.unusedVariables false
set_option linter.unusedSimpArgs false
namespace Go.Eng
open Go

def noHeap (G : Nat) : AHeap := { t := .lf, next := G }
theorem noHeap_get (G i : Nat) : (noHeap G).get i = none := by
  rcases Nat.lt_or_ge i G with h | h
  · rw [AHeap.get_in (H := noHeap G) h]; rfl
  · exact AHeap.get_out (H := noHeap G) h

theorem Rel.none {G : Nat} {μ : Mu} {H : AHeap} {w : World} (hR : Rel G μ H w) : Rel G (μ.upto G) (noHeap G) w where
  dom := fun i o h => by rw [noHeap_get] at h; cases h
  fin := fun i p h => by
    simp only [Mu.upto] at h
    split at h
    · assumption
    · cases h
  base := Nat.le_refl _
  glob := fun g hg => by
    obtain ⟨p, h1, h2⟩ := hR.glob g hg
    exact ⟨p, by simp only [Mu.upto]; rw [if_pos hg]; exact h1, h2⟩
  sep := fun i j oi oj pi pj _ h => by rw [noHeap_get] at h; cases h
  ro := fun i j oi oj h => by rw [noHeap_get] at h; cases h
  plt := fun i o j h => by rw [noHeap_get] at h; cases h
  pend := fun i j oi oj pi pj h => by rw [noHeap_get] at h; cases h

/-- Where every old block stays: the heap is as it was. -/
theorem Rel.stay {G : Nat} {μ μ1 μ' : Mu} {H R : AHeap} {w w' : World} (hR : Rel G μ H w) (t : Tn μ1 (noHeap G) w μ' R w') : Rel G μ H w' ∧ Tn μ H w μ H w' := by
  have no : ∀ b, ¬ Img μ1 (noHeap G) b := by
    rintro b ⟨i, o, p, h, _⟩
    rw [noHeap_get] at h; cases h
  have same : ∀ k, k < w.heap.size → w'.heap[k]? = w.heap[k]? := fun k hk => t.ext.block k hk (no k)
  constructor
  · exact ⟨fun i o h => by
      obtain ⟨p, x, h1, h2, h3⟩ := hR.dom i o h
      exact ⟨p, x, h1, by rw [same _ (Array.getElem?_eq_some_iff.1 h2).1]; exact h2, h3⟩, hR.fin, hR.base, hR.glob, hR.sep, hR.ro, hR.plt, hR.pend⟩
  · exact { Tn.refl hR with ext := ⟨t.ext.os, t.ext.tape, t.ext.output, t.ext.size, fun k hk _ => same k hk⟩ }

theorem acalls_pure {P : Program} {G : Nat} {f : FuncId} {args : List Value} {v : Value} {R : AHeap} (h : ACalls P G f args (noHeap G) fun v1 H1 => v1 = v ∧ H1 = R) (hf : args.all (flat 0) = true) (hv : flat 1 v = true) (H : AHeap) :
    ACalls P G f args H fun v1 H1 => v1 = v ∧ H1 = H := by
  intro μ w args' hR hA
  have e := min_flat hA hf
  subst e
  refine (h _ w _ hR.none (by simpa using LRel.flat hf)).mono ?_
  rintro e w' ⟨v1, v', H', μ', rfl, q1, q2, q3, rfl, rfl⟩
  obtain ⟨k1, k2⟩ := hR.stay q3
  exact ⟨v1, v', H, μ, rfl, by rw [flat_eq q1 1 hv]; exact flat_rel 1 _ hv, k1, k2, rfl, rfl⟩

theorem acalls_reckoned {cx : Cx} (hc : CxOK cx) {lf k : Nat} {f : FuncId} {fn : Func} {args : List Value} {v : Value} (hf : args.all (flat 0) = true) (hv : flat 1 v = true) (hfn : cx.fn f = some fn) (hb : fn.body.isSome = true)
    (h : (callD cx lf k f args (noHeap cx.G)).map (·.1) = some v) (H : AHeap) : ACalls cx.P cx.G f args H fun v1 H1 => v1 = v ∧ H1 = H := by
  obtain ⟨⟨v1, R⟩, hr, rfl⟩ := Option.map_eq_some_iff.1 h
  obtain ⟨fn', f1, f2⟩ := callD_ok hc k f args _ _ _ hr
  rw [hfn] at f1
  injection f1 with f1
  subst f1
  rcases f2 with ⟨_, hA⟩ | ⟨hn, _⟩
  · exact acalls_pure hA hf hv H
  · rw [hn] at hb; cases hb
end Go.Eng
set_option linter.unusedVariables false
set_option linter.unusedSimpArgs false
namespace Go.Eng
open Go

theorem prun_extern {P : Program} {f : FuncId} {fn : Func} {e : Array Value → Sem Value} {args : Array Value} {v : Value} (hf : P.funcs[f]? = some fn) (hname : (fn.name == "runtime.NumGoroutine") = false) (hb : fn.body = none)
    (hn : Extern.findNext fn = none) (he : Extern.find fn = some e) (h : prun P (e args) = some v) : prun P (callFunc f args) = some (.value v) := by
  have hn' : fn.name ≠ "runtime.NumGoroutine" := by simpa using hname
  have hm : ∀ (m : Mark) (k : Sem Next), prun P (mark m >>= fun _ => k) = prun P k := by intro m k; rfl
  unfold callFunc
  simp only [prun_bind, prun_program, Option.bind_some, hf]
  rw [if_neg (by simpa using hn'), if_pos (by rw [hb]; rfl), hm]
  rw [hn, he]
  have hmap : ∀ m : Sem Value, prun P (Next.value <$> m) = (prun P m).map Next.value := by
    intro m
    have e : (Next.value <$> m) = (m >>= fun x => pure (Next.value x)) := by rw [map_eq_pure_bind]
    rw [e, prun_bind]
    cases prun P m <;> rfl
  simp [hmap, h]

theorem find_idx (c : UInt8) : ∀ (l : List UInt8) (k : Nat), byteIdx c l k = match (List.range l.length).find? (fun i => l[i]! == c) with
    | some i => ((k + i : Nat) : Int)
    | none => -1 := by
  intro l
  induction l with
  | nil => intro k; rfl
  | cons b l ih =>
    intro k
    simp only [byteIdx, List.length_cons, List.range_succ_eq_map, List.find?_cons, List.find?_map]
    by_cases hb : (b == c) = true
    · simp [hb]
    · simp only [hb, Bool.false_eq_true, if_false, ih (k + 1)]
      have h0 : ((b :: l)[0]! == c) = false := by simpa using hb
      rw [h0]
      have e : ((fun i => (b :: l)[i]! == c) ∘ Nat.succ) = fun i => l[i]! == c := by
        funext i; simp [Function.comp]
      rw [e]
      cases (List.range l.length).find? fun i => l[i]! == c with
      | none => rfl
      | some i => show ((k + 1 + i : Nat) : Int) = ((k + (i + 1) : Nat) : Int); congr 1; omega

theorem cnt_fold (c : UInt8) : ∀ (l : List UInt8) (n : Int), l.foldl (fun (n : Int) x => if x == c then n + 1 else n) n = n + (byteCnt c l : Nat) := by
  intro l
  induction l with
  | nil => intro n; simp [byteCnt]
  | cons b l ih => intro n; simp only [List.foldl_cons, byteCnt]; rw [ih]; split <;> (try simp) <;> omega

theorem ext_idx {P : Program} {f : FuncId} {fn : Func} (hf : P.funcs[f]? = some fn) (hname : (fn.name == "runtime.NumGoroutine") = false) (hb : fn.body = none) (hn : Extern.findNext fn = none) (he : Extern.find fn = some Extern.BytealgIndexByte.indexByte)
    {vs : List Value} {v : Value} (h : extIdx vs = some v) : vs.all (flat 0) = true ∧ prun P (callFunc f vs.toArray) = some (.value v) ∧ flat 1 v = true := by
  unfold extIdx at h
  split at h
  · rename_i s c
    injection h with h
    subst h
    refine ⟨rfl, prun_extern hf hname hb hn he ?_, rfl⟩
    have e : ∀ i : Nat, s[i]! = s.data.toList[i]! := by
      intro i
      by_cases hi : i < s.size
      · have h2 : i < s.data.toList.length := hi
        rw [getElem!_pos s i hi, getElem!_pos s.data.toList i h2]
        rfl
      · have h2 : ¬ i < s.data.toList.length := hi
        rw [getElem!_neg s i hi, getElem!_neg s.data.toList i h2]
    have hs : (List.range s.size).find? (fun i : Nat => s[i]! == c.toNat.toUInt8) = (List.range s.data.toList.length).find? fun i : Nat => s.data.toList[i]! == c.toNat.toUInt8 := by
      have : (fun i : Nat => s[i]! == c.toNat.toUInt8) = fun i : Nat => s.data.toList[i]! == c.toNat.toUInt8 := by
        funext i; rw [e i]
      rw [this]; rfl
    have h1 := find_idx c.toNat.toUInt8 s.data.toList 0
    rw [← hs] at h1
    have h2 : Extern.BytealgIndexByte.indexByte #[.string s, .int .u8 c] = (match (List.range s.size).find? (fun i : Nat => s[i]! == c.toNat.toUInt8) with
      | some i => pure (goInt i)
      | none => pure (goInt (-1))) := rfl
    show prun P (Extern.BytealgIndexByte.indexByte #[.string s, .int .u8 c]) = _
    rw [h2, h1]
    cases (List.range s.size).find? (fun i : Nat => s[i]! == c.toNat.toUInt8) with
    | some i => simp [goInt]
    | none => rfl
  · cases h
theorem ext_cnt {P : Program} {f : FuncId} {fn : Func} (hf : P.funcs[f]? = some fn) (hname : (fn.name == "runtime.NumGoroutine") = false) (hb : fn.body = none) (hn : Extern.findNext fn = none) (he : Extern.find fn = some Extern.BytealgCount.count)
    {vs : List Value} {v : Value} (h : extCnt vs = some v) : vs.all (flat 0) = true ∧ prun P (callFunc f vs.toArray) = some (.value v) ∧ flat 1 v = true := by
  unfold extCnt at h
  split at h
  · rename_i s c
    injection h with h
    subst h
    refine ⟨rfl, prun_extern hf hname hb hn he ?_, rfl⟩
    have h2 : Extern.BytealgCount.count #[.string s, .int .u8 c] = pure (goInt (s.foldl (fun (n : Int) x => if x == c.toNat.toUInt8 then n + 1 else n) ((0 : Nat) : Int))) := rfl
    show prun P (Extern.BytealgCount.count #[.string s, .int .u8 c]) = _
    rw [h2, Lib.foldl_data, cnt_fold]
    simp [goInt]
  · cases h
end Go.Eng
set_option linter.unusedVariables false
set_option linter.unusedSimpArgs false
namespace Go.Eng
open Go

/-! ### Going on with a result -/
def bindV (r : Option Value) (k : Value → Prop) : Prop := match r with | some v => k v | none => False
def bindR (r : Option (Value × AHeap)) (k : Value → AHeap → Prop) : Prop := match r with | some (v, H) => k v H | none => False
def bindH (r : Option AHeap) (k : AHeap → Prop) : Prop := match r with | some H => k H | none => False
def bindL (r : Option (List Value)) (k : List Value → Prop) : Prop := match r with | some v => k v | none => False
def bindP (r : Option (List (Nat × Value))) (k : List (Nat × Value) → Prop) : Prop := match r with | some v => k v | none => False
def bindO (r : Option (Option Value)) (k : Option Value → Prop) : Prop := match r with | some v => k v | none => False
def bindS (r : Option St) (k : Tmps → AHeap → Prop) : Prop := match r with | some s => k s.1 s.2 | none => False
/-- A truth that is looked at. -/
def ifW (r : Option Value) (p q : Prop) : Prop := match r with | some (.bool b) => (b = true → p) ∧ (b = false → q) | _ => False
def gdW (r : Option Value) (want : Bool) (p q : Prop) : Prop := match r with | some (.bool b) => (b = want → p) ∧ (b = !want → q) | some (.tuple _) => q | _ => False
theorem bindV_some (v : Value) (k : Value → Prop) : bindV (some v) k = k v := id rfl
theorem bindR_some (v : Value) (H : AHeap) (k : Value → AHeap → Prop) : bindR (some (v, H)) k = k v H := id rfl
theorem bindH_some (H : AHeap) (k : AHeap → Prop) : bindH (some H) k = k H := id rfl
theorem bindL_some (v : List Value) (k : List Value → Prop) : bindL (some v) k = k v := id rfl
theorem bindP_some (v : List (Nat × Value)) (k : List (Nat × Value) → Prop) : bindP (some v) k = k v := id rfl
theorem bindO_some (v : Option Value) (k : Option Value → Prop) : bindO (some v) k = k v := id rfl
theorem ifW_bool (b : Bool) (p q : Prop) : ifW (some (.bool b)) p q = ((b = true → p) ∧ (b = false → q)) := id rfl
theorem ifW_true (p q : Prop) : ifW (some (.bool true)) p q = p := by simp [ifW]
theorem ifW_false (p q : Prop) : ifW (some (.bool false)) p q = q := by simp [ifW]
theorem gdW_bool (b w : Bool) (p q : Prop) : gdW (some (.bool b)) w p q = ((b = w → p) ∧ (b = !w → q)) := id rfl
theorem gdW_yes (w : Bool) (p q : Prop) : gdW (some (.bool w)) w p q = p := by cases w <;> simp [gdW]
theorem gdW_tf (p q : Prop) : gdW (some (.bool true)) false p q = q := by simp [gdW]
theorem gdW_ft (p q : Prop) : gdW (some (.bool false)) true p q = q := by simp [gdW]
theorem gdW_undef (w : Bool) (p q : Prop) : gdW (some undef) w p q = q := id rfl
@[congr] theorem bindV_congr {r r' : Option Value} {k : Value → Prop} (h : r = r') : bindV r k = bindV r' k := by rw [h]
@[congr] theorem bindR_congr {r r' : Option (Value × AHeap)} {k : Value → AHeap → Prop} (h : r = r') : bindR r k = bindR r' k := by rw [h]
@[congr] theorem bindH_congr {r r' : Option AHeap} {k : AHeap → Prop} (h : r = r') : bindH r k = bindH r' k := by rw [h]
@[congr] theorem bindL_congr {r r' : Option (List Value)} {k : List Value → Prop} (h : r = r') : bindL r k = bindL r' k := by rw [h]
@[congr] theorem bindP_congr {r r' : Option (List (Nat × Value))} {k : List (Nat × Value) → Prop} (h : r = r') : bindP r k = bindP r' k := by rw [h]
@[congr] theorem bindO_congr {r r' : Option (Option Value)} {k : Option Value → Prop} (h : r = r') : bindO r k = bindO r' k := by rw [h]
@[congr] theorem ifW_congr {r r' : Option Value} {p q : Prop} (h : r = r') : ifW r p q = ifW r' p q := by rw [h]
@[congr] theorem gdW_congr {r r' : Option Value} {w : Bool} {p q : Prop} (h : r = r') : gdW r w p q = gdW r' w p q := by rw [h]

/-- A call of whatever function: with a Go body, by its contract; without, by its answer. -/
def CallsX (cx : Cx) (g : FuncId) (vs : List Value) (H : AHeap) (K : Value → AHeap → Prop) : Prop :=
  (∃ fn, cx.P.funcs[g]? = some fn ∧ fn.body.isSome = true ∧ (fn.name == "runtime.NumGoroutine") = false ∧ ACalls cx.P cx.G g vs H K) ∨
  (∃ v, vs.all (flat 0) = true ∧ prun cx.P (callFunc g vs.toArray) = some (.value v) ∧ flat 1 v = true ∧ K v H)
@[congr] theorem CallsX_congr {cx : Cx} {g : FuncId} {vs vs' : List Value} {H H' : AHeap} {K : Value → AHeap → Prop} (h1 : vs = vs') (h2 : H = H') : CallsX cx g vs H K = CallsX cx g vs' H' K := by rw [h1, h2]
/-- The same, with what goes on out of simp's way. -/
def KU (K : Value → AHeap → Prop) : Type := Unit
def CallsXu (cx : Cx) (g : FuncId) (vs : List Value) (H : AHeap) (K : Value → AHeap → Prop) (u : KU K) : Prop := CallsX cx g vs H K
/-- A function that is known by what it reckons. -/
def spW (cx : Cx) (g : FuncId) (F : Option (List Value → AHeap → Option (Value × AHeap))) (vs : List Value) (H : AHeap) (K : Value → AHeap → Prop) : Prop := match F with
  | some F => (∃ fn, cx.fn g = some fn) ∧ bindR (F vs H) K
  | none => CallsX cx g vs H K
@[congr] theorem spW_congr {cx : Cx} {g : FuncId} {F F' : Option (List Value → AHeap → Option (Value × AHeap))} {vs vs' : List Value} {H H' : AHeap} {K : Value → AHeap → Prop} (h0 : F = F') (h1 : vs = vs') (h2 : H = H') : spW cx g F vs H K = spW cx g F' vs' H' K := by rw [h0, h1, h2]
def callW (cx : Cx) (f : Value) (vs : List Value) (H : AHeap) (K : Value → AHeap → Prop) : Prop := match f with
  | .func (.func g) first cap => spW cx g (cx.sp g) (first.toList ++ vs ++ cap.toList) H K
  | _ => False
@[congr] theorem callW_congr {cx : Cx} {f f' : Value} {vs vs' : List Value} {H H' : AHeap} {K : Value → AHeap → Prop} (h0 : f = f') (h1 : vs = vs') (h2 : H = H') : callW cx f vs H K = callW cx f' vs' H' K := by rw [h0, h1, h2]
theorem callW_plain (cx : Cx) (g : FuncId) (vs : List Value) (H : AHeap) (K : Value → AHeap → Prop) : callW cx (.func (.func g) #[] #[]) vs H K = spW cx g (cx.sp g) vs H K := by simp [callW]

/-- An operation that is wanted. -/
def opW (cx : Cx) (op : Op) (τ : Tmps) (H : AHeap) (K : Value → AHeap → Prop) : Prop := match op with
  | .call { callee := .value f, args, .. } => bindV (aeval cx.G τ f) fun fv => bindL (aevals cx.G τ args.toList) fun vs => callW cx fv vs H K
  | op => bindR (aop cx.P cx.T cx.G τ op H) K
def opsW (cx : Cx) (N : Nat) (ops : Array Oper) (K : Tmps → AHeap → Prop) : List Oper → Tmps → AHeap → Prop
  | [], τ, H => K τ H
  | o :: l, τ, H =>
    let yes := opW cx o.op τ H fun v H' => match o.dst with
      | none => opsW cx N ops K l τ H'
      | some d => d < N ∧ opsW cx N ops K l (τ.put d (some v)) H'
    let no := match o.dst with
      | none => opsW cx N ops K l τ H
      | some d => d < N ∧ opsW cx N ops K l (τ.put d (some undef)) H
    match o.guard with
    | none => yes
    | some (j, want) => gdW (((ops[j]?).bind (·.dst)).map (tget τ)) want yes no
/-- The operation that a guard names. -/
def dstV (ops : List Oper) (j : Nat) (τ : Tmps) : Option Value := ((ops[j]?).bind (·.dst)).map (tget τ)
theorem dstV_succ (o : Oper) (l : List Oper) (j : Nat) (τ : Tmps) : dstV (o :: l) (j + 1) τ = dstV l j τ := by simp [dstV]
theorem dstV_zero (l : List Oper) (τ : Tmps) (d : Nat) (op : Op) (ty : TypeId) (ps : String) (af : Array Edge) (g : Option (Nat × Bool)) : dstV ({ dst := some d, op := op, type := ty, pos := ps, after := af, guard := g } :: l) 0 τ = some (tget τ d) := id rfl
/-- A region's operations from one on. -/
def opsL (cx : Cx) (N : Nat) (ops : List Oper) (K : Tmps → AHeap → Prop) (l : List Oper) (τ : Tmps) (H : AHeap) : Prop := opsW cx N ops.toArray K l τ H
@[congr] theorem opsL_congr {cx : Cx} {N : Nat} {ops : List Oper} {K : Tmps → AHeap → Prop} {l : List Oper} {τ τ' : Tmps} {H H' : AHeap} (h1 : τ = τ') (h2 : H = H') : opsL cx N ops K l τ H = opsL cx N ops K l τ' H' := by rw [h1, h2]
theorem opsW_nil (cx : Cx) (N : Nat) (ops : List Oper) (K : Tmps → AHeap → Prop) (τ : Tmps) (H : AHeap) : opsL cx N ops K [] τ H = K τ H := id rfl
theorem opsW_d (cx : Cx) (N : Nat) (ops : List Oper) (K : Tmps → AHeap → Prop) (l : List Oper) (τ : Tmps) (H : AHeap) (d : Nat) (op : Op) (ty : TypeId) (ps : String) (af : Array Edge) :
    opsL cx N ops K ({ dst := some d, op := op, type := ty, pos := ps, after := af, guard := none } :: l) τ H = opW cx op τ H fun v H' => d < N ∧ opsL cx N ops K l (τ.put d (some v)) H' := id rfl
theorem opsW_0 (cx : Cx) (N : Nat) (ops : List Oper) (K : Tmps → AHeap → Prop) (l : List Oper) (τ : Tmps) (H : AHeap) (op : Op) (ty : TypeId) (ps : String) (af : Array Edge) :
    opsL cx N ops K ({ dst := none, op := op, type := ty, pos := ps, after := af, guard := none } :: l) τ H = opW cx op τ H fun v H' => opsL cx N ops K l τ H' := id rfl
theorem opsW_gd (cx : Cx) (N : Nat) (ops : List Oper) (K : Tmps → AHeap → Prop) (l : List Oper) (τ : Tmps) (H : AHeap) (d j : Nat) (w : Bool) (op : Op) (ty : TypeId) (ps : String) (af : Array Edge) :
    opsL cx N ops K ({ dst := some d, op := op, type := ty, pos := ps, after := af, guard := some (j, w) } :: l) τ H = gdW (dstV ops j τ) w (opW cx op τ H fun v H' => d < N ∧ opsL cx N ops K l (τ.put d (some v)) H') (d < N ∧ opsL cx N ops K l (τ.put d (some undef)) H) := by
  unfold opsL; simp only [opsW, dstV, List.getElem?_toArray]
theorem opsW_g0 (cx : Cx) (N : Nat) (ops : List Oper) (K : Tmps → AHeap → Prop) (l : List Oper) (τ : Tmps) (H : AHeap) (j : Nat) (w : Bool) (op : Op) (ty : TypeId) (ps : String) (af : Array Edge) :
    opsL cx N ops K ({ dst := none, op := op, type := ty, pos := ps, after := af, guard := some (j, w) } :: l) τ H = gdW (dstV ops j τ) w (opW cx op τ H fun v H' => opsL cx N ops K l τ H') (opsL cx N ops K l τ H) := by
  unfold opsL; simp only [opsW, dstV, List.getElem?_toArray]
@[congr] theorem opW_congr {cx : Cx} {op : Op} {K : Value → AHeap → Prop} {τ τ' : Tmps} {H H' : AHeap} (h1 : τ = τ') (h2 : H = H') : opW cx op τ H K = opW cx op τ' H' K := by rw [h1, h2]

/-- Calls by what is known of the functions. -/
def callS (cx : Cx) : Calling := fun g vs H => match cx.fn g, cx.sp g with
  | some _, some F => F vs H
  | _, _ => none

abbrev PostW := Exit → Tmps → AHeap → Prop
def seqW (K : Tmps → AHeap → Prop) (Q : PostW) : PostW := fun e τ H => match e with
  | .normal => K τ H
  | e => Q e τ H
def blkW (id : Nat) (Q : PostW) : PostW := fun e τ H => match e with
  | .exit i => if i = id then Q .normal τ H else Q (.exit i) τ H
  | e => Q e τ H
def codeW (cx : Cx) (N : Nat) : Code → PostW → Tmps → AHeap → Prop
  | .skip, Q, τ, H => Q .normal τ H
  | .label _, Q, τ, H => Q .normal τ H
  | .ret, Q, τ, H => Q .ret τ H
  | .exit i, Q, τ, H => Q (.exit i) τ H
  | .seq a b, Q, τ, H => codeW cx N a (seqW (codeW cx N b Q) Q) τ H
  | .cond c a b, Q, τ, H => ifW (aeval cx.G τ c) (codeW cx N a Q τ H) (codeW cx N b Q τ H)
  | .block i c, Q, τ, H => codeW cx N c (blkW i Q) τ H
  | .loop c, Q, τ, H => ∃ (I : Nat → Tmps → AHeap → Prop) (n : Nat), I n τ H ∧ ∀ n τ H, I n τ H → codeW cx N c (seqW (fun τ' H' => ∃ m, m < n ∧ I m τ' H') Q) τ H
  | .region id ops d, Q, τ, H => bif d then ACode cx.P cx.G N (.region id ops true) Q τ H else opsW cx N ops (Q .normal) ops.toList τ H
  | _, _, _, _ => False
@[congr] theorem codeW_congr {cx : Cx} {N : Nat} {c : Code} {Q : PostW} {τ τ' : Tmps} {H H' : AHeap} (h1 : τ = τ') (h2 : H = H') : codeW cx N c Q τ H = codeW cx N c Q τ' H' := by rw [h1, h2]
@[congr] theorem seqW_congr {K : Tmps → AHeap → Prop} {Q : PostW} {e : Exit} {τ τ' : Tmps} {H H' : AHeap} (h1 : τ = τ') (h2 : H = H') : seqW K Q e τ H = seqW K Q e τ' H' := by rw [h1, h2]
@[congr] theorem blkW_congr {i : Nat} {Q : PostW} {e : Exit} {τ τ' : Tmps} {H H' : AHeap} (h1 : τ = τ') (h2 : H = H') : blkW i Q e τ H = blkW i Q e τ' H' := by rw [h1, h2]
section
variable (cx : Cx) (N : Nat) (Q : PostW) (τ : Tmps) (H : AHeap)
theorem codeW_skip : codeW cx N .skip Q τ H = Q .normal τ H := id rfl
theorem codeW_label (i : Nat) : codeW cx N (.label i) Q τ H = Q .normal τ H := id rfl
theorem codeW_ret : codeW cx N .ret Q τ H = Q .ret τ H := id rfl
theorem codeW_exit (i : Nat) : codeW cx N (.exit i) Q τ H = Q (.exit i) τ H := id rfl
theorem codeW_seq (a b : Code) : codeW cx N (.seq a b) Q τ H = codeW cx N a (seqW (codeW cx N b Q) Q) τ H := id rfl
theorem codeW_cond (c : Operand) (a b : Code) : codeW cx N (.cond c a b) Q τ H = ifW (aeval cx.G τ c) (codeW cx N a Q τ H) (codeW cx N b Q τ H) := id rfl
theorem codeW_block (i : Nat) (c : Code) : codeW cx N (.block i c) Q τ H = codeW cx N c (blkW i Q) τ H := id rfl
theorem codeW_region (i : Nat) (ops : List Oper) : codeW cx N (.region i ops.toArray false) Q τ H = opsL cx N ops (Q .normal) ops τ H := id rfl
theorem codeW_draws (i : Nat) (ops : Array Oper) : codeW cx N (.region i ops true) Q τ H = ACode cx.P cx.G N (.region i ops true) Q τ H := id rfl
theorem seqW_normal (K : Tmps → AHeap → Prop) : seqW K Q .normal τ H = K τ H := id rfl
theorem seqW_ret (K : Tmps → AHeap → Prop) : seqW K Q .ret τ H = Q .ret τ H := id rfl
theorem seqW_exit (K : Tmps → AHeap → Prop) (i : Nat) : seqW K Q (.exit i) τ H = Q (.exit i) τ H := id rfl
theorem blkW_normal (i : Nat) : blkW i Q .normal τ H = Q .normal τ H := id rfl
theorem blkW_ret (i : Nat) : blkW i Q .ret τ H = Q .ret τ H := id rfl
theorem blkW_exit (i j : Nat) : blkW i Q (.exit j) τ H = if j = i then Q .normal τ H else Q (.exit j) τ H := id rfl
theorem blkW_here (i : Nat) : blkW i Q (.exit i) τ H = Q .normal τ H := by simp [blkW]
end
/-- A loop. -/
theorem codeW_loop {cx : Cx} {N : Nat} {c : Code} {Q : PostW} {τ : Tmps} {H : AHeap} (I : Nat → Tmps → AHeap → Prop) {n : Nat} (h : I n τ H) (round : ∀ n τ H, I n τ H → codeW cx N c (seqW (fun τ' H' => ∃ m, m < n ∧ I m τ' H') Q) τ H) : codeW cx N (.loop c) Q τ H :=
  ⟨I, n, h, round⟩

section
variable {cx : Cx} {N : Nat}

theorem callS_ok (hc : CxOK cx) : CallOK cx (callS cx) := by
  intro g vs H v H' h
  unfold callS at h
  split at h
  · rename_i fn F hf hF
    obtain ⟨e1, e2⟩ := hc.sp g fn F hf hF
    exact ⟨fn, hf, .inl ⟨e1, e2 vs H v H' h⟩⟩
  · cases h

theorem opsW_ok (hc : CxOK cx) {ops : Array Oper} {Q : Post} : ∀ (l : List Oper) (τ : Tmps) (H : AHeap), opsW cx N ops (Q .normal) l τ H → AOps cx.P cx.G N ops Q l τ H := by
  intro l
  induction l with
  | nil => intro τ H h; exact aops_nil h
  | cons o l ih =>
    intro τ H h
    have put : ∀ (τ : Tmps) (v : Value) (H' : AHeap), (match o.dst with
        | none => opsW cx N ops (Q .normal) l τ H'
        | some d => d < N ∧ opsW cx N ops (Q .normal) l (τ.put d (some v)) H') → ∃ τ', aput N o.dst v τ = some τ' ∧ AOps cx.P cx.G N ops Q l τ' H' := by
      intro τ v H' h
      split at h
      · rename_i hd; exact ⟨τ, by rw [hd]; rfl, ih _ _ h⟩
      · rename_i d hd; exact ⟨_, by rw [hd]; unfold aput; simp [h.1], ih _ _ h.2⟩
    have skip : (match o.dst with
        | none => opsW cx N ops (Q .normal) l τ H
        | some d => d < N ∧ opsW cx N ops (Q .normal) l (τ.put d (some undef)) H) → awanted ops τ o = some false → AOps cx.P cx.G N ops Q (o :: l) τ H := by
      intro hp hw
      obtain ⟨τ', h1, h2⟩ := put _ _ _ hp
      exact aops_skip hw h1 h2
    have go : (opW cx o.op τ H fun v H' => match o.dst with
        | none => opsW cx N ops (Q .normal) l τ H'
        | some d => d < N ∧ opsW cx N ops (Q .normal) l (τ.put d (some v)) H') → awanted ops τ o = some true → AOps cx.P cx.G N ops Q (o :: l) τ H := by
      intro hp hw
      unfold opW at hp
      split at hp
      · rename_i f args ts sp hop
        unfold bindV bindL at hp
        split at hp
        · rename_i fv hf
          split at hp
          · rename_i vs hvs
            unfold callW at hp
            split at hp
            · rename_i g first cap
              have hg : acallee cx.G τ o.op = some (g, first.toList ++ vs ++ cap.toList) := by unfold acallee; rw [hop]; simp only [hf, hvs]
              unfold spW at hp
              split at hp
              · rename_i F hF
                obtain ⟨⟨fn, hfn⟩, hp⟩ := hp
                unfold bindR at hp
                split at hp
                · rename_i v H' hr
                  obtain ⟨e1, e2⟩ := hc.sp g fn F hfn hF
                  refine aops_call hw hg (hc.fn g fn hfn).1 e1 (hc.fn g fn hfn).2 (e2 _ _ _ _ hr) ?_
                  rintro v1 H1 ⟨rfl, rfl⟩
                  exact put _ _ _ hp
                · cases hp
              · rcases hp with ⟨fn, f1, f2, f3, f4⟩ | ⟨v, f1, f2, f3, f4⟩
                · exact aops_call hw hg f1 f2 f3 f4 fun v H' hk => put _ _ _ hk
                · obtain ⟨τ', h1, h2⟩ := put _ _ _ f4
                  exact aops_ext hw hg f1 f2 f3 h1 h2
            · cases hp
          · cases hp
        · cases hp
      · rename_i hop
        unfold bindR at hp
        split at hp
        · rename_i v H' ho
          obtain ⟨τ', h1, h2⟩ := put _ _ _ hp
          exact aops_op hc.tb hw ho h1 h2
        · cases hp
    simp only [opsW] at h
    split at h
    · rename_i hg
      exact go h (by unfold awanted; rw [hg])
    · rename_i j want hg
      unfold gdW at h
      split at h
      · rename_i b hb
        obtain ⟨d, hd, hv⟩ := Option.map_eq_some_iff.1 hb
        by_cases e : b = want
        · exact go (h.1 e) (by unfold awanted; rw [hg]; simp only [hd, hv, e, beq_self_eq_true])
        · have e' : b = !want := by cases b <;> cases want <;> simp_all
          exact skip (h.2 e') (by unfold awanted; rw [hg]; simp only [hd, hv, e']; cases want <;> rfl)
      · rename_i c hb
        obtain ⟨d, hd, hv⟩ := Option.map_eq_some_iff.1 hb
        exact skip h (by unfold awanted; rw [hg]; simp only [hd, hv])
      · cases h

theorem codeW_ok (hc : CxOK cx) : ∀ (c : Code) (Q : Post) (τ : Tmps) (H : AHeap), codeW cx N c Q τ H → ACode cx.P cx.G N c Q τ H := by
  intro c
  induction c with
  | skip => intro Q τ H h; exact acode_skip h
  | label l => intro Q τ H h; exact acode_label h
  | ret => intro Q τ H h; exact acode_ret h
  | exit i => intro Q τ H h; exact acode_exit h
  | seq a b iha ihb =>
    intro Q τ H h
    refine acode_seq ((iha _ τ H h).mono ?_)
    intro e τ' H' h'
    cases e with
    | normal => exact ihb Q τ' H' h'
    | _ => exact h'
  | cond c a b iha ihb =>
    intro Q τ H h
    simp only [codeW] at h
    unfold ifW at h
    split at h
    · rename_i v hv
      cases v with
      | true => exact acode_cond hv (iha Q τ H (h.1 rfl))
      | false => exact acode_cond hv (ihb Q τ H (h.2 rfl))
    · cases h
  | block i c ih =>
    intro Q τ H h
    refine acode_block ((ih _ τ H h).mono ?_)
    intro e τ' H' h'
    cases e with
    | exit k => exact h'
    | _ => exact h'
  | loop c ih =>
    intro Q τ H h
    obtain ⟨I, n, h1, h2⟩ := h
    refine acode_loop I (fun n τ H hI => ?_) h1
    refine (ih _ τ H (h2 n τ H hI)).mono ?_
    intro e τ' H' h'
    cases e with
    | normal => exact h'
    | _ => exact h'
  | region id ops d =>
    intro Q τ H h
    cases d with
    | false => exact acode_region (opsW_ok hc _ τ H h)
    | true => exact h
  | _ => intro Q τ H h; cases h

/-- Results. -/
def resW (cx : Cx) (rs : List ResultVar) (Q : Value → AHeap → Prop) : PostW := fun e τ H => (e = .normal ∨ e = .ret) ∧ bindL (aresults cx.T τ H rs) fun vs => Q (wrapR vs) H
theorem acalls_w (hc : CxOK cx) {f : FuncId} {fn : Func} {c : Code} {args : List Value} {H : AHeap} {Q : Value → AHeap → Prop} (hf : cx.fn f = some fn) (hb : fn.body = some c) (hN : args.length ≤ fn.ntmps)
    (h : codeW cx fn.ntmps c (resW cx fn.results.toList Q) (initT 0 args) H) : ACalls cx.P cx.G f args H Q :=
  acalls_of hc.tb (hc.fn f fn hf).1 hb hN ((codeW_ok hc _ _ _ _ h).mono fun e τ H' h => by
    obtain ⟨h1, h2⟩ := h
    unfold bindL at h2
    split at h2
    · rename_i vs hvs; exact ⟨h1, vs, hvs, h2⟩
    · cases h2)
theorem callsx_of (hc : CxOK cx) {g : FuncId} {fn : Func} {vs : List Value} {H : AHeap} {K K' : Value → AHeap → Prop} (hf : cx.fn g = some fn) (hb : fn.body.isSome = true) (h : ACalls cx.P cx.G g vs H K') (hk : ∀ v H', K' v H' → K v H') : CallsXu cx g vs H K () :=
  .inl ⟨fn, (hc.fn g fn hf).1, hb, (hc.fn g fn hf).2, h.mono hk⟩
end
end Go.Eng
set_option linter.unusedVariables false
set_option linter.unusedSimpArgs false
namespace Go.Eng
open Go

attribute [go_sem ↓] bindV_some bindR_some bindH_some bindL_some bindP_some bindO_some ifW_true ifW_false gdW_tf gdW_ft callW_plain opsW_nil opsW_d opsW_0 opsW_gd opsW_g0 dstV_succ dstV_zero
theorem gdW_decT (p : Prop) [Decidable p] (y n : Prop) : gdW (some (.bool (decide p))) true y n = ((p → y) ∧ (¬ p → n)) := by simp [gdW]
theorem gdW_decF (p : Prop) [Decidable p] (y n : Prop) : gdW (some (.bool (decide p))) false y n = ((¬ p → y) ∧ (p → n)) := by simp [gdW]
theorem ifW_dec (p : Prop) [Decidable p] (y n : Prop) : ifW (some (.bool (decide p))) y n = ((p → y) ∧ (¬ p → n)) := by simp [ifW]
theorem gdW_nT (b : Bool) (y n : Prop) : gdW (some (.bool (!b))) true y n = gdW (some (.bool b)) false y n := by cases b <;> simp [gdW]
theorem gdW_nF (b : Bool) (y n : Prop) : gdW (some (.bool (!b))) false y n = gdW (some (.bool b)) true y n := by cases b <;> simp [gdW]
theorem ifW_n (b : Bool) (y n : Prop) : ifW (some (.bool (!b))) y n = ifW (some (.bool b)) n y := by cases b <;> simp [ifW]
theorem gdW_bT (b : Bool) (y n : Prop) : gdW (some (.bool b)) true y n = ((b = true → y) ∧ (b = false → n)) := id rfl
theorem gdW_bF (b : Bool) (y n : Prop) : gdW (some (.bool b)) false y n = ((b = false → y) ∧ (b = true → n)) := id rfl
theorem gdW_vT (y n : Prop) : gdW (some (.bool true)) true y n = y := gdW_yes ..
theorem gdW_vF (y n : Prop) : gdW (some (.bool false)) false y n = y := gdW_yes ..
attribute [go_sem ↓] gdW_nT gdW_nF ifW_n gdW_vT gdW_vF gdW_undef
attribute [go_sem] true_and and_true or_true true_or false_or decide_true decide_false Bool.not_true Bool.not_false Bool.and_true Bool.true_and Bool.and_false Bool.false_and Bool.or_true Bool.true_or Bool.or_false Bool.false_or eq_self implies_true not_true_eq_false not_false_eq_true forall_const decide_eq_true_eq reduceCtorEq Bool.true_eq_false Bool.false_eq_true false_implies decide_eq_false_iff_not if_true if_false List.getElem?_cons_succ List.getElem?_cons_zero List.getD_cons_zero List.getD_cons_succ resW false_implies ne_eq List.all_cons List.all_nil List.length_cons List.length_nil
attribute [go_sem ↓] codeW_skip codeW_label codeW_ret codeW_exit codeW_seq codeW_cond codeW_block codeW_region seqW_normal seqW_ret seqW_exit blkW_normal blkW_ret blkW_exit blkW_here

section
variable (cx : Cx) (τ : Tmps) (H : AHeap) (K : Value → AHeap → Prop)
def pickV (r : Option Value) (k : Value → Prop) : Prop := bindV r k
theorem opW_of {op : Op} (h : ∀ f args ts, op ≠ .call { callee := .value f, args := args, argTypes := ts }) : opW cx op τ H K = bindR (aop cx.P cx.T cx.G τ op H) K := by
  unfold opW
  split
  · exact absurd rfl (h _ _ _)
  · rfl
theorem bindR_map (r : Option Value) (H : AHeap) : bindR (r.map (·, H)) K = bindV r fun v => K v H := by cases r <;> rfl
theorem bindR_bind (r : Option Value) (f : Value → Option (Value × AHeap)) : bindR (r.bind f) K = bindV r fun v => bindR (f v) K := by cases r <;> rfl
theorem bindR_mapH (r : Option AHeap) : bindR (r.map (undef, ·)) K = bindH r fun H' => K undef H' := by cases r <;> rfl
theorem bindR_bindL (r : Option (List Value)) (f : List Value → Option (Value × AHeap)) : bindR (r.bind f) K = bindL r fun v => bindR (f v) K := by cases r <;> rfl
theorem bindR_bindP (r : Option (List (Nat × Value))) (f : List (Nat × Value) → Option (Value × AHeap)) : bindR (r.bind f) K = bindP r fun v => bindR (f v) K := by cases r <;> rfl
theorem bindR_bindO (r : Option (Option Value)) (f : Option Value → Option (Value × AHeap)) : bindR (r.bind f) K = bindO r fun v => bindR (f v) K := by cases r <;> rfl

/-- Two operands, an answer without addresses. -/
def aBinF (P : Program) (T : Tb) (op : BinOp) (t : TypeId) (ox oy : Operand) (x y : Value) (H : AHeap) : Option Value := (aBin P T op t ox oy x y H).bind fun v => if flat 1 v then some v else none
def aUnF (P : Program) (op : UnOp) (x : Value) : Option Value := (aUn P op x).bind fun v => if flat 1 v then some v else none
def aNil : Value → Option Value
  | .pointer (some p) => some (.pointer (some p))
  | .iface t v => some (.iface t v)
  | .func (.func f) a b => some (.func (.func f) a b)
  | _ => none
def mapOK (T : Tb) (t : TypeId) : Bool := match T.und t with | some (.map _ _) => true | _ => false

@[go_sem ↓] theorem opW_move (x : Operand) : opW cx (.move x) τ H K = bindV (aeval cx.G τ x) fun v => K v H := by rw [opW_of cx τ H K (by intros; simp)]; exact bindR_map ..
@[go_sem ↓] theorem opW_assign (x : Operand) : opW cx (.assign x) τ H K = bindV (aeval cx.G τ x) fun v => K v H := by rw [opW_of cx τ H K (by intros; simp)]; exact bindR_map ..
@[go_sem ↓] theorem opW_pick (c x y : Operand) : opW cx (.pick c x y) τ H K = ifW (aeval cx.G τ c) (bindV (aeval cx.G τ x) fun v => K v H) (bindV (aeval cx.G τ y) fun v => K v H) := by
  rw [opW_of cx τ H K (by intros; simp)]
  simp only [aop]
  generalize aeval cx.G τ c = r
  cases r with
  | none => rfl
  | some v =>
    cases v with
    | bool b =>
      cases b
      · simp only [ifW_false, bindR_map]
      · simp only [ifW_true, bindR_map]
    | _ => rfl
@[go_sem ↓] theorem opW_alloc (t : TypeId) : opW cx (.alloc t) τ H K = bindR (aAlloc cx.T t H) K := by rw [opW_of cx τ H K (by intros; simp)]; rfl
@[go_sem ↓] theorem opW_box (t : TypeId) (x : Operand) : opW cx (.box t x) τ H K = bindV (aeval cx.G τ x) fun v => bindR (aBox v H) K := by rw [opW_of cx τ H K (by intros; simp)]; exact bindR_bind ..
@[go_sem ↓] theorem opW_build (t : TypeId) (ps : List (Nat × Operand)) : opW cx (.build t ps.toArray) τ H K = bindP (aparts cx.G τ ps) fun vs => bindV (aBuild cx.T t vs) fun v => K v H := by
  rw [opW_of cx τ H K (by intros; simp)]
  refine (bindR_bindP ..).trans ?_
  simp only [bindR_map, List.toList_toArray]
@[go_sem ↓] theorem opW_buildSlice (t : TypeId) (n : Nat) (ps : List (Nat × Operand)) : opW cx (.buildSlice t n ps.toArray) τ H K = bindP (aparts cx.G τ ps) fun vs => bindR (aBuildSlice cx.T t n vs H) K := by
  rw [opW_of cx τ H K (by intros; simp)]
  refine (bindR_bindP ..).trans ?_
  simp only [List.toList_toArray]
@[go_sem ↓] theorem opW_load (t : TypeId) (x : Operand) : opW cx (.load t x) τ H K = bindV (aeval cx.G τ x) fun v => bindR (aLoad cx.T t v H) K := by rw [opW_of cx τ H K (by intros; simp)]; exact bindR_bind ..
@[go_sem ↓] theorem opW_store (t : TypeId) (x y : Operand) : opW cx (.store t x y) τ H K = bindV (aeval cx.G τ x) fun v => bindV (aeval cx.G τ y) fun u => bindH (aStore cx.T t v u H) fun H' => K undef H' := by
  rw [opW_of cx τ H K (by intros; simp)]
  refine (bindR_bind ..).trans ?_
  simp only [bindR_bind, bindR_mapH]
@[go_sem ↓] theorem opW_nilCheck (x : Operand) : opW cx (.nilCheck x) τ H K = bindV (aeval cx.G τ x) fun v => bindV (aNil v) fun u => K u H := by
  rw [opW_of cx τ H K (by intros; simp)]
  simp only [aop]
  generalize aeval cx.G τ x = r
  cases r with
  | none => rfl
  | some v =>
    cases v with
    | pointer p => cases p <;> rfl
    | func f a b => cases f <;> rfl
    | _ => rfl
@[go_sem ↓] theorem opW_binOp (op : BinOp) (t t2 : TypeId) (x y : Operand) : opW cx (.binOp op t x y t2) τ H K = bindV (aeval cx.G τ x) fun v => bindV (aeval cx.G τ y) fun u => bindV (aBinF cx.P cx.T op t x y v u H) fun r => K r H := by
  rw [opW_of cx τ H K (by intros; simp)]
  refine (bindR_bind ..).trans ?_
  simp only [bindR_bind, okFlat, aBinF]
  congr; funext v; congr; funext u
  cases aBin cx.P cx.T op t x y v u H with
  | none => rfl
  | some r => simp only [Option.bind_some, bindV_some]; split <;> rfl
@[go_sem ↓] theorem opW_unOp (op : UnOp) (t : TypeId) (x : Operand) : opW cx (.unOp op t x) τ H K = bindV (aeval cx.G τ x) fun v => bindV (aUnF cx.P op v) fun r => K r H := by
  rw [opW_of cx τ H K (by intros; simp)]
  refine (bindR_bind ..).trans ?_
  simp only [okFlat, aUnF]
  congr; funext v
  cases aUn cx.P op v with
  | none => rfl
  | some r => simp only [Option.bind_some, bindV_some]; split <;> rfl
@[go_sem ↓] theorem opW_convert (s d : TypeId) (x : Operand) : opW cx (.convert s d x) τ H K = bindV (aeval cx.G τ x) fun v => bindR (aConv cx.T s d v H) K := by rw [opW_of cx τ H K (by intros; simp)]; exact bindR_bind ..
@[go_sem ↓] theorem opW_makeInterface (t : TypeId) (x : Operand) : opW cx (.makeInterface t x) τ H K = bindV (aeval cx.G τ x) fun v => bindV (aIface cx.T t v) fun u => K u H := by
  rw [opW_of cx τ H K (by intros; simp)]; refine (bindR_bind ..).trans ?_; simp only [bindR_map]
@[go_sem ↓] theorem opW_makeFunc (fn : Fn) (f c : List Operand) : opW cx (.makeFunc fn f.toArray c.toArray) τ H K = bindL (aevals cx.G τ f) fun fs => bindL (aevals cx.G τ c) fun cs => K (.func fn fs.toArray cs.toArray) H := by
  rw [opW_of cx τ H K (by intros; simp)]
  refine (bindR_bindL ..).trans ?_
  simp only [List.toList_toArray]
  congr; funext fs
  cases aevals cx.G τ c <;> rfl
@[go_sem ↓] theorem opW_makeMap (t : TypeId) (r : Option Operand) : opW cx (.makeMap t r) τ H K = bindO (aopt cx.G τ r) fun v => bindR (if mapOK cx.T t then aMakeMap v H else none) K := by
  rw [opW_of cx τ H K (by intros; simp)]
  refine (bindR_bindO ..).trans ?_
  congr; funext v
  unfold mapOK
  cases cx.T.und t with
  | none => rfl
  | some d => cases d <;> rfl
@[go_sem ↓] theorem opW_makeSlice (t : TypeId) (l c : Operand) : opW cx (.makeSlice t l c) τ H K = bindV (aeval cx.G τ l) fun v => bindV (aeval cx.G τ c) fun u => bindR (aMakeSlice cx.T t v u H) K := by
  rw [opW_of cx τ H K (by intros; simp)]; refine (bindR_bind ..).trans ?_; simp only [bindR_bind]
@[go_sem ↓] theorem opW_slice (t : TypeId) (x : Operand) (lo hi mx : Option Operand) : opW cx (.slice t x lo hi mx) τ H K = bindV (aeval cx.G τ x) fun v => bindO (aopt cx.G τ lo) fun l => bindO (aopt cx.G τ hi) fun h => bindO (aopt cx.G τ mx) fun m => bindV (aSlice cx.T t v l h m H) fun u => K u H := by
  rw [opW_of cx τ H K (by intros; simp)]; refine (bindR_bind ..).trans ?_; simp only [bindR_bindO, bindR_map]
@[go_sem ↓] theorem opW_fieldAddr (t : TypeId) (x : Operand) (f : Nat) : opW cx (.fieldAddr t x f) τ H K = bindV (aeval cx.G τ x) fun v => bindV (aFieldAddr cx.T t v f) fun u => K u H := by
  rw [opW_of cx τ H K (by intros; simp)]; refine (bindR_bind ..).trans ?_; simp only [bindR_map]
@[go_sem ↓] theorem opW_field (t : TypeId) (x : Operand) (f : Nat) : opW cx (.field t x f) τ H K = bindV (aeval cx.G τ x) fun v => bindV (aField cx.T t v f) fun u => K u H := by
  rw [opW_of cx τ H K (by intros; simp)]; refine (bindR_bind ..).trans ?_; simp only [bindR_map]
@[go_sem ↓] theorem opW_indexAddr (t : TypeId) (x i : Operand) : opW cx (.indexAddr t x i) τ H K = bindV (aeval cx.G τ x) fun v => bindV (aeval cx.G τ i) fun u => bindV (aIndexAddr cx.T t v u) fun r => K r H := by
  rw [opW_of cx τ H K (by intros; simp)]; refine (bindR_bind ..).trans ?_; simp only [bindR_bind, bindR_map]
@[go_sem ↓] theorem opW_index (t : TypeId) (x i : Operand) : opW cx (.index t x i) τ H K = bindV (aeval cx.G τ x) fun v => bindV (aeval cx.G τ i) fun u => bindV (aIndex cx.T t v u) fun r => K r H := by
  rw [opW_of cx τ H K (by intros; simp)]; refine (bindR_bind ..).trans ?_; simp only [bindR_bind, bindR_map]
@[go_sem ↓] theorem opW_lookup (t : TypeId) (x i : Operand) (ok : Bool) : opW cx (.lookup t x i ok) τ H K = bindV (aeval cx.G τ x) fun v => bindV (aeval cx.G τ i) fun u => bindV (aLookup cx.P cx.T t v u ok H) fun r => K r H := by
  rw [opW_of cx τ H K (by intros; simp)]; refine (bindR_bind ..).trans ?_; simp only [bindR_bind, bindR_map]
@[go_sem ↓] theorem opW_mapUpdate (t : TypeId) (m k x : Operand) : opW cx (.mapUpdate t m k x) τ H K = bindV (aeval cx.G τ m) fun v => bindV (aeval cx.G τ k) fun u => bindV (aeval cx.G τ x) fun y => bindH (aMapUpdate cx.P cx.T t v u y H) fun H' => K undef H' := by
  rw [opW_of cx τ H K (by intros; simp)]; refine (bindR_bind ..).trans ?_; simp only [bindR_bind, bindR_mapH]
@[go_sem ↓] theorem opW_insert (t : TypeId) (m k x : Operand) : opW cx (.insert t m k x) τ H K = bindV (aeval cx.G τ m) fun v => bindV (aeval cx.G τ k) fun u => bindV (aeval cx.G τ x) fun y => bindH (aMapUpdate cx.P cx.T t v u y H) fun H' => K undef H' := by
  rw [opW_of cx τ H K (by intros; simp)]; refine (bindR_bind ..).trans ?_; simp only [bindR_bind, bindR_mapH]
@[go_sem ↓] theorem opW_mapEntry (t : TypeId) (m k : Operand) : opW cx (.mapEntry t m k) τ H K = bindV (aeval cx.G τ m) fun v => bindV (aeval cx.G τ k) fun u => bindR (aMapEntry cx.P cx.T t v u H) K := by
  rw [opW_of cx τ H K (by intros; simp)]; refine (bindR_bind ..).trans ?_; simp only [bindR_bind]
@[go_sem ↓] theorem opW_entryStore (t : TypeId) (m s x : Operand) : opW cx (.entryStore t m s x) τ H K = bindV (aeval cx.G τ m) fun v => bindV (aeval cx.G τ s) fun u => bindV (aeval cx.G τ x) fun y => bindH (aEntryStore v u y H) fun H' => K undef H' := by
  rw [opW_of cx τ H K (by intros; simp)]; refine (bindR_bind ..).trans ?_; simp only [bindR_bind, bindR_mapH]
@[go_sem ↓] theorem opW_range (t : TypeId) (x : Operand) : opW cx (.range t x) τ H K = bindV (aeval cx.G τ x) fun v => bindR (aRange cx.T t v H) K := by rw [opW_of cx τ H K (by intros; simp)]; exact bindR_bind ..
@[go_sem ↓] theorem opW_next (x : Operand) (s : Bool) : opW cx (.next x s) τ H K = bindV (aeval cx.G τ x) fun v => bindR (aNext v s H) K := by rw [opW_of cx τ H K (by intros; simp)]; exact bindR_bind ..
@[go_sem ↓] theorem opW_extract (x : Operand) (i : Nat) : opW cx (.extract x i) τ H K = bindV (aeval cx.G τ x) fun v => bindV (aExtract v i) fun u => K u H := by
  rw [opW_of cx τ H K (by intros; simp)]; refine (bindR_bind ..).trans ?_; simp only [bindR_map]
@[go_sem ↓] theorem opW_builtin (b : Builtin) (args : List Operand) (ts : Array TypeId) : opW cx (.call { callee := .builtin b, args := args.toArray, argTypes := ts }) τ H K = bindL (aevals cx.G τ args) fun vs => bindR (aBuiltin cx.P cx.T b ts vs H) K := by
  rw [opW_of cx τ H K (by intros; simp)]
  refine (bindR_bindL ..).trans ?_
  simp only [List.toList_toArray]
@[go_sem ↓] theorem opW_call (f : Operand) (args : List Operand) (ts : Array TypeId) : opW cx (.call { callee := .value f, args := args.toArray, argTypes := ts }) τ H K = bindV (aeval cx.G τ f) fun fv => bindL (aevals cx.G τ args) fun vs => callW cx fv vs H K := by
  simp only [opW, List.toList_toArray]
end

/-! ### Operands, places -/
section
variable (G : Nat) (τ : Tmps)
@[go_sem] theorem aeval_tmp (t : Nat) : aeval G τ (.tmp t) = some (tget τ t) := id rfl
@[go_sem] theorem aeval_int (k : IntKind) (n : Int) : aeval G τ (.const (.int k n)) = some (.int k n) := id rfl
@[go_sem] theorem aeval_bool (b : Bool) : aeval G τ (.const (.bool b)) = some (.bool b) := id rfl
@[go_sem] theorem aeval_string (s : ByteArray) : aeval G τ (.const (.string s)) = some (.string s) := id rfl
@[go_sem] theorem aeval_nil : aeval G τ (.const (.pointer none)) = some (.pointer none) := id rfl
@[go_sem] theorem aeval_nilSlice : aeval G τ (.const (.slice none 0 0)) = some (.slice none 0 0) := id rfl
@[go_sem] theorem aeval_nilMap : aeval G τ (.const (.map none)) = some (.map none) := id rfl
@[go_sem] theorem aeval_nilFunc : aeval G τ (.const .nilFunc) = some .nilFunc := id rfl
@[go_sem] theorem aeval_nilIface : aeval G τ (.const .nilIface) = some .nilIface := id rfl
@[go_sem] theorem aeval_func (f : FuncId) : aeval G τ (.func f) = some (.func (.func f) #[] #[]) := id rfl
@[go_sem] theorem aevals_nil : aevals G τ [] = some [] := id rfl
@[go_sem] theorem aevals_cons (x : Operand) (l : List Operand) : aevals G τ (x :: l) = (aeval G τ x).bind fun v => (aevals G τ l).map (v :: ·) := by
  simp only [aevals]; cases aeval G τ x with
  | none => rfl
  | some v => cases aevals G τ l <;> rfl
@[go_sem] theorem aparts_nil : aparts G τ [] = some [] := id rfl
@[go_sem] theorem aparts_cons (i : Nat) (x : Operand) (l : List (Nat × Operand)) : aparts G τ ((i, x) :: l) = (aeval G τ x).bind fun v => (aparts G τ l).map ((i, v) :: ·) := by
  simp only [aparts]; cases aeval G τ x with
  | none => rfl
  | some v => cases aparts G τ l <;> rfl
@[go_sem] theorem aopt_none : aopt G τ none = some none := id rfl
@[go_sem] theorem aopt_some (x : Operand) : aopt G τ (some x) = (aeval G τ x).map some := id rfl
@[go_sem] theorem tget_put1 (d t : Nat) (v : Value) : tget (Tr.put τ d (some v)) t = if t = d then v else tget τ t := tget_put τ d t v
@[go_sem] theorem tget_init (l : List Value) (t : Nat) : tget (initT 0 l) t = l.getD t unk := by rw [initT_get]; simp
end
attribute [go_sem] Option.bind_some Option.map_some Option.bind_none Option.map_none List.getElem?_toArray
@[go_sem] theorem aExtract_0 (a : Value) (l : List Value) : aExtract (.tuple (a :: l).toArray) 0 = some a := id rfl
@[go_sem] theorem aExtract_1 (a b : Value) (l : List Value) : aExtract (.tuple (a :: b :: l).toArray) 1 = some b := id rfl
@[go_sem] theorem aExtract_2 (a b c : Value) (l : List Value) : aExtract (.tuple (a :: b :: c :: l).toArray) 2 = some c := id rfl
@[go_sem] theorem aExtract_3 (a b c d : Value) (l : List Value) : aExtract (.tuple (a :: b :: c :: d :: l).toArray) 3 = some d := id rfl
@[go_sem] theorem aNil_some (a : Addr) : aNil (.pointer (some a)) = some (.pointer (some a)) := id rfl
@[go_sem] theorem aNil_func (f : FuncId) (a b : Array Value) : aNil (.func (.func f) a b) = some (.func (.func f) a b) := id rfl

/-! ### Arithmetic -/
section
variable (P : Program) (T : Tb) (t : TypeId) (ox oy : Operand) (k : IntKind) (a b : Int) (H : AHeap)
theorem aBinF_int {op : BinOp} (f : Value) (h1 : op ≠ .eql) (h2 : op ≠ .neq) (hf : flat 1 f = true) (h : prun P (binOp op t (.int k a) (.int k b)) = some f) : aBinF P T op t ox oy (.int k a) (.int k b) H = some f := by
  have e : prun P (do eqGuard op t ox oy (.int k a) (.int k b); binOp op t (.int k a) (.int k b)) = some f := by
    have : eqGuard op t ox oy (.int k a) (.int k b) = pure () := by
      unfold eqGuard
      cases op <;> first | rfl | contradiction
    rw [this]
    exact h
  unfold aBinF aBin
  rw [if_pos (by rfl), e]
  simp [hf]
@[go_sem] theorem aBinF_lss : aBinF P T .lss t ox oy (.int k a) (.int k b) H = some (.bool (decide (a < b))) := aBinF_int _ _ _ _ _ _ _ _ _ _ (by simp) (by simp) rfl (by simp [binOp, Op.intCmp])
@[go_sem] theorem aBinF_leq : aBinF P T .leq t ox oy (.int k a) (.int k b) H = some (.bool (decide (a ≤ b))) := aBinF_int _ _ _ _ _ _ _ _ _ _ (by simp) (by simp) rfl (by simp [binOp, Op.intCmp])
@[go_sem] theorem aBinF_gtr : aBinF P T .gtr t ox oy (.int k a) (.int k b) H = some (.bool (decide (b < a))) := aBinF_int _ _ _ _ _ _ _ _ _ _ (by simp) (by simp) rfl (by simp [binOp, Op.intCmp])
@[go_sem] theorem aBinF_geq : aBinF P T .geq t ox oy (.int k a) (.int k b) H = some (.bool (decide (b ≤ a))) := aBinF_int _ _ _ _ _ _ _ _ _ _ (by simp) (by simp) rfl (by simp [binOp, Op.intCmp])
@[go_sem] theorem aBinF_add : aBinF P T .add t ox oy (.int k a) (.int k b) H = some (.int k (k.wrap (a + b))) := aBinF_int _ _ _ _ _ _ _ _ _ _ (by simp) (by simp) rfl (by simp [binOp, Op.intArith])
@[go_sem] theorem aBinF_sub : aBinF P T .sub t ox oy (.int k a) (.int k b) H = some (.int k (k.wrap (a - b))) := aBinF_int _ _ _ _ _ _ _ _ _ _ (by simp) (by simp) rfl (by simp [binOp, Op.intArith])
@[go_sem] theorem aBinF_mul : aBinF P T .mul t ox oy (.int k a) (.int k b) H = some (.int k (k.wrap (a * b))) := aBinF_int _ _ _ _ _ _ _ _ _ _ (by simp) (by simp) rfl (by simp [binOp, Op.intArith])
@[go_sem] theorem aBinF_quo (h : b ≠ 0) : aBinF P T .quo t ox oy (.int k a) (.int k b) H = some (.int k (k.wrap (a.tdiv b))) := aBinF_int _ _ _ _ _ _ _ _ _ _ (by simp) (by simp) rfl (by simp [binOp, Op.intDiv, h])
@[go_sem] theorem aBinF_rem (h : b ≠ 0) : aBinF P T .rem t ox oy (.int k a) (.int k b) H = some (.int k (a.tmod b)) := aBinF_int _ _ _ _ _ _ _ _ _ _ (by simp) (by simp) rfl (by simp [binOp, Op.intDiv, h])
def andNotI (k : IntKind) (a b : Int) : Int := k.wrap (BitVec.ofInt k.bits a &&& ~~~ BitVec.ofInt k.bits b).toNat
@[go_sem] theorem aBinF_andNot : aBinF P T .andNot t ox oy (.int k a) (.int k b) H = some (.int k (andNotI k a b)) := aBinF_int _ _ _ _ _ _ _ _ _ _ (by simp) (by simp) rfl (by simp [binOp, Op.intBits, andNotI])
@[go_sem] theorem aBinF_eql : aBinF P T .eql t ox oy (.int k a) (.int k b) H = some (.bool (decide (a = b))) := by
  have e : prun P (do eqGuard .eql t ox oy (.int k a) (.int k b); binOp .eql t (.int k a) (.int k b)) = some (.bool (decide (a = b))) := by
    have h1 : eqGuard .eql t ox oy (.int k a) (.int k b) = pure () := rfl
    rw [h1]
    have h2 : binOp .eql t (.int k a) (.int k b) = pure (.bool (a == b)) := by simp [binOp, Op.intCmp]
    rw [h2]
    have : (a == b) = decide (a = b) := rfl
    rw [this]
    rfl
  unfold aBinF aBin
  rw [if_pos (by rfl), e]
  rfl
@[go_sem] theorem aBinF_neq : aBinF P T .neq t ox oy (.int k a) (.int k b) H = some (.bool (!decide (a = b))) := by
  have e : prun P (do eqGuard .neq t ox oy (.int k a) (.int k b); binOp .neq t (.int k a) (.int k b)) = some (.bool (!decide (a = b))) := by
    have h1 : eqGuard .neq t ox oy (.int k a) (.int k b) = pure () := rfl
    rw [h1]
    have h2 : binOp .neq t (.int k a) (.int k b) = pure (.bool (a != b)) := by simp [binOp, Op.intCmp]
    rw [h2]
    have : (a != b) = !decide (a = b) := rfl
    rw [this]
    rfl
  unfold aBinF aBin
  rw [if_pos (by rfl), e]
  rfl
@[go_sem] theorem aUnF_not (c : Bool) : aUnF P .not (.bool c) = some (.bool !c) := id rfl
@[go_sem] theorem aBinF_eqlB (c d : Bool) (ht : T.und t = some .bool) (hT : TbOK P T) : aBinF P T .eql t ox oy (.bool c) (.bool d) H = some (.bool (c == d)) := by
  have e : prun P (do eqGuard .eql t ox oy (.bool c) (.bool d); binOp .eql t (.bool c) (.bool d)) = some (.bool (c == d)) := by
    have h1 : eqGuard .eql t ox oy (.bool c) (.bool d) = pure () := rfl
    rw [h1]
    have h2 : binOp .eql t (.bool c) (.bool d) = (do pure (.bool (← Op.equal t (.bool c) (.bool d)))) := rfl
    rw [h2]
    have h3 : prun P (Op.equal t (.bool c) (.bool d)) = some (c == d) := by
      show prun P (Op.equalIn 10000 t (.bool c) (.bool d)) = _
      unfold Op.equalIn
      simp only [prun_bind, prun_underlying (hT.und _ _ ht), Option.bind_some]
      rfl
    simp only [pure_bind, prun_bind, h3, Option.bind_some, prun_pure]
  unfold aBinF aBin
  rw [if_pos (by rfl), e]
  rfl
end
end Go.Eng
set_option linter.unusedVariables false
set_option linter.unusedSimpArgs false
namespace Go.Eng
open Go

/-! ### What a table says, in short -/
def oneT (T : Tb) (t : TypeId) : Bool := match T.und t, T.info t with | some d, some _ => !isAg d | _, _ => false
def aggT (T : Tb) (t : TypeId) : Option Nat := match T.und t, T.info t with | some d, some i => if isAg d then some i.size else none | _, _ => none
def sizT (T : Tb) (t : TypeId) : Option Nat := (T.info t).map (·.size)
def sliT (T : Tb) (t : TypeId) : Option Nat := match T.und t with | some (.slice e) => (T.info e).map (·.size) | _ => none
def arrT (T : Tb) (t : TypeId) : Option (Nat × Nat) := match T.und t with | some (.array n e) => (T.info e).map fun i => (n, i.size) | _ => none
def appT (T : Tb) (t xt : TypeId) : Option (Nat × Nat) := match T.und t, T.und xt with
  | some (.slice e), some d => if isInt d then none else match T.info e, zeroT T e with
    | some i, some _ => if i.size = 0 ∨ i.bytes = 0 then none else some (i.size, i.bytes)
    | _, _ => none
  | _, _ => none

section
variable {T : Tb} {t : TypeId}
def ld1 (r : Option AObj) (o : Nat) : Option Value := match r with | some (.cells cs _ _ _) => cs[o]? | _ => none
def ldN (r : Option AObj) (o n : Nat) : Option (List Value) := match r with | some (.cells cs _ _ _) => if o + n ≤ cs.length then some ((cs.drop o).take n) else none | _ => none
@[go_sem] theorem ld1_cells (cs : List Value) (ro : Bool) (par : List Nat) (gs o : Nat) : ld1 (some (.cells cs ro par gs)) o = cs[o]? := id rfl
@[go_sem] theorem ldN_cells (cs : List Value) (ro : Bool) (par : List Nat) (gs o n : Nat) : ldN (some (.cells cs ro par gs)) o n = if o + n ≤ cs.length then some ((cs.drop o).take n) else none := id rfl
theorem loadN_ldN (H : AHeap) (b o n : Nat) (sp : Option Nat) : loadN H ⟨b, o, sp⟩ n = ldN (H.get b) o n := id rfl
theorem aLoad_one (h : oneT T t = true) (b o : Nat) (sp : Option Nat) (H : AHeap) : aLoad T t (.pointer (some ⟨b, o, sp⟩)) H = (ld1 (H.get b) o).map (·, H) := by
  unfold oneT at h
  split at h
  · rename_i d i hd hi
    have hag : isAg d = false := by simpa using h
    unfold aLoad
    simp only [hd, hi, hag, Bool.false_eq_true, if_false, loadN_ldN]
    cases H.get b with
    | none => rfl
    | some o' =>
      cases o' with
      | cells cs ro par gs =>
        simp only [ldN, ld1]
        by_cases hl : o < cs.length
        · rw [if_pos (by omega)]
          have : (cs.drop o).take 1 = [cs[o]] := by
            rw [List.drop_eq_getElem_cons hl]; rfl
          rw [this]
          simp [hl]
        · rw [if_neg (by omega)]
          simp [hl]
      | _ => rfl
  · cases h
theorem aLoad_agg {n : Nat} (h : aggT T t = some n) (b o : Nat) (sp : Option Nat) (H : AHeap) : aLoad T t (.pointer (some ⟨b, o, sp⟩)) H = (ldN (H.get b) o n).map fun vs => (.agg vs.toArray, H) := by
  unfold aggT at h
  split at h
  · rename_i d i hd hi
    split at h
    · rename_i hag
      injection h with h
      subst h
      unfold aLoad
      simp only [hd, hi, hag, if_true, loadN_ldN]
    · cases h
  · cases h

def stW (r : Option AObj) (b o n : Nat) (v : Value) (H : AHeap) : Option AHeap := match r with
  | some (.cells cs false par gs) => if known v = true ∧ (vcells v).length = n ∧ o + n ≤ cs.length ∧ (vcells v).all one = true then some ((H.dels par).set b (.cells (splice cs o (vcells v)) false [] gs)) else none
  | _ => none
@[go_sem] theorem stW_cells (cs : List Value) (par : List Nat) (gs b o n : Nat) (v : Value) (H : AHeap) : stW (some (.cells cs false par gs)) b o n v H =
    if known v = true ∧ (vcells v).length = n ∧ o + n ≤ cs.length ∧ (vcells v).all one = true then some ((H.dels par).set b (.cells (splice cs o (vcells v)) false [] gs)) else none := id rfl
theorem aStore_siz {n : Nat} (h : sizT T t = some n) (b o : Nat) (sp : Option Nat) (v : Value) (H : AHeap) : aStore T t (.pointer (some ⟨b, o, sp⟩)) v H = stW (H.get b) b o n v H := by
  obtain ⟨i, hi, rfl⟩ := Option.map_eq_some_iff.1 h
  unfold aStore storeN
  simp only [hi]
  cases H.get b with
  | none => simp [stW]
  | some o' =>
    cases o' with
    | cells cs ro par gs =>
      cases ro with
      | true => simp [stW]
      | false =>
        simp only [stW, Bool.not_false, Bool.true_and]
        by_cases h1 : known v = true ∧ (vcells v).length = i.size
        · rw [if_pos h1]
          simp only [Bool.and_eq_true, decide_eq_true_eq, h1, true_and]
        · rw [if_neg h1, if_neg]
          rintro ⟨a, b, _⟩
          exact h1 ⟨a, b⟩
    | _ => simp [stW]
theorem aIndexAddr_slice {n : Nat} (h : sliT T t = some n) (b o l c : Nat) (sp : Option Nat) (k : IntKind) (i : Int) : aIndexAddr T t (.slice (some ⟨b, o, sp⟩) l c) (.int k i) = if 0 ≤ i ∧ i < l then some (.pointer (some ⟨b, o + i.toNat * n, none⟩)) else none := by
  unfold sliT at h
  split at h
  · rename_i e he
    obtain ⟨inf, hi, rfl⟩ := Option.map_eq_some_iff.1 h
    unfold aIndexAddr
    simp only [he, hi]
  · cases h
theorem aIndexAddr_array {m n : Nat} (h : arrT T t = some (m, n)) (b o : Nat) (sp : Option Nat) (k : IntKind) (i : Int) : aIndexAddr T t (.pointer (some ⟨b, o, sp⟩)) (.int k i) = if 0 ≤ i ∧ i < m then some (.pointer (some ⟨b, o + i.toNat * n, none⟩)) else none := by
  unfold arrT at h
  split at h
  · rename_i m' e he
    obtain ⟨inf, hi, h⟩ := Option.map_eq_some_iff.1 h
    injection h with h1 h2
    subst h1; subst h2
    unfold aIndexAddr
    simp only [he, hi]
  · cases h

/-! ### append -/
def appW (sz by_ : Nat) (s : Value) (src : Option (Nat × List Value)) (H : AHeap) : Option (Value × AHeap) :=
  match src with
  | some (n, vs) =>
    match s with
    | .slice none 0 0 =>
      if n = 0 then some (s, H) else
      if n * by_ ≤ 140737488355328 then (aNew vs sz H).map fun r => (.slice (some ⟨H.next, 0, none⟩) n (grow + n), r.2) else none
    | .slice (some a) l c =>
      if n = 0 then some (s, H) else
      if c < grow then
        if l + n ≤ c then (storeN H ⟨a.block, a.off + l * sz, none⟩ vs).map fun H' => (.slice (some a) (l + n) c, H')
        else if (l + n) * by_ ≤ 140737488355328 then
          (loadN H a (l * sz)).bind fun old => (aNew (old ++ vs) sz H).map fun r => (.slice (some ⟨H.next, 0, none⟩) (l + n) (grow + (l + n)), r.2)
        else none
      else if c < empt then
        if l + n ≤ c - grow then (storeN H ⟨a.block, a.off + l * sz, none⟩ vs).map fun H' => (.slice (some a) (l + n) c, H')
        else match H.get a.block with
          | some (.cells cs false par gs) =>
            if gs = sz ∧ l = c - grow ∧ a.off + l * sz = cs.length ∧ (l + n) * by_ ≤ 140737488355328 then
              some (.slice (some ⟨H.next, 0, none⟩) (l + n) (grow + (l + n)), (H.set a.block (.cells cs true par gs)).new (.cells (cs.drop a.off ++ vs) false (a.block :: par) gs))
            else none
          | _ => none
      else none
    | _ => none
  | none => none
theorem aAppend_app {xt : TypeId} {sz by_ : Nat} (h : appT T t xt = some (sz, by_)) (s x : Value) (H : AHeap) : aAppend T t xt s x H = appW sz by_ s (srcOf H sz x) H := by
  unfold appT at h
  split at h
  · rename_i e d he hd
    split at h
    · cases h
    · rename_i hni
      split at h
      · rename_i i z hi hz
        split at h
        · cases h
        · rename_i h0
          injection h with h
          injection h with h1 h2
          subst h1; subst h2
          unfold aAppend
          simp only [he, hd, hi, hz, hni, if_false, h0]
          rfl
      · cases h
  · cases h
/-- A slice that was made by append alone, grown by one more; from nothing. -/
theorem appW_nil {sz by_ n : Nat} {vs : List Value} {H : AHeap} (hn : n ≠ 0) (hb : n * by_ ≤ 140737488355328) (hv : vs.all one = true) :
    appW sz by_ (.slice none 0 0) (some (n, vs)) H = some (.slice (some ⟨H.next, 0, none⟩) n (grow + n), H.new (.cells vs false [] sz)) := by
  simp only [appW, hn, if_false, hb, if_true, aNew, hv, Option.map_some]
theorem appW_more {sz by_ n l b : Nat} {vs cs : List Value} {par : List Nat} {H : AHeap} (hn : n ≠ 0) (hg : H.get b = some (.cells cs false par sz)) (hl : l * sz = cs.length) (hb : (l + n) * by_ ≤ 140737488355328) (hl2 : l < grow) :
    appW sz by_ (.slice (some ⟨b, 0, none⟩) l (grow + l)) (some (n, vs)) H = some (.slice (some ⟨H.next, 0, none⟩) (l + n) (grow + (l + n)), (H.set b (.cells cs true par sz)).new (.cells (cs ++ vs) false (b :: par) sz)) := by
  have e0 : ¬ (grow + l < grow) := by omega
  have e1 : grow + l < empt := by unfold grow empt at *; omega
  have e2 : ¬ (l + n ≤ grow + l - grow) := by omega
  have e3 : l = grow + l - grow := by omega
  simp only [appW, hn, if_false, e0, e1, e2, if_true, hg]
  rw [if_pos ⟨trivial, e3, by rw [Nat.zero_add]; exact hl, hb⟩]
  simp
end

/-! ### Values -/
section
variable (k : IntKind) (n : Int)
@[go_sem] theorem known_int : known (.int k n) = true := id rfl
@[go_sem] theorem known_bool (b : Bool) : known (.bool b) = true := id rfl
@[go_sem] theorem known_string (s : ByteArray) : known (.string s) = true := id rfl
@[go_sem] theorem known_pointer (a : Option Addr) : known (.pointer a) = true := id rfl
@[go_sem] theorem known_slice (a : Option Addr) (l c : Nat) : known (.slice a l c) = true := id rfl
@[go_sem] theorem known_map (a : Option Nat) : known (.map a) = true := id rfl
@[go_sem] theorem known_agg (a : Array Value) : known (.agg a) = true := id rfl
@[go_sem] theorem known_func (f : Fn) (a b : Array Value) : known (.func f a b) = true := id rfl
@[go_sem] theorem vcells_int : vcells (.int k n) = [.int k n] := id rfl
@[go_sem] theorem vcells_bool (b : Bool) : vcells (.bool b) = [.bool b] := id rfl
@[go_sem] theorem vcells_string (s : ByteArray) : vcells (.string s) = [.string s] := id rfl
@[go_sem] theorem vcells_pointer (a : Option Addr) : vcells (.pointer a) = [.pointer a] := id rfl
@[go_sem] theorem vcells_slice (a : Option Addr) (l c : Nat) : vcells (.slice a l c) = [.slice a l c] := id rfl
@[go_sem] theorem vcells_map (a : Option Nat) : vcells (.map a) = [.map a] := id rfl
@[go_sem] theorem vcells_func (f : Fn) (a b : Array Value) : vcells (.func f a b) = [.func f a b] := id rfl
@[go_sem] theorem vcells_agg (l : List Value) : vcells (.agg l.toArray) = l := id rfl
@[go_sem] theorem one_int : one (.int k n) = true := id rfl
@[go_sem] theorem one_bool (b : Bool) : one (.bool b) = true := id rfl
@[go_sem] theorem one_string (s : ByteArray) : one (.string s) = true := id rfl
@[go_sem] theorem one_pointer (a : Option Addr) : one (.pointer a) = true := id rfl
@[go_sem] theorem one_slice (a : Option Addr) (l c : Nat) : one (.slice a l c) = true := id rfl
@[go_sem] theorem one_map (a : Option Nat) : one (.map a) = true := id rfl
@[go_sem] theorem one_func (f : Fn) (a b : Array Value) : one (.func f a b) = true := id rfl
end
@[go_sem] theorem aBox_agg (l : List Value) (H : AHeap) : aBox (.agg l.toArray) H = aNew l 0 H := id rfl
theorem aNew_one {cs : List Value} (gs : Nat) (H : AHeap) (h : cs.all one = true) : aNew cs gs H = some (.pointer (some ⟨H.next, 0, none⟩), H.new (.cells cs false [] gs)) := by unfold aNew; rw [if_pos h]
@[go_sem] theorem aNew_if (cs : List Value) (gs : Nat) (H : AHeap) : aNew cs gs H = if cs.all one = true then some (.pointer (some ⟨H.next, 0, none⟩), H.new (.cells cs false [] gs)) else none := by unfold aNew; rfl
@[go_sem] theorem afill_nil (pl : Nat → Option (Nat × Nat)) (cs : List Value) : afill pl cs [] = some cs := id rfl
@[go_sem] theorem afill_cons (pl : Nat → Option (Nat × Nat)) (cs : List Value) (i : Nat) (v : Value) (l : List (Nat × Value)) : afill pl cs ((i, v) :: l) = (pl i).bind fun p => if (vcells v).length = p.2 ∧ p.1 + p.2 ≤ cs.length ∧ known v = true then afill pl (splice cs p.1 (vcells v)) l else none := by
  simp only [afill]; cases pl i <;> rfl
@[go_sem] theorem dels_nil (H : AHeap) : H.dels [] = H := id rfl
attribute [go_sem] splice AHeap.next_dels
@[go_sem] theorem next_newN (H : AHeap) (o : AObj) : (H.new o).next = H.next + 1 := id rfl
@[go_sem] theorem next_setN (H : AHeap) (i : Nat) (o : AObj) : (H.set i o).next = H.next := id rfl
@[go_sem] theorem aMakeMap_none (H : AHeap) : aMakeMap none H = some (.map (some H.next), H.new (.map [] 0)) := id rfl
@[go_sem] theorem aresults_nil (T : Tb) (τ : Tmps) (H : AHeap) : aresults T τ H [] = some [] := id rfl
@[go_sem] theorem aresults_tmp (T : Tb) (τ : Tmps) (H : AHeap) (t : Nat) (l : List ResultVar) : aresults T τ H (.tmp t :: l) = (aresults T τ H l).map (tget τ t :: ·) := id rfl
@[go_sem] theorem aresults_cell (T : Tb) (τ : Tmps) (H : AHeap) (a : Nat) (t : TypeId) (l : List ResultVar) : aresults T τ H (.cell a t :: l) = (aLoad T t (tget τ a) H).bind fun r => (aresults T τ H l).map (r.1 :: ·) := by
  simp only [aresults]
  cases aLoad T t (tget τ a) H with
  | none => rfl
  | some r => cases aresults T τ H l <;> rfl
@[go_sem] theorem wrapR_one (v : Value) : wrapR [v] = v := id rfl
@[go_sem] theorem wrapR_nil : wrapR [] = .tuple #[] := id rfl
@[go_sem] theorem wrapR_two (a b : Value) (l : List Value) : wrapR (a :: b :: l) = .tuple (a :: b :: l).toArray := id rfl

/-! ### The heap -/
attribute [go_sem] AHeap.get_new
theorem next_ne {j n : Nat} (h : j < n) : (j = n) = False := by simp; omega
theorem next_ne1 {j n k : Nat} (h : j < n) : (j = n + k) = False := by simp; omega
theorem next_lt1 {j n k : Nat} (h : j < n) : (j < n + k) = True := by simp; omega
theorem next_self_ne (n k : Nat) : (n = n + (k + 1)) = False := by simp
theorem next_self_ne' (n k : Nat) : (n + (k + 1) = n) = False := by simp
theorem next_add (n k l : Nat) : (n + k = n + l) = (k = l) := by simp
theorem next_lt (n k : Nat) : (n < n + (k + 1)) = True := by simp
theorem next_ltA (n k l : Nat) : (n + k < n + l) = (k < l) := by simp
theorem next_ltF (n k : Nat) : (n + k < n) = False := by simp
attribute [go_sem] Nat.add_assoc
attribute [go_sem] next_ne next_ne1 next_lt1 next_self_ne next_self_ne' next_add next_lt next_ltA next_ltF

theorem get_set_at {H : AHeap} {i : Nat} (j : Nat) (o : AObj) (h : i < H.next) : (H.set i o).get j = if j = i then some o else H.get j := AHeap.get_set H i j o h
attribute [go_sem] get_set_at
theorem get_new_old {H : AHeap} {j : Nat} (o : AObj) (h : j < H.next) : (H.new o).get j = H.get j := by rw [AHeap.get_new, if_neg (by omega)]
theorem get_new_self (H : AHeap) (o : AObj) : (H.new o).get H.next = some o := by rw [AHeap.get_new, if_pos rfl]
theorem get_set_self {H : AHeap} {j : Nat} (o : AObj) (h : j < H.next) : (H.set j o).get j = some o := by rw [AHeap.get_set _ _ _ _ h, if_pos rfl]
theorem get_set_ne {H : AHeap} {i j : Nat} (o : AObj) (h : j ≠ i) (hi : i < H.next) : (H.set i o).get j = H.get j := by rw [AHeap.get_set _ _ _ _ hi, if_neg h]
/-- Old rows, but for those that are listed, are as they were. -/
structure Keeps (W : List Nat) (H H' : AHeap) : Prop where
  le : H.next ≤ H'.next
  old : ∀ i, i < H.next → i ∉ W → H'.get i = H.get i
theorem Keeps.refl (W : List Nat) (H : AHeap) : Keeps W H H := ⟨Nat.le_refl _, fun _ _ _ => rfl⟩
theorem Keeps.trans {W : List Nat} {H H1 H2 : AHeap} (a : Keeps W H H1) (b : Keeps W H1 H2) : Keeps W H H2 :=
  ⟨Nat.le_trans a.le b.le, fun i hi hw => (b.old i (Nat.lt_of_lt_of_le hi a.le) hw).trans (a.old i hi hw)⟩
theorem Keeps.new (W : List Nat) (H : AHeap) (o : AObj) : Keeps W H (H.new o) := ⟨by simp, fun i hi _ => get_new_old o hi⟩
theorem Keeps.set {W : List Nat} {i : Nat} (H : AHeap) (o : AObj) (hw : i ∈ W) (hi : i < H.next) : Keeps W H (H.set i o) := ⟨by simp, fun j hj hn => get_set_ne o (fun e => hn (e ▸ hw)) hi⟩
theorem Keeps.setNew {W : List Nat} {i : Nat} {H H1 : AHeap} (k : Keeps W H H1) (o : AObj) (hw : H.next ≤ i) (hi : i < H1.next) : Keeps W H (H1.set i o) :=
  ⟨by simpa using k.le, fun j hj hn => by rw [get_set_ne o (by omega) hi]; exact k.old j hj hn⟩
theorem Keeps.get {W : List Nat} {H H1 : AHeap} (k : Keeps W H H1) {i : Nat} {o : AObj} (h : H.get i = some o) (hn : i ∉ W) : H1.get i = some o := by rw [k.old i (AHeap.get_lt h) hn, h]
end Go.Eng
set_option linter.unusedVariables false
set_option maxRecDepth 100000
namespace Go.Proofs.YtkjclebafpomhaaDoor
open Go Go.Eng

def plainT (i : TypeInfo) : Option TypeInfo := match i.zero with
  | some (.tuple _) => none
  | _ => some i
noncomputable def tb : Tb := { und := Tryd.prog.underlying, info := fun t => (Tryd.prog.types[t]?).bind plainT }
noncomputable def cx : Cx := { P := Tryd.prog, T := tb, G := 4, fn := fun f => Tryd.prog.funcs[f]?, ext := fun f args => if Nat.beq f 149 then extIdx args else if Nat.beq f 140 then extCnt args else none }

def zeroOk (i : TypeInfo) : Bool := match i.zero with
  | some (.tuple _) => true
  | some z => z.cells.toList.all (flat 0) && Nat.beq z.cells.size i.size && flat 1 z
  | none => true
theorem zeros : Tryd.prog.types.toList.all zeroOk = true := by kernel_rfl
theorem names : Tryd.prog.funcs.toList.all (fun fn => !(fn.name == "runtime.NumGoroutine")) = true := by kernel_rfl
theorem bodies : (Tryd.prog.funcs.toList.zipIdx.all fun (fn, f) => fn.body.isSome || Nat.beq f 149 || Nat.beq f 140 || true) = true := by kernel_rfl
theorem mixed : Tryd.prog.follows .mixedOrders = true := by kernel_rfl
theorem idxX (fn : Func) (h : Tryd.prog.funcs[149]? = some fn) : fn.body = none ∧ Extern.findNext fn = none ∧ Extern.find fn = some Extern.BytealgIndexByte.indexByte := by
  obtain rfl : fn = Tryd.f149 := (Option.some.inj ((show Tryd.prog.funcs[149]? = some Tryd.f149 by kernel_rfl).symm.trans h)).symm
  exact ⟨by kernel_rfl, by kernel_rfl, by kernel_rfl⟩
theorem cntX (fn : Func) (h : Tryd.prog.funcs[140]? = some fn) : fn.body = none ∧ Extern.findNext fn = none ∧ Extern.find fn = some Extern.BytealgCount.count := by
  obtain rfl : fn = Tryd.f140 := (Option.some.inj ((show Tryd.prog.funcs[140]? = some Tryd.f140 by kernel_rfl).symm.trans h)).symm
  exact ⟨by kernel_rfl, by kernel_rfl, by kernel_rfl⟩

theorem cxOK : CxOK cx where
  tb := {
    und := fun _ _ h => h
    info := fun t i h => by
      obtain ⟨i', h1, h2⟩ := Option.bind_eq_some_iff.1 (show (Tryd.prog.types[t]?).bind plainT = some i from h)
      have e : i' = i := by
        unfold plainT at h2
        split at h2
        · cases h2
        · injection h2
      subst e
      show (if t < Tryd.prog.types.size then Tryd.prog.types[t]? else _) = _
      rw [if_pos (Array.getElem?_eq_some_iff.1 h1).1]
      exact h1
    zero := fun t i z h hz => by
      obtain ⟨i', h1, h2⟩ := Option.bind_eq_some_iff.1 (show (Tryd.prog.types[t]?).bind plainT = some i from h)
      unfold plainT at h2
      split at h2
      · cases h2
      · rename_i hnt
        injection h2 with h2
        subst h2
        have := List.all_eq_true.1 zeros i' (by simpa using Array.mem_of_getElem? h1)
        unfold zeroOk at this
        rw [hz] at this
        cases z with
        | tuple c => exact absurd hz (hnt c)
        | _ =>
          simp only [Bool.and_eq_true] at this
          exact ⟨this.1.1, Nat.eq_of_beq_eq_true this.1.2, this.2⟩ }
  fn := fun f fn h => ⟨h, by
    have := List.all_eq_true.1 names fn (by simpa using Array.mem_of_getElem? h)
    simpa using this⟩
  ext := fun f fn vs v h hb hx => by
    have hname : (fn.name == "runtime.NumGoroutine") = false := by
      have := List.all_eq_true.1 names fn (by simpa using Array.mem_of_getElem? h)
      simpa using this
    have hx : (if Nat.beq f 149 then extIdx vs else if Nat.beq f 140 then extCnt vs else none) = some v := hx
    split at hx
    · rename_i e
      obtain rfl := Nat.eq_of_beq_eq_true e
      obtain ⟨h1, h2, h3⟩ := idxX fn h
      exact ext_idx h hname h1 h2 h3 hx
    · split at hx
      · rename_i e
        obtain rfl := Nat.eq_of_beq_eq_true e
        obtain ⟨h1, h2, h3⟩ := cntX fn h
        exact ext_cnt h hname h1 h2 h3 hx
      · cases hx
  mix := mixed
  sp := fun f fn g _ h => by cases h

theorem run12 : (callD cx 100000 30 12 [] (noHeap 4)).map (·.1) = some (.bool true) := by kernel_rfl
theorem run27 : (callD cx 100000 30 27 [] (noHeap 4)).map (·.1) = some (.bool true) := by kernel_rfl
theorem awake12 (H : AHeap) : ACalls Tryd.prog 4 12 [] H fun v H' => v = .bool true ∧ H' = H :=
  acalls_reckoned (cx := cx) cxOK (fn := Tryd.f12) rfl rfl (by kernel_rfl) (by kernel_rfl) run12 H
theorem awake27 (H : AHeap) : ACalls Tryd.prog 4 27 [] H fun v H' => v = .bool true ∧ H' = H :=
  acalls_reckoned (cx := cx) cxOK (fn := Tryd.f27) rfl rfl (by kernel_rfl) (by kernel_rfl) run27 H
#print axioms awake12
end Go.Proofs.YtkjclebafpomhaaDoor
set_option linter.unusedVariables false
set_option maxRecDepth 100000
namespace Go.Proofs.YtkjclebafpomhaaDoor
open Go Go.Eng
@[go_sem] theorem cx_T : cx.T = tb := id rfl
@[go_sem] theorem cx_P : cx.P = Tryd.prog := id rfl
@[go_sem] theorem cx_G : cx.G = 4 := id rfl
@[go_sem] theorem cx_sp (g : FuncId) : cx.sp g = none := id rfl
@[go_sem] theorem bool_eql (ox oy : Operand) (H : AHeap) (c d : Bool) : aBinF Tryd.prog tb .eql 4 ox oy (.bool c) (.bool d) H = some (.bool (c == d)) := aBinF_eqlB _ _ _ _ _ _ _ _ (by kernel_rfl) cxOK.tb
@[go_sem] theorem al_22 (H : AHeap) : aAlloc tb 22 H = some (.pointer (some ⟨H.next, 0, none⟩), H.new (.cells [.int .u8 0, .int .u8 0, .int .u8 0, .int .u8 0, .int .u8 0] false [] 0)) := by exact id (by kernel_rfl)
@[go_sem] theorem al_38 (H : AHeap) : aAlloc tb 38 H = some (.pointer (some ⟨H.next, 0, none⟩), H.new (.cells [.string ⟨#[]⟩, .int .u8 0, .int .u16 0, .int .i64 0, .int .i64 0, .int .i64 0, .int .i64 0, .int .i64 0, .int .i64 0] false [] 0)) := by exact id (by kernel_rfl)
@[go_sem] theorem al_48 (H : AHeap) : aAlloc tb 48 H = some (.pointer (some ⟨H.next, 0, none⟩), H.new (.cells [.int .u8 0, .int .u16 0] false [] 0)) := by exact id (by kernel_rfl)
@[go_sem] theorem al_93 (H : AHeap) : aAlloc tb 93 H = some (.pointer (some ⟨H.next, 0, none⟩), H.new (.cells [.int .i64 0, .int .i64 0, .int .i64 0, .int .i64 0, .int .i64 0, .int .i64 0] false [] 0)) := by exact id (by kernel_rfl)
@[go_sem] theorem ap_43_43 (P : Program) (s x : Value) (H : AHeap) : aBuiltin P tb .append #[43, 43] [s, x] H = appW 9 72 s (srcOf H 9 x) H := aAppend_app (T := tb) (t := 43) (xt := 43) (sz := 9) (by_ := 72) (by kernel_rfl) s x H
@[go_sem] theorem ap_44_44 (P : Program) (s x : Value) (H : AHeap) : aBuiltin P tb .append #[44, 44] [s, x] H = appW 2 4 s (srcOf H 2 x) H := aAppend_app (T := tb) (t := 44) (xt := 44) (sz := 2) (by_ := 4) (by kernel_rfl) s x H
@[go_sem] theorem ap_99_99 (P : Program) (s x : Value) (H : AHeap) : aBuiltin P tb .append #[99, 99] [s, x] H = appW 6 48 s (srcOf H 6 x) H := aAppend_app (T := tb) (t := 99) (xt := 99) (sz := 6) (by_ := 48) (by kernel_rfl) s x H
@[go_sem] theorem bl_101 (ps : List (Nat × Value)) : aBuild tb 101 ps = (afill (fun i => ([(0, 1), (1, 1), (2, 1), (3, 1), (4, 1), (5, 1), (6, 1)] : List (Nat × Nat))[i]?) [.slice none 0 0, .map none, .slice none 0 0, .map none, .map none, .slice none 0 0, .int .i64 0] ps).map fun cs => .agg cs.toArray := by exact id (by kernel_rfl)
@[go_sem] theorem bl_36 (ps : List (Nat × Value)) : aBuild tb 36 ps = (afill (fun i => ([(0, 1), (1, 1)] : List (Nat × Nat))[i]?) [.int .u8 0, .int .u16 0] ps).map fun cs => .agg cs.toArray := by exact id (by kernel_rfl)
@[go_sem] theorem bl_38 (ps : List (Nat × Value)) : aBuild tb 38 ps = (afill (fun i => ([(0, 1), (1, 2), (3, 1), (4, 1), (5, 1), (6, 1), (7, 1), (8, 1)] : List (Nat × Nat))[i]?) [.string ⟨#[]⟩, .int .u8 0, .int .u16 0, .int .i64 0, .int .i64 0, .int .i64 0, .int .i64 0, .int .i64 0, .int .i64 0] ps).map fun cs => .agg cs.toArray := by exact id (by kernel_rfl)
@[go_sem] theorem bl_48 (ps : List (Nat × Value)) : aBuild tb 48 ps = (afill (fun i => ([(0, 1), (1, 1)] : List (Nat × Nat))[i]?) [.int .u8 0, .int .u16 0] ps).map fun cs => .agg cs.toArray := by exact id (by kernel_rfl)
@[go_sem] theorem bl_93 (ps : List (Nat × Value)) : aBuild tb 93 ps = (afill (fun i => ([(0, 1), (1, 1), (2, 1), (3, 1), (4, 1), (5, 1)] : List (Nat × Nat))[i]?) [.int .i64 0, .int .i64 0, .int .i64 0, .int .i64 0, .int .i64 0, .int .i64 0] ps).map fun cs => .agg cs.toArray := by exact id (by kernel_rfl)
@[go_sem] theorem bs_104_5 (ps : List (Nat × Value)) (H : AHeap) : aBuildSlice tb 104 5 ps H = (afill (fun k => some (k * 2, 2)) [.int .u8 0, .int .u16 0, .int .u8 0, .int .u16 0, .int .u8 0, .int .u16 0, .int .u8 0, .int .u16 0, .int .u8 0, .int .u16 0] ps).bind fun cs => (aNew cs 2 H).map fun r => (.slice (some ⟨H.next, 0, none⟩) 5 5, r.2) := by exact id (by kernel_rfl)
@[go_sem] theorem bs_43_1 (ps : List (Nat × Value)) (H : AHeap) : aBuildSlice tb 43 1 ps H = (afill (fun k => some (k * 9, 9)) [.string ⟨#[]⟩, .int .u8 0, .int .u16 0, .int .i64 0, .int .i64 0, .int .i64 0, .int .i64 0, .int .i64 0, .int .i64 0] ps).bind fun cs => (aNew cs 9 H).map fun r => (.slice (some ⟨H.next, 0, none⟩) 1 1, r.2) := by exact id (by kernel_rfl)
@[go_sem] theorem bs_44_1 (ps : List (Nat × Value)) (H : AHeap) : aBuildSlice tb 44 1 ps H = (afill (fun k => some (k * 2, 2)) [.int .u8 0, .int .u16 0] ps).bind fun cs => (aNew cs 2 H).map fun r => (.slice (some ⟨H.next, 0, none⟩) 1 1, r.2) := by exact id (by kernel_rfl)
@[go_sem] theorem bs_60_5 (ps : List (Nat × Value)) (H : AHeap) : aBuildSlice tb 60 5 ps H = (afill (fun k => some (k * 1, 1)) [.string ⟨#[]⟩, .string ⟨#[]⟩, .string ⟨#[]⟩, .string ⟨#[]⟩, .string ⟨#[]⟩] ps).bind fun cs => (aNew cs 1 H).map fun r => (.slice (some ⟨H.next, 0, none⟩) 5 5, r.2) := by exact id (by kernel_rfl)
@[go_sem] theorem bs_99_1 (ps : List (Nat × Value)) (H : AHeap) : aBuildSlice tb 99 1 ps H = (afill (fun k => some (k * 6, 6)) [.int .i64 0, .int .i64 0, .int .i64 0, .int .i64 0, .int .i64 0, .int .i64 0] ps).bind fun cs => (aNew cs 6 H).map fun r => (.slice (some ⟨H.next, 0, none⟩) 1 1, r.2) := by exact id (by kernel_rfl)
@[go_sem] theorem cv_27_3 (k : IntKind) (n : Int) (H : AHeap) : aConv tb 27 3 (.int k n) H = some (.int .i64 (IntKind.wrap .i64 n), H) := by exact id (by kernel_rfl)
@[go_sem] theorem cv_34_3 (k : IntKind) (n : Int) (H : AHeap) : aConv tb 34 3 (.int k n) H = some (.int .i64 (IntKind.wrap .i64 n), H) := by exact id (by kernel_rfl)
@[go_sem] theorem cv_3_27 (k : IntKind) (n : Int) (H : AHeap) : aConv tb 3 27 (.int k n) H = some (.int .u64 (IntKind.wrap .u64 n), H) := by exact id (by kernel_rfl)
@[go_sem] theorem cv_3_5 (k : IntKind) (n : Int) (H : AHeap) : aConv tb 3 5 (.int k n) H = some (.int .u8 (IntKind.wrap .u8 n), H) := by exact id (by kernel_rfl)
@[go_sem] theorem cv_5_3 (k : IntKind) (n : Int) (H : AHeap) : aConv tb 5 3 (.int k n) H = some (.int .i64 (IntKind.wrap .i64 n), H) := by exact id (by kernel_rfl)
@[go_sem] theorem cv_5_34 (k : IntKind) (n : Int) (H : AHeap) : aConv tb 5 34 (.int k n) H = some (.int .u16 (IntKind.wrap .u16 n), H) := by exact id (by kernel_rfl)
@[go_sem] theorem fa_101_0 (b o : Nat) (sp : Option Nat) : aFieldAddr tb 101 (.pointer (some ⟨b, o, sp⟩)) 0 = some (.pointer (some ⟨b, o + 0, none⟩)) := by exact id (by kernel_rfl)
@[go_sem] theorem fa_101_1 (b o : Nat) (sp : Option Nat) : aFieldAddr tb 101 (.pointer (some ⟨b, o, sp⟩)) 1 = some (.pointer (some ⟨b, o + 1, none⟩)) := by exact id (by kernel_rfl)
@[go_sem] theorem fa_101_2 (b o : Nat) (sp : Option Nat) : aFieldAddr tb 101 (.pointer (some ⟨b, o, sp⟩)) 2 = some (.pointer (some ⟨b, o + 2, none⟩)) := by exact id (by kernel_rfl)
@[go_sem] theorem fa_101_3 (b o : Nat) (sp : Option Nat) : aFieldAddr tb 101 (.pointer (some ⟨b, o, sp⟩)) 3 = some (.pointer (some ⟨b, o + 3, none⟩)) := by exact id (by kernel_rfl)
@[go_sem] theorem fa_101_4 (b o : Nat) (sp : Option Nat) : aFieldAddr tb 101 (.pointer (some ⟨b, o, sp⟩)) 4 = some (.pointer (some ⟨b, o + 4, none⟩)) := by exact id (by kernel_rfl)
@[go_sem] theorem fa_101_5 (b o : Nat) (sp : Option Nat) : aFieldAddr tb 101 (.pointer (some ⟨b, o, sp⟩)) 5 = some (.pointer (some ⟨b, o + 5, none⟩)) := by exact id (by kernel_rfl)
@[go_sem] theorem fa_101_6 (b o : Nat) (sp : Option Nat) : aFieldAddr tb 101 (.pointer (some ⟨b, o, sp⟩)) 6 = some (.pointer (some ⟨b, o + 6, none⟩)) := by exact id (by kernel_rfl)
@[go_sem] theorem fa_26_0 (b o : Nat) (sp : Option Nat) : aFieldAddr tb 26 (.pointer (some ⟨b, o, sp⟩)) 0 = some (.pointer (some ⟨b, o + 0, none⟩)) := by exact id (by kernel_rfl)
@[go_sem] theorem fa_26_1 (b o : Nat) (sp : Option Nat) : aFieldAddr tb 26 (.pointer (some ⟨b, o, sp⟩)) 1 = some (.pointer (some ⟨b, o + 1, none⟩)) := by exact id (by kernel_rfl)
@[go_sem] theorem fa_26_2 (b o : Nat) (sp : Option Nat) : aFieldAddr tb 26 (.pointer (some ⟨b, o, sp⟩)) 2 = some (.pointer (some ⟨b, o + 26, none⟩)) := by exact id (by kernel_rfl)
@[go_sem] theorem fa_36_0 (b o : Nat) (sp : Option Nat) : aFieldAddr tb 36 (.pointer (some ⟨b, o, sp⟩)) 0 = some (.pointer (some ⟨b, o + 0, none⟩)) := by exact id (by kernel_rfl)
@[go_sem] theorem fa_36_1 (b o : Nat) (sp : Option Nat) : aFieldAddr tb 36 (.pointer (some ⟨b, o, sp⟩)) 1 = some (.pointer (some ⟨b, o + 1, none⟩)) := by exact id (by kernel_rfl)
@[go_sem] theorem fa_38_0 (b o : Nat) (sp : Option Nat) : aFieldAddr tb 38 (.pointer (some ⟨b, o, sp⟩)) 0 = some (.pointer (some ⟨b, o + 0, none⟩)) := by exact id (by kernel_rfl)
@[go_sem] theorem fa_38_1 (b o : Nat) (sp : Option Nat) : aFieldAddr tb 38 (.pointer (some ⟨b, o, sp⟩)) 1 = some (.pointer (some ⟨b, o + 1, none⟩)) := by exact id (by kernel_rfl)
@[go_sem] theorem fa_38_2 (b o : Nat) (sp : Option Nat) : aFieldAddr tb 38 (.pointer (some ⟨b, o, sp⟩)) 2 = some (.pointer (some ⟨b, o + 3, none⟩)) := by exact id (by kernel_rfl)
@[go_sem] theorem fa_38_3 (b o : Nat) (sp : Option Nat) : aFieldAddr tb 38 (.pointer (some ⟨b, o, sp⟩)) 3 = some (.pointer (some ⟨b, o + 4, none⟩)) := by exact id (by kernel_rfl)
@[go_sem] theorem fa_38_4 (b o : Nat) (sp : Option Nat) : aFieldAddr tb 38 (.pointer (some ⟨b, o, sp⟩)) 4 = some (.pointer (some ⟨b, o + 5, none⟩)) := by exact id (by kernel_rfl)
@[go_sem] theorem fa_38_5 (b o : Nat) (sp : Option Nat) : aFieldAddr tb 38 (.pointer (some ⟨b, o, sp⟩)) 5 = some (.pointer (some ⟨b, o + 6, none⟩)) := by exact id (by kernel_rfl)
@[go_sem] theorem fa_38_6 (b o : Nat) (sp : Option Nat) : aFieldAddr tb 38 (.pointer (some ⟨b, o, sp⟩)) 6 = some (.pointer (some ⟨b, o + 7, none⟩)) := by exact id (by kernel_rfl)
@[go_sem] theorem fa_38_7 (b o : Nat) (sp : Option Nat) : aFieldAddr tb 38 (.pointer (some ⟨b, o, sp⟩)) 7 = some (.pointer (some ⟨b, o + 8, none⟩)) := by exact id (by kernel_rfl)
@[go_sem] theorem fa_48_0 (b o : Nat) (sp : Option Nat) : aFieldAddr tb 48 (.pointer (some ⟨b, o, sp⟩)) 0 = some (.pointer (some ⟨b, o + 0, none⟩)) := by exact id (by kernel_rfl)
@[go_sem] theorem fa_48_1 (b o : Nat) (sp : Option Nat) : aFieldAddr tb 48 (.pointer (some ⟨b, o, sp⟩)) 1 = some (.pointer (some ⟨b, o + 1, none⟩)) := by exact id (by kernel_rfl)
@[go_sem] theorem fa_93_0 (b o : Nat) (sp : Option Nat) : aFieldAddr tb 93 (.pointer (some ⟨b, o, sp⟩)) 0 = some (.pointer (some ⟨b, o + 0, none⟩)) := by exact id (by kernel_rfl)
@[go_sem] theorem fa_93_1 (b o : Nat) (sp : Option Nat) : aFieldAddr tb 93 (.pointer (some ⟨b, o, sp⟩)) 1 = some (.pointer (some ⟨b, o + 1, none⟩)) := by exact id (by kernel_rfl)
@[go_sem] theorem fa_93_2 (b o : Nat) (sp : Option Nat) : aFieldAddr tb 93 (.pointer (some ⟨b, o, sp⟩)) 2 = some (.pointer (some ⟨b, o + 2, none⟩)) := by exact id (by kernel_rfl)
@[go_sem] theorem fa_93_3 (b o : Nat) (sp : Option Nat) : aFieldAddr tb 93 (.pointer (some ⟨b, o, sp⟩)) 3 = some (.pointer (some ⟨b, o + 3, none⟩)) := by exact id (by kernel_rfl)
@[go_sem] theorem fa_93_4 (b o : Nat) (sp : Option Nat) : aFieldAddr tb 93 (.pointer (some ⟨b, o, sp⟩)) 4 = some (.pointer (some ⟨b, o + 4, none⟩)) := by exact id (by kernel_rfl)
@[go_sem] theorem ix_104 (b o l c : Nat) (sp : Option Nat) (k : IntKind) (i : Int) : aIndexAddr tb 104 (.slice (some ⟨b, o, sp⟩) l c) (.int k i) = if 0 ≤ i ∧ i < l then some (.pointer (some ⟨b, o + i.toNat * 2, none⟩)) else none := aIndexAddr_slice (by kernel_rfl) b o l c sp k i
@[go_sem] theorem ix_22 (b o : Nat) (sp : Option Nat) (k : IntKind) (i : Int) : aIndexAddr tb 22 (.pointer (some ⟨b, o, sp⟩)) (.int k i) = if 0 ≤ i ∧ i < (5 : Nat) then some (.pointer (some ⟨b, o + i.toNat * 1, none⟩)) else none := aIndexAddr_array (by kernel_rfl) b o sp k i
@[go_sem] theorem ix_23 (b o : Nat) (sp : Option Nat) (k : IntKind) (i : Int) : aIndexAddr tb 23 (.pointer (some ⟨b, o, sp⟩)) (.int k i) = if 0 ≤ i ∧ i < (5 : Nat) then some (.pointer (some ⟨b, o + i.toNat * 5, none⟩)) else none := aIndexAddr_array (by kernel_rfl) b o sp k i
@[go_sem] theorem ix_24 (b o l c : Nat) (sp : Option Nat) (k : IntKind) (i : Int) : aIndexAddr tb 24 (.slice (some ⟨b, o, sp⟩) l c) (.int k i) = if 0 ≤ i ∧ i < l then some (.pointer (some ⟨b, o + i.toNat * 1, none⟩)) else none := aIndexAddr_slice (by kernel_rfl) b o l c sp k i
@[go_sem] theorem ix_43 (b o l c : Nat) (sp : Option Nat) (k : IntKind) (i : Int) : aIndexAddr tb 43 (.slice (some ⟨b, o, sp⟩) l c) (.int k i) = if 0 ≤ i ∧ i < l then some (.pointer (some ⟨b, o + i.toNat * 9, none⟩)) else none := aIndexAddr_slice (by kernel_rfl) b o l c sp k i
@[go_sem] theorem ix_44 (b o l c : Nat) (sp : Option Nat) (k : IntKind) (i : Int) : aIndexAddr tb 44 (.slice (some ⟨b, o, sp⟩) l c) (.int k i) = if 0 ≤ i ∧ i < l then some (.pointer (some ⟨b, o + i.toNat * 2, none⟩)) else none := aIndexAddr_slice (by kernel_rfl) b o l c sp k i
@[go_sem] theorem ix_60 (b o l c : Nat) (sp : Option Nat) (k : IntKind) (i : Int) : aIndexAddr tb 60 (.slice (some ⟨b, o, sp⟩) l c) (.int k i) = if 0 ≤ i ∧ i < l then some (.pointer (some ⟨b, o + i.toNat * 1, none⟩)) else none := aIndexAddr_slice (by kernel_rfl) b o l c sp k i
@[go_sem] theorem ix_99 (b o l c : Nat) (sp : Option Nat) (k : IntKind) (i : Int) : aIndexAddr tb 99 (.slice (some ⟨b, o, sp⟩) l c) (.int k i) = if 0 ≤ i ∧ i < l then some (.pointer (some ⟨b, o + i.toNat * 6, none⟩)) else none := aIndexAddr_slice (by kernel_rfl) b o l c sp k i
@[go_sem] theorem ld_22 (b o : Nat) (sp : Option Nat) (H : AHeap) : aLoad tb 22 (.pointer (some ⟨b, o, sp⟩)) H = (ldN (H.get b) o 5).map fun vs => (.agg vs.toArray, H) := aLoad_agg (by kernel_rfl) b o sp H
@[go_sem] theorem ld_24 (b o : Nat) (sp : Option Nat) (H : AHeap) : aLoad tb 24 (.pointer (some ⟨b, o, sp⟩)) H = (ld1 (H.get b) o).map (·, H) := aLoad_one (by kernel_rfl) b o sp H
@[go_sem] theorem ld_26 (b o : Nat) (sp : Option Nat) (H : AHeap) : aLoad tb 26 (.pointer (some ⟨b, o, sp⟩)) H = (ldN (H.get b) o 27).map fun vs => (.agg vs.toArray, H) := aLoad_agg (by kernel_rfl) b o sp H
@[go_sem] theorem ld_3 (b o : Nat) (sp : Option Nat) (H : AHeap) : aLoad tb 3 (.pointer (some ⟨b, o, sp⟩)) H = (ld1 (H.get b) o).map (·, H) := aLoad_one (by kernel_rfl) b o sp H
@[go_sem] theorem ld_34 (b o : Nat) (sp : Option Nat) (H : AHeap) : aLoad tb 34 (.pointer (some ⟨b, o, sp⟩)) H = (ld1 (H.get b) o).map (·, H) := aLoad_one (by kernel_rfl) b o sp H
@[go_sem] theorem ld_36 (b o : Nat) (sp : Option Nat) (H : AHeap) : aLoad tb 36 (.pointer (some ⟨b, o, sp⟩)) H = (ldN (H.get b) o 2).map fun vs => (.agg vs.toArray, H) := aLoad_agg (by kernel_rfl) b o sp H
@[go_sem] theorem ld_38 (b o : Nat) (sp : Option Nat) (H : AHeap) : aLoad tb 38 (.pointer (some ⟨b, o, sp⟩)) H = (ldN (H.get b) o 9).map fun vs => (.agg vs.toArray, H) := aLoad_agg (by kernel_rfl) b o sp H
@[go_sem] theorem ld_43 (b o : Nat) (sp : Option Nat) (H : AHeap) : aLoad tb 43 (.pointer (some ⟨b, o, sp⟩)) H = (ld1 (H.get b) o).map (·, H) := aLoad_one (by kernel_rfl) b o sp H
@[go_sem] theorem ld_44 (b o : Nat) (sp : Option Nat) (H : AHeap) : aLoad tb 44 (.pointer (some ⟨b, o, sp⟩)) H = (ld1 (H.get b) o).map (·, H) := aLoad_one (by kernel_rfl) b o sp H
@[go_sem] theorem ld_48 (b o : Nat) (sp : Option Nat) (H : AHeap) : aLoad tb 48 (.pointer (some ⟨b, o, sp⟩)) H = (ldN (H.get b) o 2).map fun vs => (.agg vs.toArray, H) := aLoad_agg (by kernel_rfl) b o sp H
@[go_sem] theorem ld_5 (b o : Nat) (sp : Option Nat) (H : AHeap) : aLoad tb 5 (.pointer (some ⟨b, o, sp⟩)) H = (ld1 (H.get b) o).map (·, H) := aLoad_one (by kernel_rfl) b o sp H
@[go_sem] theorem ld_9 (b o : Nat) (sp : Option Nat) (H : AHeap) : aLoad tb 9 (.pointer (some ⟨b, o, sp⟩)) H = (ld1 (H.get b) o).map (·, H) := aLoad_one (by kernel_rfl) b o sp H
@[go_sem] theorem ld_93 (b o : Nat) (sp : Option Nat) (H : AHeap) : aLoad tb 93 (.pointer (some ⟨b, o, sp⟩)) H = (ldN (H.get b) o 6).map fun vs => (.agg vs.toArray, H) := aLoad_agg (by kernel_rfl) b o sp H
@[go_sem] theorem ld_96 (b o : Nat) (sp : Option Nat) (H : AHeap) : aLoad tb 96 (.pointer (some ⟨b, o, sp⟩)) H = (ld1 (H.get b) o).map (·, H) := aLoad_one (by kernel_rfl) b o sp H
@[go_sem] theorem ld_97 (b o : Nat) (sp : Option Nat) (H : AHeap) : aLoad tb 97 (.pointer (some ⟨b, o, sp⟩)) H = (ld1 (H.get b) o).map (·, H) := aLoad_one (by kernel_rfl) b o sp H
@[go_sem] theorem ld_98 (b o : Nat) (sp : Option Nat) (H : AHeap) : aLoad tb 98 (.pointer (some ⟨b, o, sp⟩)) H = (ld1 (H.get b) o).map (·, H) := aLoad_one (by kernel_rfl) b o sp H
@[go_sem] theorem ld_99 (b o : Nat) (sp : Option Nat) (H : AHeap) : aLoad tb 99 (.pointer (some ⟨b, o, sp⟩)) H = (ld1 (H.get b) o).map (·, H) := aLoad_one (by kernel_rfl) b o sp H
@[go_sem] theorem ln_24 (P : Program) (a : Option Addr) (n c : Nat) (H : AHeap) : aBuiltin P tb .len #[24] [.slice a n c] H = some (.int .i64 n, H) := by exact id (by kernel_rfl)
@[go_sem] theorem ln_43 (P : Program) (a : Option Addr) (n c : Nat) (H : AHeap) : aBuiltin P tb .len #[43] [.slice a n c] H = some (.int .i64 n, H) := by exact id (by kernel_rfl)
@[go_sem] theorem ln_44 (P : Program) (a : Option Addr) (n c : Nat) (H : AHeap) : aBuiltin P tb .len #[44] [.slice a n c] H = some (.int .i64 n, H) := by exact id (by kernel_rfl)
@[go_sem] theorem ln_9 (P : Program) (s : ByteArray) (H : AHeap) : aBuiltin P tb .len #[9] [.string s] H = some (.int .i64 s.size, H) := by exact id (by kernel_rfl)
@[go_sem] theorem mm_96 : mapOK tb 96 = true := by exact id (by kernel_rfl)
@[go_sem] theorem mm_97 : mapOK tb 97 = true := by exact id (by kernel_rfl)
@[go_sem] theorem mm_98 : mapOK tb 98 = true := by exact id (by kernel_rfl)
@[go_sem] theorem pn_eql_29 (ox oy : Operand) (H : AHeap) : aBinF Tryd.prog tb .eql 29 ox oy (.pointer none) (.pointer none) H = some (.bool true) := by exact id (by kernel_rfl)
@[go_sem] theorem pp_eql_29 (a : Addr) (ox oy : Operand) (H : AHeap) : aBinF Tryd.prog tb .eql 29 ox oy (.pointer (some a)) (.pointer none) H = some (.bool false) := by exact id (by kernel_rfl)
@[go_sem] theorem rg_9 (s : ByteArray) (H : AHeap) : aRange tb 9 (.string s) H = some (.pointer (some ⟨H.next, 0, none⟩), H.new (.iter s 0)) := by exact id (by kernel_rfl)
@[go_sem] theorem st_22 (b o : Nat) (sp : Option Nat) (v : Value) (H : AHeap) : aStore tb 22 (.pointer (some ⟨b, o, sp⟩)) v H = stW (H.get b) b o 5 v H := aStore_siz (by kernel_rfl) b o sp v H
@[go_sem] theorem st_3 (b o : Nat) (sp : Option Nat) (v : Value) (H : AHeap) : aStore tb 3 (.pointer (some ⟨b, o, sp⟩)) v H = stW (H.get b) b o 1 v H := aStore_siz (by kernel_rfl) b o sp v H
@[go_sem] theorem st_38 (b o : Nat) (sp : Option Nat) (v : Value) (H : AHeap) : aStore tb 38 (.pointer (some ⟨b, o, sp⟩)) v H = stW (H.get b) b o 9 v H := aStore_siz (by kernel_rfl) b o sp v H
@[go_sem] theorem st_43 (b o : Nat) (sp : Option Nat) (v : Value) (H : AHeap) : aStore tb 43 (.pointer (some ⟨b, o, sp⟩)) v H = stW (H.get b) b o 1 v H := aStore_siz (by kernel_rfl) b o sp v H
@[go_sem] theorem st_44 (b o : Nat) (sp : Option Nat) (v : Value) (H : AHeap) : aStore tb 44 (.pointer (some ⟨b, o, sp⟩)) v H = stW (H.get b) b o 1 v H := aStore_siz (by kernel_rfl) b o sp v H
@[go_sem] theorem st_48 (b o : Nat) (sp : Option Nat) (v : Value) (H : AHeap) : aStore tb 48 (.pointer (some ⟨b, o, sp⟩)) v H = stW (H.get b) b o 2 v H := aStore_siz (by kernel_rfl) b o sp v H
@[go_sem] theorem st_93 (b o : Nat) (sp : Option Nat) (v : Value) (H : AHeap) : aStore tb 93 (.pointer (some ⟨b, o, sp⟩)) v H = stW (H.get b) b o 6 v H := aStore_siz (by kernel_rfl) b o sp v H
@[go_sem] theorem st_99 (b o : Nat) (sp : Option Nat) (v : Value) (H : AHeap) : aStore tb 99 (.pointer (some ⟨b, o, sp⟩)) v H = stW (H.get b) b o 1 v H := aStore_siz (by kernel_rfl) b o sp v H
end Go.Proofs.YtkjclebafpomhaaDoor
set_option linter.unusedVariables false
set_option linter.unusedSimpArgs false
namespace Go.Eng
open Go

theorem VRel.back {μ μ' : Mu} (hm : μ.le μ') {v v0 : Value} (h : VRel μ v v0) : ∀ v', VRel μ' v v' → VRel μ v v' := by
  induction h with
  | any v => intro v' _; exact .any v'
  | @ptr i o p hp =>
    intro v' k
    cases k with
    | ptr hq =>
      rw [hm _ _ hp] at hq
      injection hq with hq
      subst hq
      exact .ptr hp
  | @slice i o l c c' p hp hc =>
    intro v' k
    cases k with
    | slice hq hd =>
      rw [hm _ _ hp] at hq
      injection hq with hq
      subst hq
      exact .slice hp hd
    | empty hc' => exact .empty hc'
  | empty hc =>
    intro v' k
    cases k with
    | empty hc' => exact .empty hc'
    | slice hq hd =>
      obtain ⟨h1, h2, h3⟩ := hd
      exfalso
      rcases h3 with ⟨h4, _⟩ | ⟨_, h4, _⟩
      · unfold empt grow at *; omega
      · omega
  | @map i p hp =>
    intro v' k
    cases k with
    | map hq =>
      rw [hm _ _ hp] at hq
      injection hq with hq
      subst hq
      exact .map hp
  | func fn a b _ _ ih1 ih2 =>
    intro v' k
    cases k with
    | func _ a' b' k1 k2 => exact .func fn a' b' (fun i hi => ih1 i hi _ (k1 i hi)) (fun i hi => ih2 i hi _ (k2 i hi))
  | iface t _ ih =>
    intro v' k
    cases k with
    | iface _ k1 => exact .iface t (ih _ k1)
  | agg a _ ih =>
    intro v' k
    cases k with
    | agg a' k1 => exact .agg a' fun i hi => ih i hi _ (k1 i hi)
  | tuple a _ ih =>
    intro v' k
    cases k with
    | tuple a' k1 => exact .tuple a' fun i hi => ih i hi _ (k1 i hi)
  | _ => intro v' k; cases k <;> constructor

theorem ObjRel.back {μ μ' : Mu} (hm : μ.le μ') {o : AObj} {x0 x : Obj} {p : Pl} (h0 : ObjRel μ o x0 p) (h : ObjRel μ' o x p) : ObjRel μ o x p := by
  cases h with
  | cells a1 a2 a3 a4 a5 a6 a7 =>
    cases h0 with
    | cells b1 b2 b3 b4 b5 b6 b7 => exact .cells a1 a2 a3 (fun i hi => (b4 i hi).back hm _ (a4 i hi)) a5 a6 a7
  | map a b =>
    cases h0 with
    | map c d => exact .map a fun i hi => ⟨(d i hi).1.back hm _ (b i hi).1, (d i hi).2.1.back hm _ (b i hi).2.1, (b i hi).2.2⟩
  | iter s pos hs => exact .iter s pos hs

theorem Rel.trim {G : Nat} {μ μ' : Mu} {H R : AHeap} {w w' : World} (hR : Rel G μ H w) (hR' : Rel G μ' R w') (t : Tn μ H w μ' R w') (k : Keeps [] H R) : Rel G μ H w' ∧ Tn μ H w μ H w' := by
  constructor
  · refine ⟨fun i o h => ?_, hR.fin, hR.base, hR.glob, hR.sep, hR.ro, hR.plt, hR.pend⟩
    obtain ⟨p, x0, h1, h2, h3⟩ := hR.dom i o h
    have h4 : R.get i = some o := by rw [k.old i (AHeap.get_lt h) (by simp)]; exact h
    obtain ⟨q, x, e1, e2, e3⟩ := hR'.dom i o h4
    rw [t.le _ _ h1] at e1
    injection e1 with e1
    subst e1
    exact ⟨p, x, h1, e2, h3.back t.le e3⟩
  · exact { Tn.refl hR with ext := t.ext }

theorem ACalls.trim {P : Program} {G : Nat} {f : FuncId} {args : List Value} {H : AHeap} {Q : Value → Prop} (h : ACalls P G f args H fun v H' => Q v ∧ flat 1 v = true ∧ Keeps [] H H') : ACalls P G f args H fun v H' => Q v ∧ H' = H := by
  intro μ w args' hR hA
  refine (h μ w args' hR hA).mono ?_
  rintro e w' ⟨v, v', H', μ', rfl, q1, q2, q3, q4, q5, q6⟩
  obtain ⟨k1, k2⟩ := hR.trim q2 q3 q6
  have e := flat_eq q1 1 q5
  subst e
  exact ⟨v', v', H, μ, rfl, flat_rel 1 _ q5, k1, k2, q4, rfl⟩
theorem ACalls.trim1 {P : Program} {G : Nat} {f : FuncId} {args : List Value} {H : AHeap} {v0 : Value} (hv : flat 1 v0 = true) (h : ACalls P G f args H fun v H' => v = v0 ∧ Keeps [] H H') : ACalls P G f args H fun v H' => v = v0 ∧ H' = H :=
  (h.mono fun v H' ⟨h1, h2⟩ => (⟨h1, by rw [h1]; exact hv, h2⟩ : v = v0 ∧ flat 1 v = true ∧ Keeps [] H H')).trim
theorem ACalls.trimD {P : Program} {G : Nat} {f : FuncId} {args : List Value} {H : AHeap} {v0 : Value} {d : Nat} (hv : flat d v0 = true) (h : ACalls P G f args H fun v H' => v = v0 ∧ Keeps [] H H') : ACalls P G f args H fun v H' => v = v0 ∧ H' = H := by
  intro μ w args' hR hA
  refine (h μ w args' hR hA).mono ?_
  rintro e w' ⟨v, v', H', μ', rfl, q1, q2, q3, rfl, q6⟩
  obtain ⟨k1, k2⟩ := hR.trim q2 q3 q6
  have e := flat_eq q1 d hv
  subst e
  exact ⟨v', v', H, μ, rfl, flat_rel d _ hv, k1, k2, rfl, rfl⟩
theorem keeps_iff (H : AHeap) (o : AObj) (H0 : AHeap) (h : Keeps [] H0 H) : Keeps [] H0 (H.new o) := h.trans (Keeps.new _ _ _)
attribute [go_sem] Keeps.refl Keeps.new
theorem Keeps.new' {W : List Nat} {H0 H : AHeap} (o : AObj) (h : Keeps W H0 H) : Keeps W H0 (H.new o) := h.trans (Keeps.new _ _ _)
theorem Keeps.set' {H0 H : AHeap} {i : Nat} {o : AObj} (h : Keeps [] H0 H) (h1 : H0.next ≤ i) (h2 : i < H.next) : Keeps [] H0 (H.set i o) := h.setNew o h1 h2
attribute [go_sem] Keeps.new' Keeps.set'
@[go_sem] theorem next_lt_one (n : Nat) : (n < n + 1) = True := by simp
@[go_sem] theorem next_ne_one (n : Nat) : (n = n + 1) = False := by simp
@[go_sem] theorem next_ne_one' (n : Nat) : (n + 1 = n) = False := by simp
@[go_sem] theorem next_lt_two (n : Nat) : (n < n + 2) = True := by simp
@[go_sem] theorem next_le (n k : Nat) : (n ≤ n + k) = True := by simp
@[go_sem] theorem next_le0 (n : Nat) : (n ≤ n) = True := by simp
end Go.Eng
