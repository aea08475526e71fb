/- The engine, part 14: a function's run, reckoned: regions in whatever order; what it comes to, the model comes to. -/
import Derived.Test.YtkjclebafpomhaaDoorEngM
import Derived.Test.YtkjclebafpomhaaDoorEngX
set_option linter.unusedVariables false
set_option linter.unusedSimpArgs false
namespace Go.Eng
open Go

/-! ### Which operations come ahead of which -/
def maskL (M : List Nat) : List Edge → Nat
  | [] => 0
  | e :: l => if Region.binds .any e then (maskL M l ||| 2 ^ e.on) ||| M.getD e.on 0 else maskL M l
def masksGo : List Oper → List Nat → List Nat
  | [], acc => acc
  | o :: l, acc => masksGo l (acc ++ [maskL acc o.after.toList])
def ordOkGo (M : List Nat) : List Oper → Nat → Bool
  | [], _ => true
  | o :: l, j => Nat.beq (M.getD j 0) (maskL M o.after.toList) && o.after.toList.all (fun e => !Region.binds .any e || Nat.blt e.on j) && ordOkGo M l (j + 1)
def befB (M : List Nat) (i j : Nat) : Bool := (M.getD j 0).testBit i

theorem maskL_bit (M : List Nat) (i : Nat) : ∀ l, (maskL M l).testBit i = true → ∃ e ∈ l, Region.binds .any e = true ∧ (e.on = i ∨ befB M i e.on = true) := by
  intro l
  induction l with
  | nil => intro h; simp [maskL] at h
  | cons e l ih =>
    intro h
    simp only [maskL] at h
    split at h
    · rename_i hb
      rw [Nat.testBit_or, Nat.testBit_or, Bool.or_eq_true, Bool.or_eq_true] at h
      rcases h with (h | h) | h
      · obtain ⟨e', h1, h2⟩ := ih h
        exact ⟨e', List.mem_cons_of_mem _ h1, h2⟩
      · rw [Nat.testBit_two_pow] at h
        exact ⟨e, List.mem_cons_self .., hb, .inl (by simpa using h)⟩
      · exact ⟨e, List.mem_cons_self .., hb, .inr h⟩
    · obtain ⟨e', h1, h2⟩ := ih h
      exact ⟨e', List.mem_cons_of_mem _ h1, h2⟩

theorem ordOkGo_at (M : List Nat) : ∀ (l : List Oper) (k : Nat), ordOkGo M l k = true → ∀ j o, l[j]? = some o → M.getD (k + j) 0 = maskL M o.after.toList ∧ ∀ e ∈ o.after.toList, Region.binds .any e = true → e.on < k + j := by
  intro l
  induction l with
  | nil => intro k _ j o h; simp at h
  | cons x l ih =>
    intro k h j o hj
    simp only [ordOkGo, Bool.and_eq_true] at h
    obtain ⟨⟨h1, h2⟩, h3⟩ := h
    cases j with
    | zero =>
      simp at hj
      subst hj
      refine ⟨Nat.eq_of_beq_eq_true h1, fun e he hb => ?_⟩
      have := List.all_eq_true.1 h2 e he
      rw [hb] at this
      simpa [Nat.blt_eq] using this
    | succ j =>
      have := ih (k + 1) h3 j o (by simpa using hj)
      rw [show k + (j + 1) = k + 1 + j by omega]
      exact this

theorem ord_ok {ops : Array Oper} {M : List Nat} (hl : M.length = ops.size) (h : ordOkGo M ops.toList 0 = true) : ROrd ops (befB M) := by
  have at_ : ∀ j o, ops[j]? = some o → M.getD j 0 = maskL M o.after.toList ∧ ∀ e ∈ o.after.toList, Region.binds .any e = true → e.on < j := by
    intro j o hj
    have := ordOkGo_at M ops.toList 0 h j o (by simpa using hj)
    simpa using this
  have src : ∀ i j o, befB M i j = true → ops[j]? = some o → ∃ e ∈ o.after.toList, Region.binds .any e = true ∧ (e.on = i ∨ befB M i e.on = true) := by
    intro i j o hb hj
    unfold befB at hb
    rw [(at_ j o hj).1] at hb
    exact maskL_bit M i _ hb
  refine ⟨?_, fun i j o hb hj => ?_, fun j o hj e he hb => (at_ j o hj).2 e (by simpa using he) hb⟩
  · intro i j
    induction j using Nat.strongRecOn with
    | _ j ih =>
      intro hb
      rcases Nat.lt_or_ge j ops.size with h1 | h1
      · have hj : ops[j]? = some ops[j] := Array.getElem?_eq_getElem h1
        obtain ⟨e, he, hbd, h2⟩ := src i j _ hb hj
        have h3 := (at_ j _ hj).2 e he hbd
        rcases h2 with rfl | h2
        · exact h3
        · have := ih e.on h3 h2; omega
      · have : M.getD j 0 = 0 := by simp [List.getD_eq_getElem?_getD, List.getElem?_eq_none (show M.length ≤ j by omega)]
        unfold befB at hb
        rw [this] at hb
        simp at hb
  · obtain ⟨e, he, h⟩ := src i j o hb hj
    exact ⟨e, by simpa using he, h⟩

/-! ### The part of the heap that an operation sees -/
inductive Foot where
  | ids (l : List Nat)
  | but (ex : List (List Nat × Nat × Nat))
def inL (l : List Nat) (i : Nat) : Bool := l.any (Nat.beq i)
theorem inL_iff {l : List Nat} {i : Nat} : inL l i = true ↔ i ∈ l := by
  unfold inL
  rw [List.any_eq_true]
  constructor
  · rintro ⟨x, h1, h2⟩; rw [Nat.eq_of_beq_eq_true h2]; exact h1
  · intro h; exact ⟨i, h, Nat.beq_refl i⟩
def inR (a b i : Nat) : Bool := Nat.ble a i && Nat.blt i b
theorem inR_iff {a b i : Nat} : inR a b i = true ↔ a ≤ i ∧ i < b := by simp [inR, Nat.blt_eq]
def Foot.has : Foot → Nat → Bool
  | .ids l, i => inL l i
  | .but ex, i => !ex.any fun (l, a, b) => inL l i || inR a b i

/-- One step of a region. -/
structure Stp where
  τ : Tmps
  h : AHeap
  V : AHeap
  R : AHeap
  v : Value
  foot : Foot
  wr : Option (List Nat)
  rd : List Nat
  o : Oper

def viewL (W F : List Nat) (H : AHeap) : AHeap := { t := .lf, next := H.next, back := fun i => if inL W i then H.get i else if inL F i then (H.get i).bind AObj.shut else none }
def viewQ (f : Foot) (H : AHeap) : AHeap := { t := .lf, next := H.next, back := fun i => if f.has i then (H.get i).bind AObj.shut else none }
theorem get_viewL (W F : List Nat) (H : AHeap) (i : Nat) : (viewL W F H).get i = if inL W i then H.get i else if inL F i then (H.get i).bind AObj.shut else none := by
  rcases Nat.lt_or_ge i H.next with h | h
  · rw [AHeap.get_in (H := viewL W F H) h]; rfl
  · rw [AHeap.get_out (H := viewL W F H) h, AHeap.get_out h]; split <;> first | rfl | (split <;> rfl)
theorem get_viewQ (f : Foot) (H : AHeap) (i : Nat) : (viewQ f H).get i = if f.has i then (H.get i).bind AObj.shut else none := by
  rcases Nat.lt_or_ge i H.next with h | h
  · rw [AHeap.get_in (H := viewQ f H) h]; rfl
  · rw [AHeap.get_out (H := viewQ f H) h, AHeap.get_out h]; split <;> rfl

/-- What a step brings, laid into the whole. -/
def putAll (R : AHeap) : List Nat → AHeap → AHeap
  | [], H => H
  | i :: l, H => putAll R l (match R.get i with | some o => H.set i o | none => H.del i)
theorem putAll_next (R : AHeap) : ∀ (l : List Nat) (H : AHeap), (putAll R l H).next = H.next := by
  intro l
  induction l with
  | nil => intro H; rfl
  | cons i l ih => intro H; simp only [putAll]; rw [ih]; split <;> rfl
theorem get_putAll (R : AHeap) : ∀ (l : List Nat) (H : AHeap), (∀ i ∈ l, i < H.next) → ∀ j, (putAll R l H).get j = if j ∈ l then R.get j else H.get j := by
  intro l
  induction l with
  | nil => intro H _ j; simp [putAll]
  | cons i l ih =>
    intro H hl j
    have hi := hl i (List.mem_cons_self ..)
    simp only [putAll]
    have hn : (match R.get i with | some o => H.set i o | none => H.del i).next = H.next := by split <;> rfl
    rw [ih _ (fun k hk => by rw [hn]; exact hl k (List.mem_cons_of_mem _ hk))]
    by_cases h1 : j ∈ l
    · rw [if_pos h1, if_pos (List.mem_cons_of_mem _ h1)]
    · rw [if_neg h1]
      by_cases h2 : j = i
      · subst h2
        rw [if_pos (List.mem_cons_self ..)]
        cases hR : R.get j with
        | some o => simp only []; rw [AHeap.get_set _ _ _ _ hi, if_pos rfl]
        | none => simp only []; rw [AHeap.get_del, if_pos rfl]
      · rw [if_neg (by simp [h1, h2])]
        cases hR : R.get i with
        | some o => simp only []; rw [AHeap.get_set _ _ _ _ hi, if_neg h2]
        | none => simp only []; rw [AHeap.get_del, if_neg h2]
def upFrom : Nat → Nat → List Nat
  | 0, _ => []
  | k + 1, n => n :: upFrom k (n + 1)
theorem mem_upFrom : ∀ (k n i : Nat), i ∈ upFrom k n ↔ n ≤ i ∧ i < n + k := by
  intro k
  induction k with
  | zero => intro n i; simp only [upFrom, List.not_mem_nil, false_iff]; omega
  | succ k ih => intro n i; simp only [upFrom, List.mem_cons, ih]; omega
def layIn (W : List Nat) (H R : AHeap) : AHeap := putAll R (W ++ upFrom (R.next - H.next) H.next) { H with next := R.next }
theorem layIn_next (W : List Nat) (H R : AHeap) : (layIn W H R).next = R.next := putAll_next ..
theorem get_layIn {W : List Nat} {H R : AHeap} (hn : H.next ≤ R.next) (hW : ∀ i ∈ W, i < H.next) (i : Nat) : (layIn W H R).get i = if i ∈ W ∨ (H.next ≤ i ∧ i < R.next) then R.get i else H.get i := by
  unfold layIn
  rw [get_putAll _ _ _ (fun k hk => by
    rw [List.mem_append, mem_upFrom] at hk
    show k < R.next
    rcases hk with hk | hk
    · have := hW k hk; omega
    · omega)]
  have e : (i ∈ W ++ upFrom (R.next - H.next) H.next) ↔ (i ∈ W ∨ (H.next ≤ i ∧ i < R.next)) := by
    rw [List.mem_append, mem_upFrom, show H.next + (R.next - H.next) = R.next by omega]
  by_cases h : i ∈ W ∨ (H.next ≤ i ∧ i < R.next)
  · rw [if_pos h, if_pos (e.2 h)]
  · rw [if_neg h, if_neg fun x => h (e.1 x)]
    rcases Nat.lt_or_ge i H.next with h1 | h1
    · rw [AHeap.get_in (H := { H with next := R.next }) (Nat.lt_of_lt_of_le h1 hn), AHeap.get_in h1]; rfl
    · rw [AHeap.get_out h1, AHeap.get_out (H := { H with next := R.next })]
      show R.next ≤ i
      omega

/-! ### Steps that clash -/
def clashNew (f : Foot) (n a b : Nat) : Bool := match f with
  | .ids l => l.any (inR a b)
  | .but ex => !(Nat.ble b a || Nat.ble n a || ex.any fun (_, a', b') => Nat.ble a' a && Nat.ble b b')
def noclash (f : Foot) (n : Nat) (k : Stp) : Bool := match k.wr with
  | none => (match f with | .ids [] => true | _ => false)
  | some W => W.all (fun i => !(f.has i) || Nat.ble n i) && !clashNew f n k.h.next k.R.next
def Stp.W (s : Stp) (i : Nat) : Prop := match s.wr with
  | none => i < s.h.next
  | some W => i ∈ W

theorem noclash_ok {f : Foot} {n : Nat} {k : Stp} (h : noclash f n k = true) {i : Nat} (hf : f.has i = true) (hi : i < n) : ¬ (k.W i ∨ (k.h.next ≤ i ∧ i < k.R.next)) := by
  unfold noclash at h
  unfold Stp.W
  split at h
  · rename_i hw
    split at h
    · simp [Foot.has, inL] at hf
    · cases h
  · rename_i W hw
    simp only [Bool.and_eq_true, Bool.not_eq_true'] at h
    obtain ⟨h1, h2⟩ := h
    rintro (h3 | h3)
    · have := List.all_eq_true.1 h1 i h3
      rw [hf] at this
      simp at this
      omega
    · unfold clashNew at h2
      split at h2
      · rename_i l
        simp only [Foot.has] at hf
        have := List.any_eq_false.1 h2 i (inL_iff.1 hf)
        exact this (inR_iff.2 h3)
      · rename_i ex
        simp only [Bool.not_eq_false', Bool.or_eq_true] at h2
        rcases h2 with (h2 | h2) | h2
        · rw [Nat.ble_eq] at h2; omega
        · rw [Nat.ble_eq] at h2; omega
        · rw [List.any_eq_true] at h2
          obtain ⟨⟨l, a', b'⟩, m1, m2⟩ := h2
          simp only [Bool.and_eq_true, Nat.ble_eq] at m2
          simp only [Foot.has, Bool.not_eq_true'] at hf
          have := List.any_eq_false.1 hf _ m1
          simp only [Bool.or_eq_true, not_or] at this
          exact this.2 (inR_iff.2 ⟨by omega, by omega⟩)

def noT (s t : Stp) : Bool := match t.o.dst with
  | none => true
  | some d => !(inL s.rd d) && !(match s.o.dst with | some d' => Nat.beq d d' | none => false)
theorem noT_ok {s t : Stp} (h : noT s t = true) {d : Nat} (hs : d ∈ s.rd ∨ s.o.dst = some d) : t.o.dst ≠ some d := by
  intro e
  unfold noT at h
  rw [e] at h
  simp only [Bool.and_eq_true, Bool.not_eq_true'] at h
  rcases hs with hs | hs
  · have := inL_iff.2 hs; rw [h.1] at this; cases this
  · rw [hs] at h; simp at h
def pairOk (s t : Stp) : Bool := noclash s.foot s.h.next t && noclash t.foot t.h.next s && noT s t && noT t s
def pairsFrom (M : List Nat) (j : Nat) (s : Stp) : List Stp → Nat → Bool
  | [], _ => true
  | t :: l, k => ((M.getD k 0).testBit j || pairOk s t) && pairsFrom M j s l (k + 1)
def pairsOk (M : List Nat) : List Stp → Nat → Bool
  | [], _ => true
  | s :: l, j => pairsFrom M j s l (j + 1) && pairsOk M l (j + 1)
theorem pairsFrom_at {M : List Nat} {j : Nat} {s : Stp} : ∀ (l : List Stp) (k : Nat), pairsFrom M j s l k = true → ∀ b t, l[b]? = some t → befB M j (k + b) = true ∨ pairOk s t = true := by
  intro l
  induction l with
  | nil => intro k _ b t h; simp at h
  | cons x l ih =>
    intro k h b t hb
    simp only [pairsFrom, Bool.and_eq_true, Bool.or_eq_true] at h
    cases b with
    | zero => simp at hb; subst hb; exact h.1
    | succ b =>
      have := ih (k + 1) h.2 b t (by simpa using hb)
      rw [show k + (b + 1) = k + 1 + b by omega]
      exact this
theorem pairsOk_at {M : List Nat} : ∀ (l : List Stp) (j : Nat), pairsOk M l j = true → ∀ a b s t, a < b → l[a]? = some s → l[b]? = some t → befB M (j + a) (j + b) = true ∨ pairOk s t = true := by
  intro l
  induction l with
  | nil => intro j _ a b s t _ h; simp at h
  | cons x l ih =>
    intro j h a b s t hab ha hb
    simp only [pairsOk, Bool.and_eq_true] at h
    cases b with
    | zero => omega
    | succ b =>
      cases a with
      | zero =>
        simp at ha
        subst ha
        have := pairsFrom_at l (j + 1) h.1 b t (by simpa using hb)
        rw [show j + (b + 1) = j + 1 + b by omega]
        exact this
      | succ a =>
        have := ih (j + 1) h.2 a b s t (by omega) (by simpa using ha) (by simpa using hb)
        rw [show j + (a + 1) = j + 1 + a by omega, show j + (b + 1) = j + 1 + b by omega]
        exact this
end Go.Eng
