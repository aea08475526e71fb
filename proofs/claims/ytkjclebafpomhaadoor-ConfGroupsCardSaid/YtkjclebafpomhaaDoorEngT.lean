/- The engine, part 20: operations by what the tables of types say: laws that simp can use once a seat's tables are read. -/
import Derived.Test.YtkjclebafpomhaaDoorEngS
set_option linter.unusedVariables false
set_option linter.unusedSimpArgs false
namespace Go.Eng
open Go

/-! ### What a table says, in short -/
def oneT (T : Tb) (t : TypeId) : Bool := match T.und t, T.info t with | some d, some _ => !isAg d | _, _ => false
def aggT (T : Tb) (t : TypeId) : Option Nat := match T.und t, T.info t with | some d, some i => if isAg d then some i.size else none | _, _ => none
def sizT (T : Tb) (t : TypeId) : Option Nat := (T.info t).map (·.size)
def sliT (T : Tb) (t : TypeId) : Option Nat := match T.und t with | some (.slice e) => (T.info e).map (·.size) | _ => none
def arrT (T : Tb) (t : TypeId) : Option (Nat × Nat) := match T.und t with | some (.array n e) => (T.info e).map fun i => (n, i.size) | _ => none
def appT (T : Tb) (t xt : TypeId) : Option (Nat × Nat) := match T.und t, T.und xt with
  | some (.slice e), some d => if isInt d then none else match T.info e, zeroT T e with
    | some i, some _ => if i.size = 0 ∨ i.bytes = 0 then none else some (i.size, i.bytes)
    | _, _ => none
  | _, _ => none

section
variable {T : Tb} {t : TypeId}
def ld1 (r : Option AObj) (o : Nat) : Option Value := match r with | some (.cells cs _ _ _) => cs[o]? | _ => none
def ldN (r : Option AObj) (o n : Nat) : Option (List Value) := match r with | some (.cells cs _ _ _) => if o + n ≤ cs.length then some ((cs.drop o).take n) else none | _ => none
@[go_sem] theorem ld1_cells (cs : List Value) (ro : Bool) (par : List Nat) (gs o : Nat) : ld1 (some (.cells cs ro par gs)) o = cs[o]? := id rfl
@[go_sem] theorem ldN_cells (cs : List Value) (ro : Bool) (par : List Nat) (gs o n : Nat) : ldN (some (.cells cs ro par gs)) o n = if o + n ≤ cs.length then some ((cs.drop o).take n) else none := id rfl
theorem loadN_ldN (H : AHeap) (b o n : Nat) (sp : Option Nat) : loadN H ⟨b, o, sp⟩ n = ldN (H.get b) o n := id rfl
theorem aLoad_one (h : oneT T t = true) (b o : Nat) (sp : Option Nat) (H : AHeap) : aLoad T t (.pointer (some ⟨b, o, sp⟩)) H = (ld1 (H.get b) o).map (·, H) := by
  unfold oneT at h
  split at h
  · rename_i d i hd hi
    have hag : isAg d = false := by simpa using h
    unfold aLoad
    simp only [hd, hi, hag, Bool.false_eq_true, if_false, loadN_ldN]
    cases H.get b with
    | none => rfl
    | some o' =>
      cases o' with
      | cells cs ro par gs =>
        simp only [ldN, ld1]
        by_cases hl : o < cs.length
        · rw [if_pos (by omega)]
          have : (cs.drop o).take 1 = [cs[o]] := by
            rw [List.drop_eq_getElem_cons hl]; rfl
          rw [this]
          simp [hl]
        · rw [if_neg (by omega)]
          simp [hl]
      | _ => rfl
  · cases h
theorem aLoad_agg {n : Nat} (h : aggT T t = some n) (b o : Nat) (sp : Option Nat) (H : AHeap) : aLoad T t (.pointer (some ⟨b, o, sp⟩)) H = (ldN (H.get b) o n).map fun vs => (.agg vs.toArray, H) := by
  unfold aggT at h
  split at h
  · rename_i d i hd hi
    split at h
    · rename_i hag
      injection h with h
      subst h
      unfold aLoad
      simp only [hd, hi, hag, if_true, loadN_ldN]
    · cases h
  · cases h

def stW (r : Option AObj) (b o n : Nat) (v : Value) (H : AHeap) : Option AHeap := match r with
  | some (.cells cs false par gs) => if known v = true ∧ (vcells v).length = n ∧ o + n ≤ cs.length ∧ (vcells v).all one = true then some ((H.dels par).set b (.cells (splice cs o (vcells v)) false [] gs)) else none
  | _ => none
@[go_sem] theorem stW_cells (cs : List Value) (par : List Nat) (gs b o n : Nat) (v : Value) (H : AHeap) : stW (some (.cells cs false par gs)) b o n v H =
    if known v = true ∧ (vcells v).length = n ∧ o + n ≤ cs.length ∧ (vcells v).all one = true then some ((H.dels par).set b (.cells (splice cs o (vcells v)) false [] gs)) else none := id rfl
theorem aStore_siz {n : Nat} (h : sizT T t = some n) (b o : Nat) (sp : Option Nat) (v : Value) (H : AHeap) : aStore T t (.pointer (some ⟨b, o, sp⟩)) v H = stW (H.get b) b o n v H := by
  obtain ⟨i, hi, rfl⟩ := Option.map_eq_some_iff.1 h
  unfold aStore storeN
  simp only [hi]
  cases H.get b with
  | none => simp [stW]
  | some o' =>
    cases o' with
    | cells cs ro par gs =>
      cases ro with
      | true => simp [stW]
      | false =>
        simp only [stW, Bool.not_false, Bool.true_and]
        by_cases h1 : known v = true ∧ (vcells v).length = i.size
        · rw [if_pos h1]
          simp only [Bool.and_eq_true, decide_eq_true_eq, h1, true_and]
        · rw [if_neg h1, if_neg]
          rintro ⟨a, b, _⟩
          exact h1 ⟨a, b⟩
    | _ => simp [stW]
theorem aIndexAddr_slice {n : Nat} (h : sliT T t = some n) (b o l c : Nat) (sp : Option Nat) (k : IntKind) (i : Int) : aIndexAddr T t (.slice (some ⟨b, o, sp⟩) l c) (.int k i) = if 0 ≤ i ∧ i < l then some (.pointer (some ⟨b, o + i.toNat * n, none⟩)) else none := by
  unfold sliT at h
  split at h
  · rename_i e he
    obtain ⟨inf, hi, rfl⟩ := Option.map_eq_some_iff.1 h
    unfold aIndexAddr
    simp only [he, hi]
  · cases h
theorem aIndexAddr_array {m n : Nat} (h : arrT T t = some (m, n)) (b o : Nat) (sp : Option Nat) (k : IntKind) (i : Int) : aIndexAddr T t (.pointer (some ⟨b, o, sp⟩)) (.int k i) = if 0 ≤ i ∧ i < m then some (.pointer (some ⟨b, o + i.toNat * n, none⟩)) else none := by
  unfold arrT at h
  split at h
  · rename_i m' e he
    obtain ⟨inf, hi, h⟩ := Option.map_eq_some_iff.1 h
    injection h with h1 h2
    subst h1; subst h2
    unfold aIndexAddr
    simp only [he, hi]
  · cases h

/-! ### append -/
def appW (sz by_ : Nat) (s : Value) (src : Option (Nat × List Value)) (H : AHeap) : Option (Value × AHeap) :=
  match src with
  | some (n, vs) =>
    match s with
    | .slice none 0 0 =>
      if n = 0 then some (s, H) else
      if n * by_ ≤ 140737488355328 then (aNew vs sz H).map fun r => (.slice (some ⟨H.next, 0, none⟩) n (grow + n), r.2) else none
    | .slice (some a) l c =>
      if n = 0 then some (s, H) else
      if c < grow then
        if l + n ≤ c then (storeN H ⟨a.block, a.off + l * sz, none⟩ vs).map fun H' => (.slice (some a) (l + n) c, H')
        else if (l + n) * by_ ≤ 140737488355328 then
          (loadN H a (l * sz)).bind fun old => (aNew (old ++ vs) sz H).map fun r => (.slice (some ⟨H.next, 0, none⟩) (l + n) (grow + (l + n)), r.2)
        else none
      else if c < empt then
        if l + n ≤ c - grow then (storeN H ⟨a.block, a.off + l * sz, none⟩ vs).map fun H' => (.slice (some a) (l + n) c, H')
        else match H.get a.block with
          | some (.cells cs false par gs) =>
            if gs = sz ∧ l = c - grow ∧ a.off + l * sz = cs.length ∧ (l + n) * by_ ≤ 140737488355328 then
              some (.slice (some ⟨H.next, 0, none⟩) (l + n) (grow + (l + n)), (H.set a.block (.cells cs true par gs)).new (.cells (cs.drop a.off ++ vs) false (a.block :: par) gs))
            else none
          | _ => none
      else none
    | _ => none
  | none => none
theorem aAppend_app {xt : TypeId} {sz by_ : Nat} (h : appT T t xt = some (sz, by_)) (s x : Value) (H : AHeap) : aAppend T t xt s x H = appW sz by_ s (srcOf H sz x) H := by
  unfold appT at h
  split at h
  · rename_i e d he hd
    split at h
    · cases h
    · rename_i hni
      split at h
      · rename_i i z hi hz
        split at h
        · cases h
        · rename_i h0
          injection h with h
          injection h with h1 h2
          subst h1; subst h2
          unfold aAppend
          simp only [he, hd, hi, hz, hni, if_false, h0]
          rfl
      · cases h
  · cases h
/-- A slice that was made by append alone, grown by one more; from nothing. -/
theorem appW_nil {sz by_ n : Nat} {vs : List Value} {H : AHeap} (hn : n ≠ 0) (hb : n * by_ ≤ 140737488355328) (hv : vs.all one = true) :
    appW sz by_ (.slice none 0 0) (some (n, vs)) H = some (.slice (some ⟨H.next, 0, none⟩) n (grow + n), H.new (.cells vs false [] sz)) := by
  simp only [appW, hn, if_false, hb, if_true, aNew, hv, Option.map_some]
theorem appW_more {sz by_ n l b : Nat} {vs cs : List Value} {par : List Nat} {H : AHeap} (hn : n ≠ 0) (hg : H.get b = some (.cells cs false par sz)) (hl : l * sz = cs.length) (hb : (l + n) * by_ ≤ 140737488355328) (hl2 : l < grow) :
    appW sz by_ (.slice (some ⟨b, 0, none⟩) l (grow + l)) (some (n, vs)) H = some (.slice (some ⟨H.next, 0, none⟩) (l + n) (grow + (l + n)), (H.set b (.cells cs true par sz)).new (.cells (cs ++ vs) false (b :: par) sz)) := by
  have e0 : ¬ (grow + l < grow) := by omega
  have e1 : grow + l < empt := by unfold grow empt at *; omega
  have e2 : ¬ (l + n ≤ grow + l - grow) := by omega
  have e3 : l = grow + l - grow := by omega
  simp only [appW, hn, if_false, e0, e1, e2, if_true, hg]
  rw [if_pos ⟨trivial, e3, by rw [Nat.zero_add]; exact hl, hb⟩]
  simp
end

/-! ### Values -/
section
variable (k : IntKind) (n : Int)
@[go_sem] theorem known_int : known (.int k n) = true := id rfl
@[go_sem] theorem known_bool (b : Bool) : known (.bool b) = true := id rfl
@[go_sem] theorem known_string (s : ByteArray) : known (.string s) = true := id rfl
@[go_sem] theorem known_pointer (a : Option Addr) : known (.pointer a) = true := id rfl
@[go_sem] theorem known_slice (a : Option Addr) (l c : Nat) : known (.slice a l c) = true := id rfl
@[go_sem] theorem known_map (a : Option Nat) : known (.map a) = true := id rfl
@[go_sem] theorem known_agg (a : Array Value) : known (.agg a) = true := id rfl
@[go_sem] theorem known_func (f : Fn) (a b : Array Value) : known (.func f a b) = true := id rfl
@[go_sem] theorem vcells_int : vcells (.int k n) = [.int k n] := id rfl
@[go_sem] theorem vcells_bool (b : Bool) : vcells (.bool b) = [.bool b] := id rfl
@[go_sem] theorem vcells_string (s : ByteArray) : vcells (.string s) = [.string s] := id rfl
@[go_sem] theorem vcells_pointer (a : Option Addr) : vcells (.pointer a) = [.pointer a] := id rfl
@[go_sem] theorem vcells_slice (a : Option Addr) (l c : Nat) : vcells (.slice a l c) = [.slice a l c] := id rfl
@[go_sem] theorem vcells_map (a : Option Nat) : vcells (.map a) = [.map a] := id rfl
@[go_sem] theorem vcells_func (f : Fn) (a b : Array Value) : vcells (.func f a b) = [.func f a b] := id rfl
@[go_sem] theorem vcells_agg (l : List Value) : vcells (.agg l.toArray) = l := id rfl
@[go_sem] theorem one_int : one (.int k n) = true := id rfl
@[go_sem] theorem one_bool (b : Bool) : one (.bool b) = true := id rfl
@[go_sem] theorem one_string (s : ByteArray) : one (.string s) = true := id rfl
@[go_sem] theorem one_pointer (a : Option Addr) : one (.pointer a) = true := id rfl
@[go_sem] theorem one_slice (a : Option Addr) (l c : Nat) : one (.slice a l c) = true := id rfl
@[go_sem] theorem one_map (a : Option Nat) : one (.map a) = true := id rfl
@[go_sem] theorem one_func (f : Fn) (a b : Array Value) : one (.func f a b) = true := id rfl
end
@[go_sem] theorem aBox_agg (l : List Value) (H : AHeap) : aBox (.agg l.toArray) H = aNew l 0 H := id rfl
theorem aNew_one {cs : List Value} (gs : Nat) (H : AHeap) (h : cs.all one = true) : aNew cs gs H = some (.pointer (some ⟨H.next, 0, none⟩), H.new (.cells cs false [] gs)) := by unfold aNew; rw [if_pos h]
@[go_sem] theorem aNew_if (cs : List Value) (gs : Nat) (H : AHeap) : aNew cs gs H = if cs.all one = true then some (.pointer (some ⟨H.next, 0, none⟩), H.new (.cells cs false [] gs)) else none := by unfold aNew; rfl
@[go_sem] theorem afill_nil (pl : Nat → Option (Nat × Nat)) (cs : List Value) : afill pl cs [] = some cs := id rfl
@[go_sem] theorem afill_cons (pl : Nat → Option (Nat × Nat)) (cs : List Value) (i : Nat) (v : Value) (l : List (Nat × Value)) : afill pl cs ((i, v) :: l) = (pl i).bind fun p => if (vcells v).length = p.2 ∧ p.1 + p.2 ≤ cs.length ∧ known v = true then afill pl (splice cs p.1 (vcells v)) l else none := by
  simp only [afill]; cases pl i <;> rfl
@[go_sem] theorem dels_nil (H : AHeap) : H.dels [] = H := id rfl
attribute [go_sem] splice AHeap.next_dels
@[go_sem] theorem next_newN (H : AHeap) (o : AObj) : (H.new o).next = H.next + 1 := id rfl
@[go_sem] theorem next_setN (H : AHeap) (i : Nat) (o : AObj) : (H.set i o).next = H.next := id rfl
@[go_sem] theorem aMakeMap_none (H : AHeap) : aMakeMap none H = some (.map (some H.next), H.new (.map [] 0)) := id rfl
@[go_sem] theorem aresults_nil (T : Tb) (τ : Tmps) (H : AHeap) : aresults T τ H [] = some [] := id rfl
@[go_sem] theorem aresults_tmp (T : Tb) (τ : Tmps) (H : AHeap) (t : Nat) (l : List ResultVar) : aresults T τ H (.tmp t :: l) = (aresults T τ H l).map (tget τ t :: ·) := id rfl
@[go_sem] theorem aresults_cell (T : Tb) (τ : Tmps) (H : AHeap) (a : Nat) (t : TypeId) (l : List ResultVar) : aresults T τ H (.cell a t :: l) = (aLoad T t (tget τ a) H).bind fun r => (aresults T τ H l).map (r.1 :: ·) := by
  simp only [aresults]
  cases aLoad T t (tget τ a) H with
  | none => rfl
  | some r => cases aresults T τ H l <;> rfl
@[go_sem] theorem wrapR_one (v : Value) : wrapR [v] = v := id rfl
@[go_sem] theorem wrapR_nil : wrapR [] = .tuple #[] := id rfl
@[go_sem] theorem wrapR_two (a b : Value) (l : List Value) : wrapR (a :: b :: l) = .tuple (a :: b :: l).toArray := id rfl

/-! ### The heap -/
attribute [go_sem] AHeap.get_new
theorem next_ne {j n : Nat} (h : j < n) : (j = n) = False := by simp; omega
theorem next_ne1 {j n k : Nat} (h : j < n) : (j = n + k) = False := by simp; omega
theorem next_lt1 {j n k : Nat} (h : j < n) : (j < n + k) = True := by simp; omega
theorem next_self_ne (n k : Nat) : (n = n + (k + 1)) = False := by simp
theorem next_self_ne' (n k : Nat) : (n + (k + 1) = n) = False := by simp
theorem next_add (n k l : Nat) : (n + k = n + l) = (k = l) := by simp
theorem next_lt (n k : Nat) : (n < n + (k + 1)) = True := by simp
theorem next_ltA (n k l : Nat) : (n + k < n + l) = (k < l) := by simp
theorem next_ltF (n k : Nat) : (n + k < n) = False := by simp
attribute [go_sem] Nat.add_assoc
attribute [go_sem] next_ne next_ne1 next_lt1 next_self_ne next_self_ne' next_add next_lt next_ltA next_ltF

theorem get_set_at {H : AHeap} {i : Nat} (j : Nat) (o : AObj) (h : i < H.next) : (H.set i o).get j = if j = i then some o else H.get j := AHeap.get_set H i j o h
attribute [go_sem] get_set_at
theorem get_new_old {H : AHeap} {j : Nat} (o : AObj) (h : j < H.next) : (H.new o).get j = H.get j := by rw [AHeap.get_new, if_neg (by omega)]
theorem get_new_self (H : AHeap) (o : AObj) : (H.new o).get H.next = some o := by rw [AHeap.get_new, if_pos rfl]
theorem get_set_self {H : AHeap} {j : Nat} (o : AObj) (h : j < H.next) : (H.set j o).get j = some o := by rw [AHeap.get_set _ _ _ _ h, if_pos rfl]
theorem get_set_ne {H : AHeap} {i j : Nat} (o : AObj) (h : j ≠ i) (hi : i < H.next) : (H.set i o).get j = H.get j := by rw [AHeap.get_set _ _ _ _ hi, if_neg h]
/-- Old rows, but for those that are listed, are as they were. -/
structure Keeps (W : List Nat) (H H' : AHeap) : Prop where
  le : H.next ≤ H'.next
  old : ∀ i, i < H.next → i ∉ W → H'.get i = H.get i
theorem Keeps.refl (W : List Nat) (H : AHeap) : Keeps W H H := ⟨Nat.le_refl _, fun _ _ _ => rfl⟩
theorem Keeps.trans {W : List Nat} {H H1 H2 : AHeap} (a : Keeps W H H1) (b : Keeps W H1 H2) : Keeps W H H2 :=
  ⟨Nat.le_trans a.le b.le, fun i hi hw => (b.old i (Nat.lt_of_lt_of_le hi a.le) hw).trans (a.old i hi hw)⟩
theorem Keeps.new (W : List Nat) (H : AHeap) (o : AObj) : Keeps W H (H.new o) := ⟨by simp, fun i hi _ => get_new_old o hi⟩
theorem Keeps.set {W : List Nat} {i : Nat} (H : AHeap) (o : AObj) (hw : i ∈ W) (hi : i < H.next) : Keeps W H (H.set i o) := ⟨by simp, fun j hj hn => get_set_ne o (fun e => hn (e ▸ hw)) hi⟩
theorem Keeps.setNew {W : List Nat} {i : Nat} {H H1 : AHeap} (k : Keeps W H H1) (o : AObj) (hw : H.next ≤ i) (hi : i < H1.next) : Keeps W H (H1.set i o) :=
  ⟨by simpa using k.le, fun j hj hn => by rw [get_set_ne o (by omega) hi]; exact k.old j hj hn⟩
theorem Keeps.get {W : List Nat} {H H1 : AHeap} (k : Keeps W H H1) {i : Nat} {o : AObj} (h : H.get i = some o) (hn : i ∉ W) : H1.get i = some o := by rw [k.old i (AHeap.get_lt h) hn, h]
end Go.Eng
