/- The engine, part 3: the operations, in the abstract heap. -/
import Derived.Test.YtkjclebafpomhaaDoorEngB
import GoSem.Dispatch
set_option linter.unusedVariables false
set_option linter.unusedSimpArgs false
namespace Go.Eng
open Go

/-! ### Runs that touch no memory -/
def prun (P : Program) {α : Type} : Sem α → Option α
  | .pure a => some a
  | .program k => prun P (k P)
  | .mark _ k => prun P k
  | _ => none
theorem prun_run (P : Program) {α : Type} (m : Sem α) : ∀ a, prun P m = some a → ∀ w, m.run P w = .ok a w := by
  induction m with
  | pure b => intro a h w; injection h with h; subst h; rfl
  | program k ih => intro a h w; exact ih P a h w
  | mark m k ih => intro a h w; exact ih a h w
  | _ => intro a h; cases h
@[simp] theorem prun_pure (P : Program) {α : Type} (a : α) : prun P (Pure.pure a : Sem α) = some a := rfl
@[simp] theorem prun_pure' (P : Program) {α : Type} (a : α) : prun P (Sem.pure a) = some a := rfl
@[simp] theorem prun_bind (P : Program) {α β : Type} (m : Sem α) (f : α → Sem β) : prun P (m >>= f) = (prun P m).bind fun a => prun P (f a) := by
  show prun P (m.bind f) = _
  induction m with
  | pure b => rfl
  | program k ih => exact ih P
  | mark m k ih => exact ih
  | _ => rfl
@[simp] theorem prun_program (P : Program) : prun P program = some P := rfl
theorem prun_underlying {P : Program} {t : TypeId} {d : TypeDesc} (h : P.underlying t = some d) : prun P (underlying t) = some d := by
  simp [underlying, h]

/-! ### Tables of types -/
structure Tb where
  und : TypeId → Option TypeDesc
  info : TypeId → Option TypeInfo
structure TbOK (P : Program) (T : Tb) : Prop where
  und : ∀ t d, T.und t = some d → P.underlying t = some d
  info : ∀ t i, T.info t = some i → P.info? t = some i
  zero : ∀ t i z, T.info t = some i → i.zero = some z → z.cells.toList.all (flat 0) = true ∧ z.cells.size = i.size ∧ flat 1 z = true
def Tb.of (P : Program) : Tb := { und := P.underlying, info := P.info? }

def vcells (v : Value) : List Value := v.cells.toList
def known : Value → Bool
  | .chan _ => false
  | _ => true
theorem VRel.cells {μ : Mu} {v v' : Value} (h : VRel μ v v') (hk : known v = true) : LRel μ (vcells v) (vcells v') := by
  cases h with
  | any v => cases hk
  | agg a b => exact ARel.list ⟨a, b⟩
  | _ => exact LRel.cons (by first | assumption | (constructor <;> assumption) | constructor) LRel.nil
theorem flat_one {v : Value} (h : flat 0 v = true) : one v = true := by cases v <;> simp_all [flat, one]
theorem all_one {l : List Value} (h : l.all (flat 0) = true) : l.all one = true := List.all_eq_true.2 fun x hx => flat_one (List.all_eq_true.1 h x hx)

section
variable {P : Program} {G : Nat} {μ : Mu} {H : AHeap} {w : World} {T : Tb}

/-- An operation comes to a value and a heap. -/
def Snd (P : Program) (G : Nat) (μ : Mu) (H : AHeap) (w : World) (s : Sem Value) (r : Value × AHeap) : Prop :=
  ∃ v' w' μ', s.run P w = .ok v' w' ∧ VRel μ' r.1 v' ∧ Rel G μ' r.2 w' ∧ Tn μ H w μ' r.2 w'

theorem Snd.same {s : Sem Value} {v v' : Value} (hR : Rel G μ H w) (h : s.run P w = .ok v' w) (hv : VRel μ v v') : Snd P G μ H w s (v, H) :=
  ⟨v', w, μ, h, hv, hR, Tn.refl hR⟩

theorem run_info (hT : TbOK P T) {t : TypeId} {i : TypeInfo} (h : T.info t = some i) : (typeInfo t).run P w = .ok i w := run_typeInfo w (hT.info t i h)
theorem run_size (hT : TbOK P T) {t : TypeId} {i : TypeInfo} (h : T.info t = some i) : (sizeOf t).run P w = .ok i.size w := by
  rw [run_sizeOf w (hT.info t i h)]; simp [Program.cellsOf, hT.info t i h]
theorem run_und (hT : TbOK P T) {t : TypeId} {d : TypeDesc} (h : T.und t = some d) : (underlying t).run P w = .ok d w := run_underlying (hT.und t d h) w
theorem run_zero (hT : TbOK P T) {t : TypeId} {i : TypeInfo} {z : Value} (h : T.info t = some i) (hz : i.zero = some z) : (zeroValue t).run P w = .ok z w := by
  simp [zeroValue, run_info hT h, hz]

/-! ### Variables -/
def isAg : TypeDesc → Bool
  | .struct _ | .array _ _ => true
  | _ => false
theorem run_isAg (hT : TbOK P T) {t : TypeId} {d : TypeDesc} (h : T.und t = some d) : (isAgg t).run P w = .ok (isAg d) w := by
  simp only [isAgg, Sem.run_bind, run_und hT h, Result.andThen_ok]
  cases d <;> rfl

def aLoad (T : Tb) (t : TypeId) (x : Value) (H : AHeap) : Option (Value × AHeap) :=
  match x with
  | .pointer (some a) =>
    match T.und t, T.info t with
    | some d, some i =>
      if isAg d then (loadN H a i.size).map fun vs => (.agg vs.toArray, H)
      else match loadN H a 1 with
        | some [v] => some (v, H)
        | _ => none
    | _, _ => none
  | _ => none

theorem aLoad_same (hT : TbOK P T) (hR : Rel G μ H w) {t : TypeId} {x x' : Value} {r : Value × AHeap} (hx : VRel μ x x') (h : aLoad T t x H = some r) :
    ∃ v v', r = (v, H) ∧ VRel μ v v' ∧ (Instr.loadAt t x').run P w = .ok v' w ∧ ∃ b, x' = .pointer (some b) := by
  unfold aLoad at h
  split at h
  · rename_i a
    obtain ⟨i, o, p, rfl, hp, rfl⟩ := ptr_inv hx
    split at h
    · rename_i d inf hd hi
      cases hag : isAg d with
      | true =>
        simp only [hag, if_true, Option.map_eq_some_iff] at h
        obtain ⟨vs, hvs, rfl⟩ := h
        obtain ⟨vs', h1, h2, h3, h4, h5⟩ := load_cells (P := P) hR hp hvs
        refine ⟨_, _, rfl, VRel.agg h1.arr.1 h1.arr.2, ?_, _, rfl⟩
        simp [Instr.loadAt, Instr.sureAddr, loadVar, run_isAg hT hd, hag, run_size hT hi, h5 w rfl]
      | false =>
        simp only [hag, Bool.false_eq_true, if_false] at h
        split at h
        · rename_i v hvs
          injection h with h
          subst h
          obtain ⟨vs', h1, h2, h3, h4, h5⟩ := load_cells (P := P) hR hp hvs
          obtain ⟨u, rfl⟩ : ∃ u, vs' = [u] := List.length_eq_one_iff.1 (by rw [← h1.1]; rfl)
          have hc := h4 0 u rfl
          rw [add_spot, Nat.add_zero] at hc
          refine ⟨_, _, rfl, h1.2 0 (by simp), ?_, _, rfl⟩
          simp [Instr.loadAt, Instr.sureAddr, loadVar, run_isAg hT hd, hag, hc]
        · cases h
    · cases h
  · cases h

theorem aLoad_ok (hT : TbOK P T) (hR : Rel G μ H w) {t : TypeId} {x x' : Value} {r : Value × AHeap} (hx : VRel μ x x') (h : aLoad T t x H = some r) :
    Snd P G μ H w (Instr.loadAt t x') r := by
  obtain ⟨v, v', rfl, h1, h2, _⟩ := aLoad_same hT hR hx h
  exact Snd.same hR h2 h1

def aStore (T : Tb) (t : TypeId) (x v : Value) (H : AHeap) : Option AHeap :=
  match x with
  | .pointer (some a) =>
    match T.info t with
    | some i => if known v = true ∧ (vcells v).length = i.size then storeN H a (vcells v) else none
    | none => none
  | _ => none

/-- An operation without a value. -/
def SndU (P : Program) (G : Nat) (μ : Mu) (H : AHeap) (w : World) (s : Sem Unit) (H' : AHeap) : Prop :=
  ∃ w' μ', s.run P w = .ok () w' ∧ Rel G μ' H' w' ∧ Tn μ H w μ' H' w'

theorem aStore_ok (hT : TbOK P T) (hR : Rel G μ H w) {t : TypeId} {x x' v v' : Value} {H' : AHeap} (hx : VRel μ x x') (hv : VRel μ v v') (h : aStore T t x v H = some H') :
    SndU P G μ H w (Instr.storeAt t x' v') H' := by
  unfold aStore at h
  split at h
  · rename_i a
    obtain ⟨i, o, p, rfl, hp, rfl⟩ := ptr_inv hx
    split at h
    · rename_i inf hi
      split at h
      · rename_i hl
        obtain ⟨hk, hl⟩ := hl
        have hc := hv.cells hk
        obtain ⟨w', h1, h2, h3, _⟩ := store_cells (P := P) hR hp hc h
        refine ⟨w', μ, ?_, h2, h3⟩
        have hsz : v'.cells.size = inf.size := by rw [← hl, hc.1]; simp [vcells]
        have h1' : (storeCells ⟨p.b, p.s + o, none⟩ v'.cells.toList).run P w = .ok () w' := h1
        simp [Instr.storeAt, Instr.sureAddr, storeVar, run_size hT hi, hsz, h1']
      · cases h
    · cases h
  · cases h

/-! ### New variables -/
def aNew (cs : List Value) (gs : Nat) (H : AHeap) : Option (Value × AHeap) :=
  if cs.all one then some (.pointer (some ⟨H.next, 0, none⟩), H.new (.cells cs false [] gs)) else none

/-- A new row: the cells, and whatever stands behind them. -/
theorem Rel.row {cs : List Value} {cs' : Array Value} {gs : Nat} {e : TypeId} {fr : Nat × Nat} {w' : World} (hR : Rel G μ H w) (h1 : cs.all one = true) (hl : cs.length ≤ cs'.size)
    (hv : ∀ i, i < cs.length → VRel μ (cs.getD i undef) (cs'.getD i undef)) (hfr : ∀ j, j < cs'.size → ¬ (fr.1 ≤ j ∧ j < fr.2)) (hgs : gs = 0 → fr.1 = 0 ∧ fr.2 = 0)
    (hw : w'.heap = w.heap.push (.cells cs' e fr)) (a1 : w'.os = w.os) (a2 : w'.tape = w.tape) (a3 : w'.output = w.output) :
    ∃ p : Pl, p = ⟨w.heap.size, 0, cs'.size, gs⟩ ∧ Rel G (μ.upd H.next p) (H.new (.cells cs false [] gs)) w' ∧ Tn μ H w (μ.upd H.next p) (H.new (.cells cs false [] gs)) w' := by
  refine ⟨_, rfl, ?_⟩
  have ho : ObjRel μ (.cells cs false [] gs) (.cells cs' e (fr.1, fr.2)) ⟨w.heap.size, 0, cs'.size, gs⟩ :=
    .cells rfl rfl (by simpa using hl) (fun i hi => by simpa using hv i hi) (fun x hx => List.all_eq_true.1 h1 x hx) (fun _ j _ hj => hfr j hj) hgs
  exact hR.push0 ho rfl rfl hw a1 a2 a3

theorem aNew_ok (hR : Rel G μ H w) {cs cs' : List Value} {gs : Nat} {e : TypeId} {r : Value × AHeap} (hv : LRel μ cs cs') (h : aNew cs gs H = some r) :
    ∃ w' μ', (newRow e cs'.toArray).run P w = .ok ⟨w.heap.size, 0, none⟩ w' ∧ VRel μ' r.1 (.pointer (some ⟨w.heap.size, 0, none⟩)) ∧ Rel G μ' r.2 w' ∧ Tn μ H w μ' r.2 w' ∧
      μ' = μ.upd H.next ⟨w.heap.size, 0, cs'.length, gs⟩ := by
  unfold aNew at h
  split at h
  · rename_i h1
    injection h with h
    subst h
    obtain ⟨p, hp, k1, k2⟩ := hR.row (cs := cs) (cs' := cs'.toArray) (gs := gs) (e := e) (fr := (0, 0)) (w' := { w with heap := w.heap.push (.cells cs'.toArray e) }) h1 (by simp [hv.1]) hv.arr'
      (fun j _ => by simp) (fun _ => ⟨rfl, rfl⟩) rfl rfl rfl rfl
    refine ⟨_, _, rfl, ?_, k1, k2, by rw [hp]; simp⟩
    have := VRel.ptr (μ := μ.upd H.next p) (o := 0) (Mu.upd_same H.next p)
    rw [hp] at this ⊢
    simpa using this
  · cases h

def aBox (x : Value) (H : AHeap) : Option (Value × AHeap) := if known x then aNew (vcells x) 0 H else none
theorem aBox_ok (hR : Rel G μ H w) {e : TypeId} {x x' : Value} {r : Value × AHeap} (hx : VRel μ x x') (h : aBox x H = some r) : Snd P G μ H w (Instr.box e x') r := by
  unfold aBox at h
  split at h
  case isFalse => cases h
  rename_i hk
  obtain ⟨w', μ', h1, h2, h3, h4, _⟩ := aNew_ok (P := P) (e := e) hR (hx.cells hk) h
  refine ⟨_, w', μ', ?_, h2, h3, h4⟩
  have : (newRow e x'.cells).run P w = .ok ⟨w.heap.size, 0, none⟩ w' := by simpa [vcells] using h1
  simp [Instr.box, newVar, this]

def zeroT (T : Tb) (t : TypeId) : Option Value := (T.info t).bind (·.zero)
def aAlloc (T : Tb) (t : TypeId) (H : AHeap) : Option (Value × AHeap) := (zeroT T t).bind fun z => aNew (vcells z) 0 H
theorem zero_rel (hT : TbOK P T) {t : TypeId} {z : Value} (h : zeroT T t = some z) : VRel μ z z := by
  unfold zeroT at h
  obtain ⟨i, hi, hz⟩ := Option.bind_eq_some_iff.1 h
  exact flat_rel 1 z (hT.zero t i z hi hz).2.2
theorem zero_known (hT : TbOK P T) {t : TypeId} {z : Value} (h : zeroT T t = some z) : known z = true := by
  unfold zeroT at h
  obtain ⟨i, hi, hz⟩ := Option.bind_eq_some_iff.1 h
  have := (hT.zero t i z hi hz).2.2
  cases z <;> first | rfl | (simp [flat] at this)
theorem zero_run (hT : TbOK P T) {t : TypeId} {z : Value} (h : zeroT T t = some z) : (zeroValue t).run P w = .ok z w := by
  unfold zeroT at h
  obtain ⟨i, hi, hz⟩ := Option.bind_eq_some_iff.1 h
  exact run_zero hT hi hz
theorem aAlloc_ok (hT : TbOK P T) (hR : Rel G μ H w) {t : TypeId} {r : Value × AHeap} (h : aAlloc T t H = some r) : Snd P G μ H w (Instr.alloc t true (.tuple #[])) r := by
  unfold aAlloc at h
  obtain ⟨z, hz, h⟩ := Option.bind_eq_some_iff.1 h
  have hzr : VRel μ z z := zero_rel hT hz
  obtain ⟨w', μ', h1, h2, h3, h4, _⟩ := aNew_ok (P := P) (e := t) hR (hzr.cells (zero_known hT hz)) h
  refine ⟨_, w', μ', ?_, h2, h3, h4⟩
  have : (newRow t z.cells).run P w = .ok ⟨w.heap.size, 0, none⟩ w' := by simpa [vcells] using h1
  simp [Instr.alloc, newVar, this, zero_run hT hz]

end
end Go.Eng
