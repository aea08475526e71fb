/- The engine, part 5: parts of values; slices of slices, arrays and strings; append, make, copy. -/
import Derived.Test.YtkjclebafpomhaaDoorEngD
import Derived.Lib.AppendStr
set_option linter.unusedVariables false
set_option linter.unusedSimpArgs false
namespace Go.Eng
open Go
section
variable {P : Program} {G : Nat} {μ : Mu} {H : AHeap} {w : World} {T : Tb}

/-! ### Parts of a value -/
def aPart (T : Tb) (t : TypeId) (cs : List Value) (off : Nat) : Option Value :=
  match T.und t, T.info t with
  | some d, some i => if isAg d then (if off + i.size ≤ cs.length then some (.agg ((cs.drop off).take i.size).toArray) else none) else cs[off]?
  | _, _ => none
theorem aPart_ok (hT : TbOK P T) {t : TypeId} {cs : List Value} {cs' : Array Value} {off : Nat} {v : Value} (hl : LRel μ cs cs'.toList) (h : aPart T t cs off = some v) :
    ∃ v', (part t cs' off).run P w = .ok v' w ∧ VRel μ v v' := by
  unfold aPart at h
  split at h
  · rename_i d i hd hi
    cases hag : isAg d with
    | true =>
      simp only [hag, if_true] at h
      split at h
      · injection h with h
        subst h
        have hr := (hl.drop off).take i.size
        refine ⟨.agg ((cs'.toList.drop off).take i.size).toArray, ?_, VRel.agg hr.arr.1 hr.arr.2⟩
        have : cs'.extract off (off + i.size) = ((cs'.toList.drop off).take i.size).toArray := by
          apply Array.ext'
          simp [List.extract_eq_take_drop]
        simp [part, run_isAg hT hd, hag, run_size hT hi, this]
      · cases h
    | false =>
      simp only [hag, Bool.false_eq_true, if_false] at h
      have hlt : off < cs.length := (List.getElem?_eq_some_iff.1 h).1
      have hr := hl.2 off hlt
      have e1 : cs.getD off undef = v := by rw [List.getD_eq_getElem?_getD, h]; rfl
      have e2 : cs'[off]? = some (cs'.toList.getD off undef) := by
        rw [← lgetD_some (by rw [← hl.1]; exact hlt)]; simp
      rw [e1] at hr
      generalize cs'.toList.getD off undef = u at *
      refine ⟨u, ?_, hr⟩
      simp [part, run_isAg hT hd, hag, e2]
  · cases h

def aField (T : Tb) (t : TypeId) (x : Value) (f : Nat) : Option Value :=
  match T.und t, x with
  | some (.struct fs), .agg cs => (fs.toList[f]?).bind fun fd => aPart T fd.type cs.toList fd.offset
  | _, _ => none
theorem aField_ok (hT : TbOK P T) (hR : Rel G μ H w) {t : TypeId} {x x' v : Value} {f : Nat} (hx : VRel μ x x') (h : aField T t x f = some v) : Snd P G μ H w (Instr.field t x' f) (v, H) := by
  unfold aField at h
  split at h
  · rename_i fs cs hu
    obtain ⟨fd, hf, h⟩ := Option.bind_eq_some_iff.1 h
    cases hx with
    | @agg _ c' h1 h2 =>
      obtain ⟨v', k1, k2⟩ := aPart_ok (w := w) hT (ARel.list ⟨h1, h2⟩) h
      have hf' : fs[f]? = some fd := by simpa using hf
      refine Snd.same hR ?_ k2
      simp [Instr.field, run_und hT hu, hf', asAgg, k1]
  · cases h

def aIndex (T : Tb) (t : TypeId) (x ix : Value) : Option Value :=
  match T.und t, x, ix with
  | some (.array len e), .agg cs, .int _ i =>
    match T.info e with
    | some inf => if 0 ≤ i ∧ i < len then aPart T e cs.toList (i.toNat * inf.size) else none
    | none => none
  | some .string, .string s, .int _ i => if 0 ≤ i then (s.data.toList[i.toNat]?).map fun b => .int .u8 b.toNat else none
  | _, _, _ => none
theorem ba_get (s : ByteArray) (i : Nat) : s[i]? = s.data.toList[i]? := by
  simp only [Array.getElem?_toList]
  by_cases h : i < s.size
  · rw [getElem?_pos s i h, getElem?_pos s.data i h]; rfl
  · rw [getElem?_neg s i h, getElem?_neg s.data i h]
theorem aIndex_ok (hT : TbOK P T) (hR : Rel G μ H w) {t : TypeId} {x x' ix ix' v : Value} (hx : VRel μ x x') (hix : VRel μ ix ix') (h : aIndex T t x ix = some v) :
    Snd P G μ H w (Instr.index t x' ix') (v, H) := by
  unfold aIndex at h
  split at h
  · rename_i len e cs k i hu
    cases hix
    split at h
    · rename_i inf hi
      split at h
      · rename_i hb
        cases hx with
        | @agg _ c' h1 h2 =>
          obtain ⟨v', k1, k2⟩ := aPart_ok (w := w) hT (ARel.list ⟨h1, h2⟩) h
          refine Snd.same hR ?_ k2
          simp [Instr.index, run_und hT hu, asIntOf, hb, run_size hT hi, k1]
      · cases h
    · cases h
  · rename_i s k i hu
    cases hix
    cases hx
    split at h
    · rename_i h0
      obtain ⟨b, hb, rfl⟩ := Option.map_eq_some_iff.1 h
      refine Snd.same hR ?_ (.int _ _)
      simp only [Instr.index, asIntOf, pure_bind, Sem.run_bind, run_und hT hu, Result.andThen_ok, Sem.run_pure]
      rw [if_pos h0, ba_get, hb]
      rfl
    · cases h
  · cases h

def aExtract (x : Value) (i : Nat) : Option Value :=
  match x with
  | .tuple vs => vs.toList[i]?
  | _ => none
theorem aExtract_ok (hR : Rel G μ H w) {x x' v : Value} {i : Nat} (hx : VRel μ x x') (h : aExtract x i = some v) : Snd P G μ H w (Instr.extract x' i) (v, H) := by
  unfold aExtract at h
  split at h
  · rename_i vs
    cases hx with
    | @tuple _ c' h1 h2 =>
      have hlt : i < vs.toList.length := (List.getElem?_eq_some_iff.1 h).1
      have hr := h2 i (by simpa using hlt)
      have e1 : vs.getD i undef = v := by rw [← agetD_toList, List.getD_eq_getElem?_getD, h]; rfl
      have e2 : c'[i]? = some (c'.getD i undef) := getD_some (by rw [← h1]; simpa using hlt)
      rw [e1] at hr
      generalize c'.getD i undef = u at *
      refine Snd.same hR (v' := u) ?_ hr
      simp [Instr.extract, e2]
  · cases h

/-! ### Slices -/
/-- A bound: given, or left out. -/
def bnd (v : Option Value) (dflt y : Nat) : Option Nat :=
  match v with
  | none => some dflt
  | some (.int _ i) => if 0 ≤ i ∧ i ≤ y then some i.toNat else none
  | _ => none
inductive ORel (μ : Mu) : Option Value → Option Value → Prop
  | none : ORel μ none none
  | some {v v' : Value} : VRel μ v v' → ORel μ (some v) (some v')

theorem bound_run {v v' : Value} {y y' n : Nat} {code : BoundsCode} (hv : VRel μ v v') (hy : y ≤ y') {d : Nat} (h : bnd (some v) d y = some n) : (Instr.sliceBound v' y' code).run P w = .ok n w ∧ n ≤ y := by
  unfold bnd at h
  split at h
  · rename_i e; cases e
  · rename_i k i e
    injection e with e
    subst e
    cases hv
    split at h
    · rename_i hb
      injection h with h
      subst h
      exact ⟨by simp [Instr.sliceBound, asIntOf, show (0 ≤ i ∧ i ≤ (y' : Int)) by omega], by omega⟩
    · cases h
  · cases h

/-- The three bounds, where no third one is given: 'c' at least may be reached. -/
theorem bounds_run {lo lo' hi hi' : Option Value} {isS : Bool} {len c c' l hh : Nat} (h1 : ORel μ lo lo') (h2 : ORel μ hi hi') (hc : c ≤ c') (hlen : len ≤ c)
    (hh2 : bnd hi len c = some hh) (hl : bnd lo 0 hh = some l) : (Instr.sliceBounds isS len c' lo' hi' none).run P w = .ok (l, hh, c') w ∧ l ≤ hh ∧ hh ≤ c := by
  have b : hh ≤ c ∧ ∀ code, (match hi' with | some v => Instr.sliceBound v c' code | none => pure len : Sem Nat).run P w = .ok hh w := by
    cases h2 with
    | none => injection hh2 with hh2; subst hh2; exact ⟨hlen, fun _ => rfl⟩
    | some hv => exact ⟨(bound_run (P := P) (w := w) (code := .index) hv hc hh2).2, fun code => (bound_run hv hc hh2).1⟩
  have d : l ≤ hh ∧ (match lo' with | some v => Instr.sliceBound v hh .sliceB | none => pure 0 : Sem Nat).run P w = .ok l w := by
    cases h1 with
    | none => injection hl with hl; subst hl; exact ⟨Nat.zero_le _, rfl⟩
    | some hv => exact ⟨(bound_run (P := P) (w := w) (code := .index) hv (Nat.le_refl _) hl).2, (bound_run hv (Nat.le_refl _) hl).1⟩
  refine ⟨?_, d.1, b.1⟩
  have d2 := d.2
  unfold Instr.sliceBounds
  cases h2 with
  | none =>
    have := b.2 .index
    cases h1 with
    | none => simp at this d2; simp [this, d2]
    | some hv => simp at this d2; simp [this, d2]
  | some hv2 =>
    have := b.2 (if isS then .sliceAcap else .sliceAlen)
    cases h1 with
    | none => simp at this d2; simp [this, d2]
    | some hv => simp at this d2; simp [this, d2]

def gsOf (H : AHeap) (i : Nat) : Option Nat := match H.get i with | some (.cells _ _ _ gs) => some gs | _ => none

def aSlice (T : Tb) (t : TypeId) (x : Value) (lo hi mx : Option Value) (H : AHeap) : Option Value :=
  match mx with
  | some _ => none
  | none =>
  match T.und t, x with
  | some (.array n e), .pointer (some a) =>
    match T.info e, bnd hi n n with
    | some inf, some h => if n < grow then (bnd lo 0 h).map fun l => .slice (some (if n = l then a else ⟨a.block, a.off + l * inf.size, none⟩)) (h - l) (n - l) else none
    | _, _ => none
  | some .string, .string s => (bnd hi s.size s.size).bind fun h => (bnd lo 0 h).map fun l => .string (s.extract l h)
  | some (.slice e), .slice none 0 0 => (T.info e).bind fun _ => (bnd hi 0 0).bind fun h => (bnd lo 0 h).map fun _ => .slice none 0 0
  | some (.slice e), .slice (some a) len c =>
    match T.info e with
    | some inf =>
      if c < grow then (if len ≤ c then (bnd hi len c).bind fun h => (bnd lo 0 h).map fun l => .slice (some (if c = l then a else ⟨a.block, a.off + l * inf.size, none⟩)) (h - l) (c - l) else none)
      else if c < empt then (if len ≤ c - grow ∧ gsOf H a.block = some inf.size then
          (bnd hi len (c - grow)).bind fun h => (bnd lo 0 h).map fun l => if l = c - grow then .slice (some a) 0 empt else .slice (some ⟨a.block, a.off + l * inf.size, none⟩) (h - l) (c - l) else none)
      else (bnd hi 0 0).bind fun h => (bnd lo 0 h).map fun _ => .slice (some a) 0 empt
    | none => none
  | _, _ => none

theorem aSlice_ok (hT : TbOK P T) (hR : Rel G μ H w) {t : TypeId} {x x' v : Value} {lo hi mx lo' hi' mx' : Option Value} (hx : VRel μ x x') (h1 : ORel μ lo lo') (h2 : ORel μ hi hi') (h3 : ORel μ mx mx')
    (h : aSlice T t x lo hi mx H = some v) : Snd P G μ H w (Instr.sliceAt t x' lo' hi' mx') (v, H) := by
  cases h3 with
  | some _ => cases h
  | none =>
  unfold aSlice at h
  simp only at h
  split at h
  · rename_i n e a hu
    obtain ⟨i, o, p, rfl, hp, rfl⟩ := ptr_inv hx
    split at h
    · rename_i inf hh hi' hb
      split at h
      · rename_i hn
        obtain ⟨l, hl, rfl⟩ := Option.map_eq_some_iff.1 h
        obtain ⟨k1, k2, k3⟩ := bounds_run (P := P) (w := w) (isS := false) h1 h2 (Nat.le_refl n) (Nat.le_refl n) hb hl
        have hcap : CapRel (hh - l) (n - l) (n - l) (if n = l then o else o + l * inf.size) p := ⟨by omega, by omega, .inl ⟨by omega, rfl⟩⟩
        have hv := VRel.slice hp hcap
        refine Snd.same hR (v' := .slice (some ⟨p.b, p.s + (if n = l then o else o + l * inf.size), none⟩) (hh - l) (n - l)) ?_ ?_
        · simp only [Instr.sliceAt, Sem.run_bind, run_und hT hu, Result.andThen_ok, Instr.sureAddr, pure_bind, k1, run_size hT hi', Sem.run_pure]
          by_cases e1 : n = l
          · simp [e1]
          · simp [e1, add_spot, Nat.add_assoc]
        · by_cases e1 : n = l
          · simpa [e1] using hv
          · simpa [e1] using hv
      · cases h
    · cases h
  · rename_i s hu
    cases hx
    obtain ⟨hh, hb, h⟩ := Option.bind_eq_some_iff.1 h
    obtain ⟨l, hl, rfl⟩ := Option.map_eq_some_iff.1 h
    obtain ⟨k1, k2, k3⟩ := bounds_run (P := P) (w := w) (isS := false) h1 h2 (Nat.le_refl _) (Nat.le_refl _) hb hl
    refine Snd.same hR (v' := .string (s.extract l hh)) ?_ (.string _)
    simp [Instr.sliceAt, run_und hT hu, Instr.slice, k1]
  · rename_i e hu
    cases hx
    obtain ⟨inf, hie, h⟩ := Option.bind_eq_some_iff.1 h
    obtain ⟨hh, hb, h⟩ := Option.bind_eq_some_iff.1 h
    obtain ⟨l, hl, rfl⟩ := Option.map_eq_some_iff.1 h
    obtain ⟨k1, k2, k3⟩ := bounds_run (P := P) (w := w) (isS := true) h1 h2 (Nat.le_refl 0) (Nat.le_refl 0) hb hl
    obtain rfl : hh = 0 := by omega
    obtain rfl : l = 0 := by omega
    refine Snd.same hR (v' := .slice none 0 0) ?_ .sliceNil
    simp [Instr.sliceAt, run_und hT hu, Instr.slice, k1, run_size hT hie]
  · rename_i e a len c hu
    split at h
    · rename_i inf hie
      split at h
      · rename_i hc
        split at h
        · rename_i hlc
          obtain ⟨hh, hb, h⟩ := Option.bind_eq_some_iff.1 h
          obtain ⟨l, hl, rfl⟩ := Option.map_eq_some_iff.1 h
          cases hx with
          | @slice i o _ _ c' p hp hcap =>
            have hcc : c' = c := by rcases hcap.2.2 with h | h <;> (unfold grow at *; omega)
            subst hcc
            obtain ⟨k1, k2, k3⟩ := bounds_run (P := P) (w := w) (isS := true) h1 h2 (Nat.le_refl c') hlc hb hl
            have hcap' : CapRel (hh - l) (c' - l) (c' - l) (if c' = l then o else o + l * inf.size) p := ⟨by omega, by omega, .inl ⟨by omega, rfl⟩⟩
            have hv := VRel.slice hp hcap'
            refine Snd.same hR (v' := .slice (some ⟨p.b, p.s + (if c' = l then o else o + l * inf.size), none⟩) (hh - l) (c' - l)) ?_ ?_
            · by_cases e1 : c' = l
              · subst e1; simp [Instr.sliceAt, run_und hT hu, Instr.slice, k1, run_size hT hie]
              · simp [Instr.sliceAt, run_und hT hu, Instr.slice, k1, run_size hT hie, e1, add_spot, Nat.add_assoc]
            · by_cases e1 : c' = l
              · simpa [e1] using hv
              · simpa [e1] using hv
          | empty => exact absurd hc (by decide)
        · cases h
      · rename_i hc
        split at h
        · rename_i hce
          split at h
          · rename_i hlc
            obtain ⟨hh, hb, h⟩ := Option.bind_eq_some_iff.1 h
            obtain ⟨l, hl, rfl⟩ := Option.map_eq_some_iff.1 h
            cases hx with
            | @slice i o _ _ c' p hp hcap =>
              have hk : c - grow ≤ c' ∧ p.s + o + c' * p.es ≤ p.sz := by rcases hcap.2.2 with h | h <;> (unfold grow empt at *; omega)
              obtain ⟨k1, k2, k3⟩ := bounds_run (P := P) (w := w) (isS := true) h1 h2 hk.1 hlc.1 hb hl
              have hes : p.es = inf.size := by
                have := hlc.2
                simp only [gsOf] at this
                split at this
                · rename_i cs ro par gs hg
                  obtain ⟨_, _, _, _, _, _, h3, _⟩ := hR.cells hg hp
                  injection this with this
                  omega
                · cases this
              by_cases e0 : l = c - grow
              · rw [if_pos e0]
                obtain rfl : hh = l := by omega
                by_cases e1 : c' = hh
                · subst e1
                  refine Snd.same hR (v' := .slice (some ⟨p.b, p.s + o, none⟩) 0 0) ?_ (.empty (by decide))
                  simp [Instr.sliceAt, run_und hT hu, Instr.slice, k1, run_size hT hie]
                · refine Snd.same hR (v' := .slice (some ⟨p.b, p.s + o + hh * inf.size, none⟩) 0 (c' - hh)) ?_ (.empty (by have := hcap.2.1; omega))
                  simp [Instr.sliceAt, run_und hT hu, Instr.slice, k1, run_size hT hie, e1, add_spot]
              · rw [if_neg e0]
                have e1 : c' ≠ l := by omega
                have hmul : (c' - l) * p.es + l * p.es = c' * p.es := by rw [← Nat.add_mul]; congr 1; omega
                have hcap' : CapRel (hh - l) (c - l) (c' - l) (o + l * inf.size) p := ⟨by omega, by have := hcap.2.1; omega, .inr ⟨by omega, by omega, by omega, by
                  rw [← hes]; omega⟩⟩
                refine Snd.same hR (v' := .slice (some ⟨p.b, p.s + o + l * inf.size, none⟩) (hh - l) (c' - l)) ?_ (by rw [Nat.add_assoc]; exact VRel.slice hp hcap')
                simp [Instr.sliceAt, run_und hT hu, Instr.slice, k1, run_size hT hie, e1, add_spot]
            | empty => exact absurd hce (by decide)
          · cases h
        · rename_i hce
          obtain ⟨hh, hb, h⟩ := Option.bind_eq_some_iff.1 h
          obtain ⟨l, hl, rfl⟩ := Option.map_eq_some_iff.1 h
          cases hx with
          | slice hp hcap => rcases hcap.2.2 with h | h <;> (unfold grow empt at *; omega)
          | @empty _ a' c' hc' =>
            obtain ⟨k1, k2, k3⟩ := bounds_run (P := P) (w := w) (isS := true) h1 h2 (Nat.zero_le c') (Nat.le_refl 0) hb hl
            obtain rfl : hh = 0 := by omega
            obtain rfl : l = 0 := by omega
            refine Snd.same hR (v' := .slice (some a') 0 c') ?_ (.empty hc')
            by_cases e1 : c' = 0
            · subst e1; simp [Instr.sliceAt, run_und hT hu, Instr.slice, k1, run_size hT hie]
            · simp [Instr.sliceAt, run_und hT hu, Instr.slice, k1, run_size hT hie, e1, Addr.add]
    · cases h
  · cases h

end
end Go.Eng
