/- The engine, part 9: maps, iterators over strings, copy. -/
import Derived.Test.YtkjclebafpomhaaDoorEngH
set_option linter.unusedVariables false
set_option linter.unusedSimpArgs false
namespace Go.Eng
open Go
section
variable {P : Program} {G : Nat} {μ : Mu} {H : AHeap} {w : World} {T : Tb}

/-! ### Finding a key -/
def aFindNow (d : TypeDesc) (k : Value) : List MapEntry → Nat → Option (Option Nat)
  | [], _ => some none
  | e :: es, i => if flat 2 e.key then
      match Instr.sameNow d k e.key with
      | some true => some (some i)
      | some false => aFindNow d k es (i + 1)
      | none => none
    else none
def aFindAsk (P : Program) (kt : TypeId) (k : Value) : List MapEntry → Nat → Option (Option Nat)
  | [], _ => some none
  | e :: es, i => if flat 2 e.key then
      match prun P (Op.equal kt k e.key) with
      | some true => some (some i)
      | some false => aFindAsk P kt k es (i + 1)
      | none => none
    else none
def asks : TypeDesc → Bool
  | .int _ | .string | .bool => false
  | _ => true
/-- Which entry has a key. -/
def aFind (P : Program) (T : Tb) (kt : TypeId) (k : Value) (es : List MapEntry) : Option (Option Nat) :=
  match T.und kt with
  | some d => if asks d then aFindAsk P kt k es 0 else aFindNow d k es 0
  | none => none

/-- Entries, related place by place. -/
def EsRel (μ : Mu) (es es' : List MapEntry) : Prop := es.length = es'.length ∧ ∀ i, i < es.length → EntRel μ (es.getD i default) (es'.getD i default)
theorem EsRel.cons_inv {e : MapEntry} {es es' : List MapEntry} (h : EsRel μ (e :: es) es') : ∃ e' r, es' = e' :: r ∧ EntRel μ e e' ∧ EsRel μ es r := by
  cases es' with
  | nil => have := h.1; simp at this
  | cons e' r =>
    exact ⟨e', r, rfl, by simpa using h.2 0 (by simp), by simpa using h.1, fun i hi => by simpa using h.2 (i + 1) (by simpa using hi)⟩

theorem findNow_ok (d : TypeDesc) (k : Value) : ∀ (es es' : List MapEntry) (i : Nat) (r : Option Nat), EsRel μ es es' → aFindNow d k es i = some r →
    match r with
    | none => Instr.findNow d k es' i = some none
    | some j => i ≤ j ∧ j - i < es.length ∧ ∃ v', Instr.findNow d k es' i = some (some (j, v')) ∧ v' = (es'.getD (j - i) default).val := by
  intro es
  induction es with
  | nil =>
    intro es' i r h hf
    injection hf with hf
    subst hf
    have : es' = [] := List.length_eq_zero_iff.1 (by rw [← h.1]; rfl)
    subst this
    rfl
  | cons e es ih =>
    intro es' i r h hf
    obtain ⟨e', q, rfl, he, hq⟩ := h.cons_inv
    unfold aFindNow at hf
    split at hf
    · rename_i hfl
      have hk : e'.key = e.key := flat_eq he.1 2 hfl
      split at hf
      · rename_i hs
        injection hf with hf
        subst hf
        simp only
        exact ⟨Nat.le_refl _, by simp, e'.val, by unfold Instr.findNow; rw [hk, hs], by simp⟩
      · rename_i hs
        have := ih q (i + 1) r hq hf
        cases r with
        | none => simp only at this ⊢; unfold Instr.findNow; rw [hk, hs]; exact this
        | some j =>
          simp only at this ⊢
          obtain ⟨a, b, v', c, d'⟩ := this
          refine ⟨by omega, by simp; omega, v', by unfold Instr.findNow; rw [hk, hs]; exact c, ?_⟩
          rw [d', show j - i = (j - (i + 1)) + 1 by omega]
          simp
      · cases hf
    · cases hf

theorem findAsk_ok (kt : TypeId) (k : Value) : ∀ (es es' : List MapEntry) (i : Nat) (r : Option Nat), EsRel μ es es' → aFindAsk P kt k es i = some r →
    match r with
    | none => (Instr.findAsking kt k es' i).run P w = .ok none w
    | some j => i ≤ j ∧ j - i < es.length ∧ ∃ v', (Instr.findAsking kt k es' i).run P w = .ok (some (j, v')) w ∧ v' = (es'.getD (j - i) default).val := by
  intro es
  induction es with
  | nil =>
    intro es' i r h hf
    injection hf with hf
    subst hf
    have : es' = [] := List.length_eq_zero_iff.1 (by rw [← h.1]; rfl)
    subst this
    rfl
  | cons e es ih =>
    intro es' i r h hf
    obtain ⟨e', q, rfl, he, hq⟩ := h.cons_inv
    unfold aFindAsk at hf
    split at hf
    · rename_i hfl
      have hk : e'.key = e.key := flat_eq he.1 2 hfl
      split at hf
      · rename_i hs
        injection hf with hf
        subst hf
        simp only
        exact ⟨Nat.le_refl _, by simp, e'.val, by unfold Instr.findAsking; rw [hk]; simp [prun_run P _ _ hs w], by simp⟩
      · rename_i hs
        have hrun := prun_run P _ _ hs w
        have := ih q (i + 1) r hq hf
        cases r with
        | none => simp only at this ⊢; unfold Instr.findAsking; rw [hk]; simp [hrun, this]
        | some j =>
          simp only at this ⊢
          obtain ⟨a, b, v', c, d'⟩ := this
          refine ⟨by omega, by simp; omega, v', by unfold Instr.findAsking; rw [hk]; simp [hrun, c], ?_⟩
          rw [d', show j - i = (j - (i + 1)) + 1 by omega]
          simp
      · cases hf
    · cases hf

theorem findNow_asks {d : TypeDesc} (h : asks d = true) (k : Value) (e : MapEntry) (es : List MapEntry) (i : Nat) : Instr.findNow d k (e :: es) i = none := by
  unfold Instr.findNow
  cases d <;> first | (cases h; done) | rfl

theorem find_ok (hT : TbOK P T) {kt : TypeId} {k : Value} {es es' : List MapEntry} {r : Option Nat} (h : EsRel μ es es') (hf : aFind P T kt k es = some r) :
    match r with
    | none => (Instr.findKey kt k es').run P w = .ok none w
    | some j => j < es.length ∧ (Instr.findKey kt k es').run P w = .ok (some (j, (es'.getD j default).val)) w := by
  unfold aFind at hf
  split at hf
  · rename_i d hd
    cases ha : asks d with
    | false =>
      rw [ha] at hf
      have := findNow_ok d k es es' 0 r h (by simpa using hf)
      cases r with
      | none => simp only at this ⊢; simp [Instr.findKey, run_und hT hd, this]
      | some j =>
        simp only at this ⊢
        obtain ⟨_, b, v', c, d'⟩ := this
        refine ⟨by simpa using b, ?_⟩
        rw [Nat.sub_zero] at d'
        rw [← d']
        simp [Instr.findKey, run_und hT hd, c]
    | true =>
      rw [ha] at hf
      have := findAsk_ok (P := P) (w := w) kt k es es' 0 r h (by simpa using hf)
      cases es' with
      | nil =>
        have he : es = [] := List.length_eq_zero_iff.1 (by rw [h.1]; rfl)
        subst he
        have : r = none := by unfold aFindAsk at hf; simp at hf; exact hf.symm
        subst this
        simp [Instr.findKey, run_und hT hd, Instr.findNow]
      | cons e' q =>
        have hno := findNow_asks ha k e' q 0
        cases r with
        | none => simp only at this ⊢; simp [Instr.findKey, run_und hT hd, hno, this]
        | some j =>
          simp only at this ⊢
          obtain ⟨_, b, v', c, d'⟩ := this
          refine ⟨by simpa using b, ?_⟩
          rw [Nat.sub_zero] at d'
          rw [← d']
          simp [Instr.findKey, run_und hT hd, hno, c]
  · cases hf

theorem EsRel.of {es : List MapEntry} {es' : Array MapEntry} (h1 : es.length = es'.size) (h2 : ∀ i, i < es.length → EntRel μ (es.getD i default) (es'.getD i default)) : EsRel μ es es'.toList :=
  ⟨by simpa using h1, fun i hi => by have := h2 i hi; simpa [Array.getD_eq_getD_getElem?, List.getD_eq_getElem?_getD] using this⟩

/-! ### Looking up -/
def aLookup (P : Program) (T : Tb) (t : TypeId) (x ix : Value) (ok : Bool) (H : AHeap) : Option Value :=
  match T.und t with
  | some (.map kt e) =>
    if flat 2 ix then
      let es : Option (List MapEntry) := match x with
        | .map none => some []
        | .map (some r) => (match H.get r with | some (.map es _ _) => some es | _ => none)
        | _ => none
      match es with
      | some es =>
        match prun P (Instr.checkKey es.isEmpty 10000 kt ix), aFind P T kt ix es with
        | some _, some (some j) => let v := (es.getD j default).val; some (if ok then .tuple #[v, .bool true] else v)
        | some _, some none => (zeroT T e).map fun v => if ok then .tuple #[v, .bool false] else v
        | _, _ => none
      | none => none
    else none
  | _ => none

theorem pair_rel {μ : Mu} {a a' b b' : Value} (h : VRel μ a a') (k : VRel μ b b') : VRel μ (.tuple #[a, b]) (.tuple #[a', b']) := by
  refine .tuple rfl fun i hi => ?_
  have hi' : i < 2 := by simpa using hi
  match i, hi' with
  | 0, _ => exact h
  | 1, _ => exact k

theorem aLookup_ok (hT : TbOK P T) (hR : Rel G μ H w) {t : TypeId} {x x' ix ix' v : Value} {ok : Bool} (hx : VRel μ x x') (hix : VRel μ ix ix') (h : aLookup P T t x ix ok H = some v) :
    Snd P G μ H w (Instr.lookup t x' ix' ok) (v, H) := by
  unfold aLookup at h
  split at h
  · rename_i kt e hu
    split at h
    · rename_i hfl
      obtain rfl := flat_eq hix 2 hfl
      simp only at h
      split at h
      · rename_i es hes
        -- the entries in the world
        have hent : ∃ es' : Array MapEntry, EsRel μ es es'.toList ∧ ((x' = .map none ∧ es' = #[]) ∨ ∃ b ck, x' = .map (some b) ∧ (getObj b).run P w = .ok (.map es' ck) w) := by
          split at hes
          · injection hes with hes; subst hes; cases hx
            exact ⟨#[], ⟨rfl, fun i hi => by simp at hi⟩, .inl ⟨rfl, rfl⟩⟩
          · rename_i r
            split at hes
            · rename_i es0 ck ro hg
              injection hes with hes; subst hes
              cases hx with
              | map hp =>
                obtain ⟨es', a, b, c⟩ := map_at hR hp hg
                exact ⟨es', .of b c, .inr ⟨_, _, rfl, run_getObj (P := P) a (fun _ _ _ h => by cases h)⟩⟩
            · cases hes
          · cases hes
        obtain ⟨es', hrel, hrun⟩ := hent
        have hemp : es'.isEmpty = es.isEmpty := by
          have := hrel.1
          cases es with
          | nil => simp at this ⊢; exact Array.size_eq_zero_iff.1 this.symm
          | cons e0 es0 => simp at this ⊢; intro h; rw [h] at this; simp at this
        split at h
        · rename_i u j hck hfi
          have hf := find_ok (w := w) hT hrel hfi
          simp only at hf
          have hc := prun_run P _ _ hck w
          injection h with h
          subst h
          have hr := (hrel.2 j hf.1).2.1
          have hc' : (Instr.checkKey es'.isEmpty 10000 kt ix').run P w = .ok () w := by rw [hemp]; exact hc
          have hrn : (Instr.lookup t x' ix' ok).run P w = .ok (if ok then .tuple #[(es'.toList.getD j default).val, .bool true] else (es'.toList.getD j default).val) w := by
            rcases hrun with ⟨rfl, rfl⟩ | ⟨b, ck, rfl, hg⟩
            · have h0 := hrel.1
              have h1 := hf.1
              simp at h0
              rw [h0] at h1
              simp at h1
            · simp [Instr.lookup, run_und hT hu, hg, hc', hf.2]
          refine Snd.same hR hrn ?_
          cases ok with
          | true => exact pair_rel hr (.bool _)
          | false => exact hr
        · rename_i u hck hfi
          have hf := find_ok (w := w) hT hrel hfi
          simp only at hf
          have hc := prun_run P _ _ hck w
          obtain ⟨z, hz, rfl⟩ := Option.map_eq_some_iff.1 h
          have hc' : (Instr.checkKey es'.isEmpty 10000 kt ix').run P w = .ok () w := by rw [hemp]; exact hc
          have hrn : (Instr.lookup t x' ix' ok).run P w = .ok (if ok then .tuple #[z, .bool false] else z) w := by
            rcases hrun with ⟨rfl, rfl⟩ | ⟨b, ck, rfl, hg⟩
            · have hc2 : (Instr.checkKey true 10000 kt ix').run P w = .ok () w := hc'
              have hf2 : (Instr.findKey kt ix' []).run P w = .ok none w := hf
              simp [Instr.lookup, run_und hT hu, hc2, hf2, zero_run hT hz]
            · simp [Instr.lookup, run_und hT hu, hg, hc', hf, zero_run hT hz]
          refine Snd.same hR hrn ?_
          have hzr : VRel μ z z := zero_rel hT hz
          cases ok with
          | true => exact pair_rel hzr (.bool _)
          | false => exact hzr
        · cases h
      · cases h
    · cases h
  · cases h

/-! ### Writing a map -/
def emod (es : List MapEntry) (j : Nat) (f : MapEntry → MapEntry) : List MapEntry := es.take j ++ (match es[j]? with | some e => [f e] | none => []) ++ es.drop (j + 1)

theorem emod_rel {es : List MapEntry} {es' : Array MapEntry} {j : Nat} {f f' : MapEntry → MapEntry} (h : EsRel μ es es'.toList) (hj : j < es.length) (hf : EntRel μ (f (es.getD j default)) (f' (es'.toList.getD j default))) :
    EsRel μ (emod es j f) (es'.modify j f').toList := by
  have hl : es'.size = es.length := by have := h.1; simpa using this.symm
  have e0 : es[j]? = some es[j] := List.getElem?_eq_getElem hj
  have el : (emod es j f).length = es.length := by simp [emod, e0]; omega
  refine ⟨by rw [el]; simp [hl], fun i hi => ?_⟩
  rw [el] at hi
  have g1 : (emod es j f).getD i default = if i = j then f (es.getD j default) else es.getD i default := by
    simp only [emod, e0, List.getD_eq_getElem?_getD]
    by_cases e1 : i = j
    · subst e1
      rw [if_pos rfl, List.append_assoc, List.getElem?_append_right (by simp; omega)]
      simp [show min i es.length = i by omega, hj]
    · rw [if_neg e1]
      by_cases e2 : i < j
      · rw [List.append_assoc, List.getElem?_append_left (by simp; omega), List.getElem?_take_of_lt e2]
      · rw [List.getElem?_append_right (by simp; omega), List.getElem?_drop]
        simp only [List.length_append, List.length_take, List.length_singleton]
        congr 2
        omega
  have g2 : (es'.modify j f').toList.getD i default = if i = j then f' (es'.toList.getD j default) else es'.toList.getD i default := by
    simp only [List.getD_eq_getElem?_getD, Array.getElem?_toList, Array.getElem?_modify]
    by_cases e1 : i = j
    · subst e1; simp [hl, hj]
    · simp [e1, Ne.symm e1]
  rw [g1, g2]
  split
  · exact hf
  · exact h.2 i hi

theorem epush_rel {es : List MapEntry} {es' : Array MapEntry} {e e' : MapEntry} (h : EsRel μ es es'.toList) (he : EntRel μ e e') : EsRel μ (es ++ [e]) (es'.push e').toList := by
  have hl : es'.size = es.length := by have := h.1; simpa using this.symm
  refine ⟨by simp [hl], fun i hi => ?_⟩
  by_cases e1 : i < es.length
  · have := h.2 i e1
    simpa [List.getD_eq_getElem?_getD, List.getElem?_append_left e1, List.getElem?_append_left (show i < es'.toList.length by simpa [hl] using e1)] using this
  · have : i = es.length := by simp at hi; omega
    subst this
    have e2 : (es ++ [e]).getD es.length default = e := by simp [List.getD_eq_getElem?_getD]
    have e3 : (es'.push e').toList.getD es.length default = e' := by simp [List.getD_eq_getElem?_getD, ← hl]
    rw [e2, e3]
    exact he

/-- A map that is written. -/
theorem map_set {r k k' : Nat} {p : Pl} {es es2 : List MapEntry} {es' es2' : Array MapEntry} (hR : Rel G μ H w) (hp : μ r = some p) (hg : H.get r = some (.map es k)) (hw : w.heap[p.b]? = some (.map es' k)) (he : EsRel μ es2 es2'.toList) :
    ∃ w', (setObj p.b (.map es2' k')).run P w = .ok () w' ∧ Rel G μ (H.set r (.map es2 k')) w' ∧ Tn μ H w μ (H.set r (.map es2 k')) w' := by
  refine ⟨_, run_setObj (P := P) hw (fun _ _ _ h => by cases h), ?_⟩
  have hlt := (Array.getElem?_eq_some_iff.1 hw).1
  have := hR.upd (o' := .map es2 k') (x' := .map es2' k') (w' := { w with heap := w.heap.setIfInBounds p.b (.map es2' k') }) hg rfl hp (.map (by have := he.1; simpa using this) (fun i hi => by
      have := he.2 i hi; simpa [Array.getD_eq_getD_getElem?, List.getD_eq_getElem?_getD] using this)) rfl (by simp [hlt]) (fun q hq => by simp [Array.getElem?_setIfInBounds_ne (Ne.symm hq)]) (by simp) rfl rfl rfl
  simpa [AObj.par, AHeap.dels] using this

def aMapUpdate (P : Program) (T : Tb) (t : TypeId) (m k v : Value) (H : AHeap) : Option AHeap :=
  match T.und t, m with
  | some (.map kt e), .map (some r) =>
    match H.get r with
    | some (.map es ck false) =>
      if flat 2 k then
        match prun P (Instr.checkKey false 10000 kt k), aFind P T kt k es with
        | some _, some (some j) => if flat 2 (es.getD j default).key && Instr.sameBits 10000 (es.getD j default).key k then some (H.set r (.map (emod es j fun x => { x with key := k, val := v }) ck)) else none
        | some _, some none => some (H.set r (.map (es ++ [{ key := k, val := v, born := ck }]) (ck + 1)))
        | _, _ => none
      else none
    | _ => none
  | _, _ => none

theorem aMapUpdate_ok (hT : TbOK P T) (hR : Rel G μ H w) {t : TypeId} {m m' k k' v v' : Value} {H' : AHeap} (hm : VRel μ m m') (hk : VRel μ k k') (hv : VRel μ v v') (h : aMapUpdate P T t m k v H = some H') :
    SndU P G μ H w (Instr.mapUpdate t m' k' v') H' := by
  unfold aMapUpdate at h
  split at h
  · rename_i kt e r hu
    split at h
    · rename_i es ck hg
      split at h
      · rename_i hfl
        obtain rfl := flat_eq hk 2 hfl
        cases hm with
        | @map _ p hp =>
          obtain ⟨es', a, b, c⟩ := map_at hR hp hg
          have hrel := EsRel.of b c
          have hgo := run_getObj (P := P) a (fun _ _ _ h => by cases h)
          split at h
          · rename_i u j hck hfi
            have hf := find_ok (w := w) hT hrel hfi
            simp only at hf
            have hc := prun_run P _ _ hck w
            split at h
            · rename_i hsb
              simp only [Bool.and_eq_true] at hsb
              injection h with h
              subst h
              have hkey : (es'.toList.getD j default).key = (es.getD j default).key := flat_eq (hrel.2 j hf.1).1 2 hsb.1
              have e0 : es'[j]? = some (es'.toList.getD j default) := by
                have : j < es'.size := by rw [← b]; exact hf.1
                simp [this]
              obtain ⟨w', q1, q2, q3⟩ := map_set (P := P) (k' := ck) hR hp hg a (emod_rel (f := fun x => { x with key := k', val := v }) (f' := fun x => { x with key := k', val := v' }) hrel hf.1 ⟨hk, hv, (hrel.2 j hf.1).2.2⟩)
              refine ⟨w', μ, ?_, q2, q3⟩
              have hks : (Instr.keyThatStays (es'.toList.getD j default).key k').run P w = .ok k' w := by
                rw [hkey]; unfold Instr.keyThatStays; rw [if_pos hsb.2]; rfl
              have e1 : ((es'[j]?).map (·.key)).getD k' = (es'.toList.getD j default).key := by rw [e0]; rfl
              simp only [Instr.mapUpdate, Sem.run_bind, run_und hT hu, Result.andThen_ok, hgo, hc, hf.2, e1, hks, q1]
            · cases h
          · rename_i u hck hfi
            have hf := find_ok (w := w) hT hrel hfi
            simp only at hf
            have hc := prun_run P _ _ hck w
            injection h with h
            subst h
            obtain ⟨w', q1, q2, q3⟩ := map_set (P := P) (k' := ck + 1) hR hp hg a (epush_rel (e := { key := k', val := v, born := ck }) (e' := { key := k', val := v', born := ck }) hrel ⟨hk, hv, rfl⟩)
            refine ⟨w', μ, ?_, q2, q3⟩
            simp only [Instr.mapUpdate, Sem.run_bind, run_und hT hu, Result.andThen_ok, hgo, hc, hf, q1]
          · cases h
      · cases h
    · cases h
  · cases h

def aMapEntry (P : Program) (T : Tb) (t : TypeId) (m k : Value) (H : AHeap) : Option (Value × AHeap) :=
  match T.und t, m with
  | some (.map kt e), .map (some r) =>
    match H.get r with
    | some (.map es ck false) =>
      if flat 2 k then
        match prun P (Instr.checkKey false 10000 kt k), aFind P T kt k es with
        | some _, some (some j) => if flat 2 (es.getD j default).key && Instr.sameBits 10000 (es.getD j default).key k then
            some (.tuple #[(es.getD j default).val, .int .i64 (es.getD j default).born], H.set r (.map (emod es j fun x => { x with key := k }) ck)) else none
        | some _, some none => (zeroT T e).map fun z => (.tuple #[z, .int .i64 ck], H.set r (.map (es ++ [{ key := k, val := z, born := ck }]) (ck + 1)))
        | _, _ => none
      else none
    | _ => none
  | _, _ => none

theorem aMapEntry_ok (hT : TbOK P T) (hR : Rel G μ H w) {t : TypeId} {m m' k k' : Value} {r : Value × AHeap} (hm : VRel μ m m') (hk : VRel μ k k') (h : aMapEntry P T t m k H = some r) :
    Snd P G μ H w (Instr.mapEntry t m' k') r := by
  unfold aMapEntry at h
  split at h
  · rename_i kt e r hu
    split at h
    · rename_i es ck hg
      split at h
      · rename_i hfl
        obtain rfl := flat_eq hk 2 hfl
        cases hm with
        | @map _ p hp =>
          obtain ⟨es', a, b, c⟩ := map_at hR hp hg
          have hrel := EsRel.of b c
          have hgo := run_getObj (P := P) a (fun _ _ _ h => by cases h)
          split at h
          · rename_i u j hck hfi
            have hf := find_ok (w := w) hT hrel hfi
            simp only at hf
            have hc := prun_run P _ _ hck w
            split at h
            · rename_i hsb
              simp only [Bool.and_eq_true] at hsb
              injection h with h
              subst h
              have hkey : (es'.toList.getD j default).key = (es.getD j default).key := flat_eq (hrel.2 j hf.1).1 2 hsb.1
              have e0 : es'[j]? = some (es'.toList.getD j default) := by
                have : j < es'.size := by rw [← b]; exact hf.1
                simp [this]
              obtain ⟨w', q1, q2, q3⟩ := map_set (P := P) (k' := ck) hR hp hg a (emod_rel (f := fun x => { x with key := k' }) (f' := fun x => { x with key := k' }) hrel hf.1 ⟨hk, (hrel.2 j hf.1).2.1, (hrel.2 j hf.1).2.2⟩)
              refine ⟨.tuple #[(es'.toList.getD j default).val, .int .i64 (es'.toList.getD j default).born], w', μ, ?_, ?_, q2, q3⟩
              · have hks : (Instr.keyThatStays (es'.toList.getD j default).key k').run P w = .ok k' w := by
                  rw [hkey]; unfold Instr.keyThatStays; rw [if_pos hsb.2]; rfl
                have e1 : ((es'[j]?).map (·.key)).getD k' = (es'.toList.getD j default).key := by rw [e0]; rfl
                have e2 : ((es'[j]?).map (·.born)).getD 0 = (es'.toList.getD j default).born := by rw [e0]; rfl
                have e3 : ((es'[j]?).map fun x => (x.born : Int)).getD 0 = ((es'.toList.getD j default).born : Int) := by rw [e0]; rfl
                simp only [Instr.mapEntry, Sem.run_bind, run_und hT hu, Result.andThen_ok, hgo, hc, hf.2, e1, e2, e3, hks, q1, Sem.run_pure, goInt]
              · have := (hrel.2 j hf.1).2.2
                rw [← this]
                exact pair_rel (hrel.2 j hf.1).2.1 (.int _ _)
            · cases h
          · rename_i u hck hfi
            have hf := find_ok (w := w) hT hrel hfi
            simp only at hf
            have hc := prun_run P _ _ hck w
            obtain ⟨z, hz, rfl⟩ := Option.map_eq_some_iff.1 h
            have hzr : VRel μ z z := zero_rel hT hz
            obtain ⟨w', q1, q2, q3⟩ := map_set (P := P) (k' := ck + 1) hR hp hg a (epush_rel (e := { key := k', val := z, born := ck }) (e' := { key := k', val := z, born := ck }) hrel ⟨hk, hzr, rfl⟩)
            refine ⟨.tuple #[z, .int .i64 ck], w', μ, ?_, pair_rel hzr (.int _ _), q2, q3⟩
            simp only [Instr.mapEntry, Sem.run_bind, run_und hT hu, Result.andThen_ok, hgo, hc, hf, zero_run hT hz, q1, Sem.run_pure, goInt]
          · cases h
      · cases h
    · cases h
  · cases h

def bornAt (n : Int) : List MapEntry → Nat → Option Nat
  | [], _ => none
  | e :: es, i => if (e.born : Int) == n then some i else bornAt n es (i + 1)
def aEntryStore (m s v : Value) (H : AHeap) : Option AHeap :=
  match m, s with
  | .map (some r), .int _ n =>
    match H.get r with
    | some (.map es ck false) => (bornAt n es 0).map fun j => H.set r (.map (emod es j fun x => { x with val := v }) ck)
    | _ => none
  | _, _ => none

theorem bornAt_ok (n : Int) : ∀ (es es' : List MapEntry) (i j : Nat), EsRel μ es es' → bornAt n es i = some j → i ≤ j ∧ j - i < es.length ∧ es'.findIdx? (fun e => (e.born : Int) == n) = some (j - i) := by
  intro es
  induction es with
  | nil => intro es' i j _ h; cases h
  | cons e es ih =>
    intro es' i j h hb
    obtain ⟨e', q, rfl, he, hq⟩ := h.cons_inv
    unfold bornAt at hb
    split at hb
    · rename_i hs
      injection hb with hb
      subst hb
      refine ⟨Nat.le_refl _, by simp, ?_⟩
      rw [List.findIdx?_cons, ← he.2.2, if_pos hs, Nat.sub_self]
    · rename_i hs
      obtain ⟨a, b, c⟩ := ih q (i + 1) j hq hb
      refine ⟨by omega, by simp; omega, ?_⟩
      rw [List.findIdx?_cons, ← he.2.2, if_neg hs, c]
      simp
      omega

theorem aEntryStore_ok (hR : Rel G μ H w) {t : TypeId} {m m' s s' v v' : Value} {H' : AHeap} (hm : VRel μ m m') (hs : VRel μ s s') (hv : VRel μ v v') (h : aEntryStore m s v H = some H') :
    SndU P G μ H w (Instr.entryStore t m' s' v') H' := by
  unfold aEntryStore at h
  split at h
  · rename_i r k n
    split at h
    · rename_i es ck hg
      obtain ⟨j, hj, rfl⟩ := Option.map_eq_some_iff.1 h
      cases hs
      cases hm with
      | @map _ p hp =>
        obtain ⟨es', a, b, c⟩ := map_at hR hp hg
        have hrel := EsRel.of b c
        have hgo := run_getObj (P := P) a (fun _ _ _ h => by cases h)
        obtain ⟨_, k2, k3⟩ := bornAt_ok n es es'.toList 0 j hrel hj
        rw [Nat.sub_zero] at k2 k3
        have k4 : es'.findIdx? (fun e => (e.born : Int) == n) = some j := by rw [← k3]; exact List.findIdx?_toArray _ es'.toList
        obtain ⟨w', q1, q2, q3⟩ := map_set (P := P) (k' := ck) hR hp hg a (emod_rel (f := fun x => { x with val := v }) (f' := fun x => { x with val := v' }) hrel k2 ⟨(hrel.2 j k2).1, hv, (hrel.2 j k2).2.2⟩)
        refine ⟨w', μ, ?_, q2, q3⟩
        simp only [Instr.entryStore, Sem.run_bind, pure_bind, Result.andThen_ok, hgo, asInt, asIntOf, Sem.run_pure, k4, q1]
    · cases h
  · cases h

def aDelete (P : Program) (T : Tb) (t : TypeId) (m k : Value) (H : AHeap) : Option AHeap :=
  match T.und t, m with
  | some (.map kt e), .map (some r) =>
    match H.get r with
    | some (.map es ck false) =>
      if flat 2 k then
        match prun P (Instr.checkKey es.isEmpty 10000 kt k), aFind P T kt k es with
        | some _, some (some j) => some (H.set r (.map (es.eraseIdx j) ck))
        | some _, some none => some (H.set r (.map es ck))
        | _, _ => none
      else none
    | _ => none
  | _, _ => none
theorem erase_rel {es es' : List MapEntry} {j : Nat} (h : EsRel μ es es') : EsRel μ (es.eraseIdx j) (es'.eraseIdx j) := by
  refine ⟨by simp [List.length_eraseIdx, h.1], fun i hi => ?_⟩
  simp only [List.getD_eq_getElem?_getD, List.getElem?_eraseIdx]
  rw [List.length_eraseIdx] at hi
  split
  · have := h.2 i (by split at hi <;> omega)
    simpa [List.getD_eq_getElem?_getD] using this
  · have := h.2 (i + 1) (by split at hi <;> omega)
    simpa [List.getD_eq_getElem?_getD] using this

theorem aDelete_ok (hT : TbOK P T) (hR : Rel G μ H w) {t kt' ty : TypeId} {m m' k k' : Value} {H' : AHeap} (hm : VRel μ m m') (hk : VRel μ k k') (h : aDelete P T t m k H = some H') :
    Snd P G μ H w (Builtin.delete_ #[t, kt'] ty #[m', k']) (.tuple #[], H') := by
  unfold aDelete at h
  split at h
  · rename_i kt e r hu
    split at h
    · rename_i es ck hg
      split at h
      · rename_i hfl
        obtain rfl := flat_eq hk 2 hfl
        cases hm with
        | @map _ p hp =>
          obtain ⟨es', a, b, c⟩ := map_at hR hp hg
          have hrel := EsRel.of b c
          have hgo := run_getObj (P := P) a (fun _ _ _ h => by cases h)
          have hem : es'.isEmpty = es.isEmpty := by
            cases es with
            | nil => have : es'.size = 0 := by simpa using b.symm
                     simp [Array.isEmpty, this]
            | cons x l => have : es'.size = l.length + 1 := by simpa using b.symm
                          simp [Array.isEmpty, this]
          split at h
          · rename_i u j hck hfi
            have hf := find_ok (w := w) hT hrel hfi
            simp only at hf
            have hc := prun_run P _ _ hck w
            injection h with h
            subst h
            obtain ⟨w', q1, q2, q3⟩ := map_set (P := P) (k' := ck) (es2' := es'.eraseIdxIfInBounds j) hR hp hg a (by rw [Array.toList_eraseIdxIfInBounds]; exact erase_rel hrel)
            refine ⟨_, w', μ, ?_, .undef μ, q2, q3⟩
            simp only [Builtin.delete_, List.getElem?_toArray, List.getElem?_cons_zero, List.getElem?_cons_succ, Sem.run_bind, run_und hT hu, Result.andThen_ok, hgo, hem, hc, hf.2, q1, Sem.run_pure]
            rfl
          · rename_i u hck hfi
            have hf := find_ok (w := w) hT hrel hfi
            simp only at hf
            have hc := prun_run P _ _ hck w
            injection h with h
            subst h
            obtain ⟨w', q1, q2, q3⟩ := map_set (P := P) (k' := ck) hR hp hg a hrel
            refine ⟨_, w', μ, ?_, .undef μ, q2, q3⟩
            simp only [Builtin.delete_, List.getElem?_toArray, List.getElem?_cons_zero, List.getElem?_cons_succ, Sem.run_bind, run_und hT hu, Result.andThen_ok, hgo, hem, hc, hf, q1, Sem.run_pure]
            rfl
          · cases h
      · cases h
    · cases h
  · cases h

/-! ### Making a map; texts' iterators -/
def aMakeMap (r : Option Value) (H : AHeap) : Option (Value × AHeap) :=
  match r with
  | none => some (.map (some H.next), H.new (.map [] 0))
  | some (.int _ _) => some (.map (some H.next), H.new (.map [] 0))
  | _ => none
theorem aMakeMap_ok (hT : TbOK P T) (hR : Rel G μ H w) {t : TypeId} {k e : TypeId} {r r' : Option Value} {v : Value × AHeap} (hu : T.und t = some (.map k e)) (hr : ORel μ r r') (h : aMakeMap r H = some v) : Snd P G μ H w (Instr.makeMap t r') v := by
  have hrun : (Instr.makeMap t r').run P w = .ok (.map (some w.heap.size)) { w with heap := w.heap.push (.map #[] 0) } ∧ v = (.map (some H.next), H.new (.map [] 0)) := by
    unfold aMakeMap at h
    split at h
    · injection h with h; cases hr; exact ⟨rfl, h.symm⟩
    · injection h with h
      cases hr with
      | some hv => cases hv; refine ⟨?_, h.symm⟩; simp [Instr.makeMap, run_und hT hu, asInt, asIntOf]
    · cases h
  obtain ⟨h1, rfl⟩ := hrun
  obtain ⟨k1, k2⟩ := hR.push0 (o := .map [] 0) (x := .map #[] 0) (p := ⟨w.heap.size, 0, 0, 0⟩) (w' := { w with heap := w.heap.push (.map #[] 0) }) (.map rfl (fun i hi => by simp at hi)) rfl rfl rfl rfl rfl rfl
  exact ⟨_, _, _, h1, .map (Mu.upd_same H.next _), k1, k2⟩

def aRange (T : Tb) (t : TypeId) (x : Value) (H : AHeap) : Option (Value × AHeap) :=
  match T.und t, x with
  | some .string, .string s => some (.pointer (some ⟨H.next, 0, none⟩), H.new (.iter s 0))
  | _, _ => none
theorem aRange_ok (hT : TbOK P T) (hR : Rel G μ H w) {t : TypeId} {x x' : Value} {v : Value × AHeap} (hx : VRel μ x x') (h : aRange T t x H = some v) : Snd P G μ H w (Instr.range t x') v := by
  unfold aRange at h
  split at h
  · rename_i s hu
    injection h with h
    subst h
    cases hx
    obtain ⟨k1, k2⟩ := hR.push0 (o := .iter s 0) (x := .stringIter s 0) (p := ⟨w.heap.size, 0, 0, 0⟩) (w' := { w with heap := w.heap.push (.stringIter s 0) }) (.iter s 0 rfl) rfl rfl rfl rfl rfl rfl
    refine ⟨.pointer (some ⟨w.heap.size, 0, none⟩), _, _, ?_, ?_, k1, k2⟩
    · simp only [Instr.range, Sem.run_bind, run_und hT hu, Result.andThen_ok, Sem.run_pure, run_newObj]
    · have := VRel.ptr (μ := μ.upd H.next ⟨w.heap.size, 0, 0, 0⟩) (o := 0) (Mu.upd_same H.next _)
      simpa using this
  · cases h

def aNext (x : Value) (isS : Bool) (H : AHeap) : Option (Value × AHeap) :=
  match x, isS with
  | .pointer (some ⟨r, 0, _⟩), true =>
    match H.get r with
    | some (.iter s pos) =>
      if pos < s.size then some (.tuple #[.bool true, .int .i64 pos, .int .i32 (Utf8.decode s pos).1], H.set r (.iter s (pos + (Utf8.decode s pos).2)))
      else some (.tuple #[.bool false], H)
    | _ => none
  | _, _ => none
theorem aNext_ok (hR : Rel G μ H w) {t : TypeId} {x x' : Value} {isS : Bool} {v : Value × AHeap} (hx : VRel μ x x') (h : aNext x isS H = some v) : Snd P G μ H w (Instr.next x' isS t) v := by
  unfold aNext at h
  split at h
  · rename_i r sp
    obtain ⟨i, o, p, he, hp, rfl⟩ := ptr_inv hx
    injection he with he1 he2 he3
    subst he1; subst he2
    split at h
    · rename_i s pos hg
      obtain ⟨q, y, hq, hy, ho⟩ := hR.dom _ _ hg
      rw [hp] at hq
      injection hq with hq
      subst hq
      cases ho with
      | iter _ _ hs0 =>
        have hgo := run_getObj (P := P) hy (fun _ _ _ h => by cases h)
        split at h
        · rename_i hlt
          injection h with h
          subst h
          have hlt2 := (Array.getElem?_eq_some_iff.1 hy).1
          have hup := hR.upd (o' := .iter s (pos + (Utf8.decode s pos).2)) (x' := .stringIter s (pos + (Utf8.decode s pos).2)) (w' := { w with heap := w.heap.setIfInBounds p.b (.stringIter s (pos + (Utf8.decode s pos).2)) }) hg rfl hp (.iter _ _ hs0) rfl
            (by simp [hlt2]) (fun q hq => by simp [Array.getElem?_setIfInBounds_ne (Ne.symm hq)]) (by simp) rfl rfl rfl
          refine ⟨.tuple #[.bool true, .int .i64 pos, .int .i32 (Utf8.decode s pos).1], _, μ, ?_, ?_, by simpa [AObj.par, AHeap.dels] using hup.1, by simpa [AObj.par, AHeap.dels] using hup.2⟩
          · have hso := run_setObj (P := P) (o' := .stringIter s (pos + (Utf8.decode s pos).2)) hy (fun _ _ _ h => by cases h)
            rw [hs0]
            simp [Instr.next, hgo, hlt, hso, goInt]
          · refine .tuple rfl fun i hi => ?_
            have hi' : i < 3 := by simpa using hi
            match i, hi' with
            | 0, _ => exact .bool _
            | 1, _ => exact .int _ _
            | 2, _ => exact .int _ _
        · rename_i hlt
          injection h with h
          subst h
          refine Snd.same hR (v' := .tuple #[.bool false]) ?_ (flat_rel 1 _ rfl)
          rw [hs0]
          simp [Instr.next, hgo, hlt]
    · cases h
  · cases h

/-! ### copy -/
def lenV : Value → Option Nat
  | .slice _ n _ => some n
  | .string s => some s.size
  | _ => none
def firstN (H : AHeap) (size n : Nat) (x : Value) : Option (List Value) :=
  match x with
  | .slice none _ _ => some []
  | .slice (some a) _ c => if c = empt then (if n = 0 then some [] else none) else loadN H a (n * size)
  | .string s => some ((s.extract 0 n).data.toList.map fun b => .int .u8 b.toNat)
  | _ => none
theorem lenV_ok {x x' : Value} {n : Nat} (hx : VRel μ x x') (h : lenV x = some n) : (Builtin.lenOf x').run P w = .ok n w := by
  unfold lenV at h
  split at h
  · injection h with h; subst h; cases hx <;> rfl
  · injection h with h; subst h; cases hx; rfl
  · cases h
theorem firstN_ok (hR : Rel G μ H w) {size n : Nat} {x x' : Value} {vs : List Value} (hx : VRel μ x x') (h : firstN H size n x = some vs) :
    ∃ vs', LRel μ vs vs' ∧ vs.all one = true ∧ (∀ w1 : World, w1.heap = w.heap → (Builtin.firstCells size n x').run P w1 = .ok vs'.toArray w1) := by
  unfold firstN at h
  split at h
  · injection h with h
    subst h
    cases hx
    exact ⟨[], LRel.nil, rfl, fun w1 _ => rfl⟩
  · rename_i a l c
    split at h
    · rename_i hc
      split at h
      · rename_i hn
        injection h with h
        subst h; subst hn
        cases hx with
        | slice hp hcap => exfalso; subst hc; rcases hcap.2.2 with h | h <;> (unfold grow empt at *; omega)
        | empty hc' => exact ⟨[], LRel.nil, rfl, fun w1 _ => by simp [Builtin.firstCells, loadCells, loadCellsFrom]⟩
      · cases h
    · rename_i hc
      cases hx with
      | slice hp hcap =>
        obtain ⟨vs', h1, h2, h3, h4, h5⟩ := load_cells (P := P) hR hp h
        exact ⟨vs', h1, List.all_eq_true.2 h3, fun w1 e => h5 w1 e⟩
      | empty hc' => exact absurd rfl hc
  · rename_i s
    injection h with h
    subst h
    cases hx
    refine ⟨_, LRel.flat (List.all_eq_true.2 fun x hx => ?_), List.all_eq_true.2 fun x hx => ?_, fun w1 _ => ?_⟩
    · obtain ⟨b, _, rfl⟩ := List.mem_map.1 hx; rfl
    · obtain ⟨b, _, rfl⟩ := List.mem_map.1 hx; rfl
    · simp [Builtin.firstCells]
      apply Array.ext'
      simp
  · cases h

def aCopy (T : Tb) (t : TypeId) (d x : Value) (H : AHeap) : Option (Value × AHeap) :=
  match T.und t, d, lenV x with
  | some (.slice e), .slice base dl c, some n =>
    match T.info e with
    | some i =>
      match firstN H i.size (Nat.min n dl) x with
      | some vs =>
        match base with
        | none => some (.int .i64 (Nat.min n dl), H)
        | some a => match vs with
          | [] => some (.int .i64 (Nat.min n dl), H)
          | v :: l => if c = empt then none else (storeN H a (v :: l)).map fun H' => (.int .i64 (Nat.min n dl), H')
      | none => none
    | none => none
  | _, _, _ => none

theorem aCopy_ok (hT : TbOK P T) (hR : Rel G μ H w) {t xt ty : TypeId} {d d' x x' : Value} {r : Value × AHeap} (hd : VRel μ d d') (hx : VRel μ x x') (h : aCopy T t d x H = some r) :
    Snd P G μ H w (Builtin.copy_ #[t, xt] ty #[d', x']) r := by
  unfold aCopy at h
  split at h
  · rename_i e base dl c n hu hl
    split at h
    · rename_i i hi
      split at h
      · rename_i vs hv
        obtain ⟨vs', k1, k2, k3⟩ := firstN_ok (P := P) hR hx hv
        have hlen := lenV_ok (P := P) (w := w) hx hl
        split at h
        · injection h with h
          subst h
          cases hd
          refine Snd.same hR ?_ (.int _ _)
          have k3 := k3 w rfl
          rw [show Nat.min n 0 = 0 from Nat.min_zero n] at k3
          simp [Builtin.copy_, run_und hT hu, hlen, run_size hT hi, k3, goInt]
        · rename_i a
          split at h
          · injection h with h
            subst h
            have e0 : vs' = [] := List.eq_nil_of_length_eq_zero (by rw [← k1.1]; rfl)
            subst e0
            cases hd with
            | slice hp hcap =>
              refine Snd.same hR ?_ (.int _ _)
              simp [Builtin.copy_, run_und hT hu, hlen, run_size hT hi, k3 w rfl, goInt, storeCells]
            | empty hc =>
              refine Snd.same hR ?_ (.int _ _)
              have k3 := k3 w rfl
              rw [show Nat.min n 0 = 0 from Nat.min_zero n] at k3
              simp [Builtin.copy_, run_und hT hu, hlen, run_size hT hi, k3, goInt, storeCells]
          · rename_i v l
            split at h
            · cases h
            · rename_i hc
              obtain ⟨H', hs, rfl⟩ := Option.map_eq_some_iff.1 h
              cases hd with
              | slice hp hcap =>
                obtain ⟨w', q1, q2, q3, _⟩ := store_cells (P := P) hR hp k1 hs
                refine ⟨_, w', μ, ?_, .int _ _, q2, q3⟩
                simp [Builtin.copy_, run_und hT hu, hlen, run_size hT hi, k3 w rfl, goInt, q1]
              | empty hc' => exact absurd rfl hc
      · cases h
    · cases h
  · cases h

end
end Go.Eng
