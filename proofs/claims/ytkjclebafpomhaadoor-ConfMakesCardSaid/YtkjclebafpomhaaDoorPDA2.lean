/- The engine, part 8: arithmetic, comparisons, lengths, copies, interfaces. -/
import Derived.Test.YtkjclebafpomhaaDoorPDA1
set_option linter.unusedVariables false
set_option linter.unusedSimpArgs false
namespace Go.Eng
open Go
section
variable {P : Program} {G : Nat} {μ : Mu} {H : AHeap} {w : World} {T : Tb}

/-! ### Two operands -/
/-- Held against nil; two pointers held against each other. -/
def aEqP (T : Tb) (t : TypeId) (x y : Value) (H : AHeap) : Option Bool :=
  match T.und t, x, y with
  | some (.pointer _), .pointer none, .pointer b => some b.isNone
  | some (.pointer _), .pointer (some _), .pointer none => some false
  | some (.pointer e), .pointer (some a), .pointer (some b) =>
    match T.info e with
    | some i =>
      if i.size = 0 then none else
      if a.block = b.block then some (a.off == b.off)
      else match H.get a.block, H.get b.block with
        | some (.cells _ _ [] 0), some (.cells _ _ [] 0) => some false
        | _, _ => none
    | none => none
  | some (.slice _), .slice none _ _, .slice b _ _ => some b.isNone
  | some (.slice _), .slice (some _) _ _, .slice none _ _ => some false
  | some (.map _ _), .map none, .map b => some b.isNone
  | some (.map _ _), .map (some _), .map none => some false
  | some (.func _ _ _), .nilFunc, .nilFunc => some true
  | some (.func _ _ _), .nilFunc, .func _ _ _ => some false
  | some (.func _ _ _), .func _ _ _, .nilFunc => some false
  | some (.interface _), .nilIface, .iface _ _ => some false
  | some (.interface _), .iface _ _, .nilIface => some false
  | _, _, _ => none

theorem frozen_plain {b : Nat} {c : Array Value} {e : TypeId} (h : w.heap[b]? = some (.cells c e (0, 0))) (o : Nat) (sp : Option Nat) : w.frozen? ⟨b, o, sp⟩ = false := by
  simp [World.frozen?, h]

theorem aEqP_ok (hT : TbOK P T) (hR : Rel G μ H w) {t : TypeId} {x x' y y' : Value} {b : Bool} (hx : VRel μ x x') (hy : VRel μ y y') (h : aEqP T t x y H = some b) (d : Nat) :
    (Op.equalIn (d + 1) t x' y').run P w = .ok b w := by
  unfold aEqP at h
  split at h
  · rename_i e a hu; injection h with h; subst h; cases hx; cases hy <;> simp [Op.equalIn, run_und hT hu]
  · rename_i e a hu; injection h with h; subst h; cases hx; cases hy; simp [Op.equalIn, run_und hT hu]
  · rename_i e a b hu
    obtain ⟨i, o, p, rfl, hp, rfl⟩ := ptr_inv hx
    obtain ⟨j, q, r, rfl, hr, rfl⟩ := ptr_inv hy
    split at h
    · rename_i inf hi
      split at h
      · cases h
      · rename_i hz
        split at h
        · rename_i hij
          injection h with h
          simp only at hij
          subst hij
          rw [hp] at hr
          injection hr with hr
          subst hr
          subst h
          simp [Op.equalIn, run_und hT hu, run_size hT hi, hz, sameAddr]
          by_cases e1 : o = q
          · simp [e1]
          · have : (({ block := p.b, off := p.s + o } : Addr) == { block := p.b, off := p.s + q }) = false := by
              rw [beq_eq_false_iff_ne]; intro h; injection h with _ h2; omega
            rw [this]
            simp [e1]
        · rename_i hij
          split at h
          · rename_i c1 ro1 c2 ro2 g1 g2
            injection h with h
            subst h
            simp only at g1 g2 hij
            obtain ⟨ca, ea, l1, h1, k1, _, _, _, _, _, _, f1⟩ := hR.cells g1 hp
            obtain ⟨cb, eb, l2, h2, k2, _, _, _, _, _, _, f2⟩ := hR.cells g2 hr
            obtain ⟨rfl, rfl⟩ := f1 rfl
            obtain ⟨rfl, rfl⟩ := f2 rfl
            have hne : p.b ≠ r.b := by
              intro e1
              rcases hR.sep i j _ _ p r hij g1 g2 hp hr e1 with hh | hh <;> cases hh
            have z1 : ∀ o sp, w.frozen? ⟨p.b, o, sp⟩ = false := frozen_plain k1
            have z2 : ∀ o sp, w.frozen? ⟨r.b, o, sp⟩ = false := frozen_plain k2
            have s1 : w.shape? p.b = some (ea, ca.size) := by simp [World.shape?, k1]
            have s2 : w.shape? r.b = some (eb, cb.size) := by simp [World.shape?, k2]
            simp [Op.equalIn, run_und hT hu, run_size hT hi, hz, sameAddr, hne, z1, z2, noView, viewAt, s1, s2, mayBeOne, stringish]
          · cases h
    · cases h
  · rename_i e l c b l2 c2 hu; injection h with h; subst h; cases hx; cases hy <;> simp [Op.equalIn, run_und hT hu]
  · rename_i e a l c l2 c2 hu; injection h with h; subst h; cases hy; cases hx <;> simp [Op.equalIn, run_und hT hu]
  · rename_i k e b hu; injection h with h; subst h; cases hx; cases hy <;> simp [Op.equalIn, run_und hT hu]
  · rename_i k e a hu; injection h with h; subst h; cases hx; cases hy; simp [Op.equalIn, run_und hT hu]
  · rename_i ps rs v hu; injection h with h; subst h; cases hx; cases hy; simp [Op.equalIn, run_und hT hu]
  · rename_i ps rs v f c cc hu; injection h with h; subst h; cases hx; cases hy; simp [Op.equalIn, run_und hT hu]
  · rename_i ps rs v f c cc hu; injection h with h; subst h; cases hx; cases hy; simp [Op.equalIn, run_und hT hu]
  · rename_i ms t0 v0 hu; injection h with h; subst h; cases hx; cases hy; simp [Op.equalIn, run_und hT hu]
  · rename_i ms t0 v0 hu; injection h with h; subst h; cases hx; cases hy; simp [Op.equalIn, run_und hT hu]
  · cases h

/-- Neither a number nor a text nor a struct. -/
def handle : Value → Bool
  | .pointer _ | .slice _ _ _ | .map _ | .func _ _ _ | .nilFunc | .iface _ _ => true
  | _ => false
theorem aEqP_handle {t : TypeId} {x y : Value} {b : Bool} (h : aEqP T t x y H = some b) : (handle x = true ∧ (handle y = true ∨ y = .nilIface)) ∨ (x = .nilIface ∧ handle y = true) := by
  unfold aEqP at h
  split at h <;> first | (exact .inl ⟨rfl, .inl rfl⟩) | (exact .inl ⟨rfl, .inr rfl⟩) | (exact .inr ⟨rfl, rfl⟩) | (cases h; done)
theorem handle_rel {x x' : Value} (h : VRel μ x x') (k : handle x = true) : handle x' = true := by cases h <;> first | rfl | (cases k; done)
theorem handle_bin {x y : Value} (t : TypeId) (ox oy : Operand) (h : (handle x = true ∧ (handle y = true ∨ y = .nilIface)) ∨ (x = .nilIface ∧ handle y = true)) :
    (∀ op, (op = .eql ∨ op = .neq) → (eqGuard op t ox oy x y).run P w = .ok () w) ∧ binOp .eql t x y = (do pure (.bool (← Op.equal t x y))) ∧ binOp .neq t x y = (do pure (.bool (!(← Op.equal t x y)))) := by
  rcases h with ⟨h, h2⟩ | ⟨rfl, h2⟩
  · cases x <;> first | (cases h; done) | skip
    all_goals
      rcases h2 with h2 | rfl
      · cases y <;> first | (cases h2; done) | (refine ⟨fun op ho => ?_, rfl, rfl⟩; rcases ho with rfl | rfl <;> rfl)
      · refine ⟨fun op ho => ?_, rfl, rfl⟩; rcases ho with rfl | rfl <;> rfl
  · cases y <;> first | (cases h2; done) | (refine ⟨fun op ho => ?_, rfl, rfl⟩; rcases ho with rfl | rfl <;> rfl)

def aBin (P : Program) (T : Tb) (op : BinOp) (t : TypeId) (ox oy : Operand) (x y : Value) (H : AHeap) : Option Value :=
  if flat 2 x && flat 2 y then prun P (do eqGuard op t ox oy x y; binOp op t x y)
  else match op with
    | .eql => (aEqP T t x y H).map .bool
    | .neq => (aEqP T t x y H).map fun b => .bool !b
    | _ => none

theorem aBin_ok (hT : TbOK P T) (hR : Rel G μ H w) {op : BinOp} {t : TypeId} {ox oy : Operand} {x x' y y' v : Value} (hx : VRel μ x x') (hy : VRel μ y y')
    (h : aBin P T op t ox oy x y H = some v) (hv : flat 1 v = true) : Snd P G μ H w (do eqGuard op t ox oy x' y'; binOp op t x' y') (v, H) := by
  unfold aBin at h
  split at h
  · rename_i hf
    simp only [Bool.and_eq_true] at hf
    rw [flat_eq hx 2 hf.1, flat_eq hy 2 hf.2]
    exact Snd.same hR (prun_run P _ _ h w) (flat_rel 1 v hv)
  · have key : ∀ b, aEqP T t x y H = some b → ((handle x' = true ∧ (handle y' = true ∨ y' = .nilIface)) ∨ (x' = .nilIface ∧ handle y' = true)) ∧ (Op.equal t x' y').run P w = .ok b w := by
      intro b hb
      refine ⟨?_, aEqP_ok hT hR hx hy hb 9999⟩
      rcases aEqP_handle hb with ⟨h1, h2⟩ | ⟨rfl, h2⟩
      · refine .inl ⟨handle_rel hx h1, ?_⟩
        rcases h2 with h2 | rfl
        · exact .inl (handle_rel hy h2)
        · cases hy; exact .inr rfl
      · cases hx; exact .inr ⟨rfl, handle_rel hy h2⟩
    split at h
    · obtain ⟨b, hb, rfl⟩ := Option.map_eq_some_iff.1 h
      obtain ⟨k1, k2⟩ := key b hb
      obtain ⟨g1, g2, g3⟩ := handle_bin (P := P) (w := w) t ox oy k1
      refine Snd.same hR (v' := .bool b) ?_ (.bool _)
      simp only [Sem.run_bind, g1 .eql (.inl rfl), Result.andThen_ok, g2, k2, Sem.run_pure]
    · obtain ⟨b, hb, rfl⟩ := Option.map_eq_some_iff.1 h
      obtain ⟨k1, k2⟩ := key b hb
      obtain ⟨g1, g2, g3⟩ := handle_bin (P := P) (w := w) t ox oy k1
      refine Snd.same hR (v' := .bool !b) ?_ (.bool _)
      simp only [Sem.run_bind, g1 .neq (.inr rfl), Result.andThen_ok, g3, k2, Sem.run_pure]
    · cases h

/-! ### One operand -/
def aUn (P : Program) (op : UnOp) (x : Value) : Option Value := if flat 0 x then prun P (Op.unary op x) else none
theorem aUn_ok (hR : Rel G μ H w) {op : UnOp} {x x' v : Value} (hx : VRel μ x x') (h : aUn P op x = some v) (hv : flat 1 v = true) : Snd P G μ H w (Op.unary op x') (v, H) := by
  unfold aUn at h
  split at h
  · rename_i hf
    rw [flat_eq hx 0 hf]
    exact Snd.same hR (prun_run P _ _ h w) (flat_rel 1 v hv)
  · cases h

/-! ### Lengths; the least, the greatest -/
def aLen (T : Tb) (t : TypeId) (x : Value) (H : AHeap) : Option Value :=
  match T.und t, x with
  | some .string, .string s => some (.int .i64 s.size)
  | some (.array n _), _ => some (.int .i64 n)
  | some (.pointer e), _ => (match T.und e with | some (.array n _) => some (.int .i64 n) | _ => none)
  | some (.slice _), .slice _ n _ => some (.int .i64 n)
  | some (.map _ _), .map none => some (.int .i64 0)
  | some (.map _ _), .map (some r) => (match H.get r with | some (.map es _ _) => some (.int .i64 es.length) | _ => none)
  | _, _ => none

theorem map_at (hR : Rel G μ H w) {r : Nat} {p : Pl} {es : List MapEntry} {k : Nat} {ro : Bool} (hp : μ r = some p) (hg : H.get r = some (.map es k ro)) :
    ∃ es' : Array MapEntry, w.heap[p.b]? = some (.map es' k) ∧ es.length = es'.size ∧ ∀ i, i < es.length → EntRel μ (es.getD i default) (es'.getD i default) := by
  obtain ⟨q, x, hq, hx, ho⟩ := hR.dom _ _ hg
  rw [hp] at hq
  injection hq with hq
  subst hq
  cases ho with
  | map a b => exact ⟨_, hx, a, b⟩
theorem run_getObj {r : Nat} {o : Obj} (h : w.heap[r]? = some o) (hn : ∀ c e f, o ≠ .cells c e f) : (getObj r).run P w = .ok o w := by
  simp only [getObj, Sem.run, h]
theorem run_setObj {r : Nat} {o o' : Obj} (h : w.heap[r]? = some o) (hn : ∀ c e f, o ≠ .cells c e f) : (setObj r o').run P w = .ok () { w with heap := w.heap.setIfInBounds r o' } := by
  simp only [setObj, Sem.run, h]

theorem aLen_ok (hT : TbOK P T) (hR : Rel G μ H w) {t ty : TypeId} {ts : Array TypeId} {x x' v : Value} (hx : VRel μ x x') (h : aLen T t x H = some v) (hts : ts[0]? = some t) :
    Snd P G μ H w (Builtin.len_ ts ty #[x']) (v, H) := by
  unfold aLen at h
  split at h
  · rename_i s hu; injection h with h; subst h; cases hx
    exact Snd.same hR (v' := .int .i64 s.size) (by simp [Builtin.len_, hts, run_und hT hu, goInt]) (.int _ _)
  · rename_i n e hu; injection h with h; subst h
    exact Snd.same hR (v' := .int .i64 n) (by simp [Builtin.len_, hts, run_und hT hu, goInt]) (.int _ _)
  · rename_i e hu
    split at h
    · rename_i n e' he; injection h with h; subst h
      exact Snd.same hR (v' := .int .i64 n) (by simp [Builtin.len_, hts, run_und hT hu, run_und hT he, goInt]) (.int _ _)
    · cases h
  · rename_i e a n c hu; injection h with h; subst h
    cases hx <;> exact Snd.same hR (v' := .int .i64 _) (by simp [Builtin.len_, hts, run_und hT hu, goInt]; done) (.int _ _)
  · rename_i k e hu; injection h with h; subst h; cases hx
    exact Snd.same hR (v' := .int .i64 0) (by simp [Builtin.len_, hts, run_und hT hu, goInt]) (.int _ _)
  · rename_i k e r hu
    split at h
    · rename_i es ck ro hg
      injection h with h; subst h
      cases hx with
      | map hp =>
        obtain ⟨es', a, b, c⟩ := map_at hR hp hg
        have := run_getObj (P := P) a (fun _ _ _ h => by cases h)
        exact Snd.same hR (v' := .int .i64 es.length) (by simp [Builtin.len_, hts, run_und hT hu, this, goInt, b]) (.int _ _)
    · cases h
  · cases h

def aMin (P : Program) (mx : Bool) (xs : List Value) : Option Value :=
  if xs.all (flat 0) then prun P (if mx then Builtin.max_ #[] 0 xs.toArray else Builtin.min_ #[] 0 xs.toArray) else none

/-! ### Interfaces, functions -/
def aIface (T : Tb) (t : TypeId) (x : Value) : Option Value :=
  match T.und t with
  | some (.interface _) => none
  | some _ => some (.iface t x)
  | none => none
theorem aIface_ok (hT : TbOK P T) (hR : Rel G μ H w) {t : TypeId} {x x' v : Value} (hx : VRel μ x x') (h : aIface T t x = some v) : Snd P G μ H w (Instr.makeInterface t x') (v, H) := by
  unfold aIface at h
  split at h
  · cases h
  · rename_i d hd hu
    injection h with h
    subst h
    refine Snd.same hR (v' := .iface t x') ?_ (.iface t hx)
    simp only [Instr.makeInterface, Sem.run_bind, run_und hT hu, Result.andThen_ok]
    cases d <;> first | rfl | exact absurd rfl (hd _)
  · cases h

def aArrAt (T : Tb) (t : TypeId) (x : Value) : Option Value :=
  match T.und t, x with
  | some (.array n _), .slice (some a) len c => if n ≤ len ∧ c ≠ empt then some (.pointer (some a)) else none
  | _, _ => none
theorem aArrAt_ok (hT : TbOK P T) (hR : Rel G μ H w) {t : TypeId} {x x' v : Value} (hx : VRel μ x x') (h : aArrAt T t x = some v) : Snd P G μ H w (Instr.arrayAt t x') (v, H) := by
  unfold aArrAt at h
  split at h
  · rename_i n e a len c hu
    split at h
    · rename_i hl
      injection h with h
      subst h
      cases hx with
      | slice hp hcap =>
        refine Snd.same hR ?_ (.ptr hp)
        simp [Instr.arrayAt, run_und hT hu, show ¬ (len < n) by omega]
      | empty => exact absurd rfl hl.2
    · cases h
  · cases h

end
end Go.Eng
set_option linter.unusedVariables false
set_option linter.unusedSimpArgs false
namespace Go.Eng
open Go
section
variable {P : Program} {G : Nat} {μ : Mu} {H : AHeap} {w : World} {T : Tb}

/-! ### Finding a key -/
def aFindNow (d : TypeDesc) (k : Value) : List MapEntry → Nat → Option (Option Nat)
  | [], _ => some none
  | e :: es, i => if flat 2 e.key then
      match Instr.sameNow d k e.key with
      | some true => some (some i)
      | some false => aFindNow d k es (i + 1)
      | none => none
    else none
def aFindAsk (P : Program) (kt : TypeId) (k : Value) : List MapEntry → Nat → Option (Option Nat)
  | [], _ => some none
  | e :: es, i => if flat 2 e.key then
      match prun P (Op.equal kt k e.key) with
      | some true => some (some i)
      | some false => aFindAsk P kt k es (i + 1)
      | none => none
    else none
def asks : TypeDesc → Bool
  | .int _ | .string | .bool => false
  | _ => true
/-- Which entry has a key. -/
def aFind (P : Program) (T : Tb) (kt : TypeId) (k : Value) (es : List MapEntry) : Option (Option Nat) :=
  match T.und kt with
  | some d => if asks d then aFindAsk P kt k es 0 else aFindNow d k es 0
  | none => none

/-- Entries, related place by place. -/
def EsRel (μ : Mu) (es es' : List MapEntry) : Prop := es.length = es'.length ∧ ∀ i, i < es.length → EntRel μ (es.getD i default) (es'.getD i default)
theorem EsRel.cons_inv {e : MapEntry} {es es' : List MapEntry} (h : EsRel μ (e :: es) es') : ∃ e' r, es' = e' :: r ∧ EntRel μ e e' ∧ EsRel μ es r := by
  cases es' with
  | nil => have := h.1; simp at this
  | cons e' r =>
    exact ⟨e', r, rfl, by simpa using h.2 0 (by simp), by simpa using h.1, fun i hi => by simpa using h.2 (i + 1) (by simpa using hi)⟩

theorem findNow_ok (d : TypeDesc) (k : Value) : ∀ (es es' : List MapEntry) (i : Nat) (r : Option Nat), EsRel μ es es' → aFindNow d k es i = some r →
    match r with
    | none => Instr.findNow d k es' i = some none
    | some j => i ≤ j ∧ j - i < es.length ∧ ∃ v', Instr.findNow d k es' i = some (some (j, v')) ∧ v' = (es'.getD (j - i) default).val := by
  intro es
  induction es with
  | nil =>
    intro es' i r h hf
    injection hf with hf
    subst hf
    have : es' = [] := List.length_eq_zero_iff.1 (by rw [← h.1]; rfl)
    subst this
    rfl
  | cons e es ih =>
    intro es' i r h hf
    obtain ⟨e', q, rfl, he, hq⟩ := h.cons_inv
    unfold aFindNow at hf
    split at hf
    · rename_i hfl
      have hk : e'.key = e.key := flat_eq he.1 2 hfl
      split at hf
      · rename_i hs
        injection hf with hf
        subst hf
        simp only
        exact ⟨Nat.le_refl _, by simp, e'.val, by unfold Instr.findNow; rw [hk, hs], by simp⟩
      · rename_i hs
        have := ih q (i + 1) r hq hf
        cases r with
        | none => simp only at this ⊢; unfold Instr.findNow; rw [hk, hs]; exact this
        | some j =>
          simp only at this ⊢
          obtain ⟨a, b, v', c, d'⟩ := this
          refine ⟨by omega, by simp; omega, v', by unfold Instr.findNow; rw [hk, hs]; exact c, ?_⟩
          rw [d', show j - i = (j - (i + 1)) + 1 by omega]
          simp
      · cases hf
    · cases hf

theorem findAsk_ok (kt : TypeId) (k : Value) : ∀ (es es' : List MapEntry) (i : Nat) (r : Option Nat), EsRel μ es es' → aFindAsk P kt k es i = some r →
    match r with
    | none => (Instr.findAsking kt k es' i).run P w = .ok none w
    | some j => i ≤ j ∧ j - i < es.length ∧ ∃ v', (Instr.findAsking kt k es' i).run P w = .ok (some (j, v')) w ∧ v' = (es'.getD (j - i) default).val := by
  intro es
  induction es with
  | nil =>
    intro es' i r h hf
    injection hf with hf
    subst hf
    have : es' = [] := List.length_eq_zero_iff.1 (by rw [← h.1]; rfl)
    subst this
    rfl
  | cons e es ih =>
    intro es' i r h hf
    obtain ⟨e', q, rfl, he, hq⟩ := h.cons_inv
    unfold aFindAsk at hf
    split at hf
    · rename_i hfl
      have hk : e'.key = e.key := flat_eq he.1 2 hfl
      split at hf
      · rename_i hs
        injection hf with hf
        subst hf
        simp only
        exact ⟨Nat.le_refl _, by simp, e'.val, by unfold Instr.findAsking; rw [hk]; simp [prun_run P _ _ hs w], by simp⟩
      · rename_i hs
        have hrun := prun_run P _ _ hs w
        have := ih q (i + 1) r hq hf
        cases r with
        | none => simp only at this ⊢; unfold Instr.findAsking; rw [hk]; simp [hrun, this]
        | some j =>
          simp only at this ⊢
          obtain ⟨a, b, v', c, d'⟩ := this
          refine ⟨by omega, by simp; omega, v', by unfold Instr.findAsking; rw [hk]; simp [hrun, c], ?_⟩
          rw [d', show j - i = (j - (i + 1)) + 1 by omega]
          simp
      · cases hf
    · cases hf

theorem findNow_asks {d : TypeDesc} (h : asks d = true) (k : Value) (e : MapEntry) (es : List MapEntry) (i : Nat) : Instr.findNow d k (e :: es) i = none := by
  unfold Instr.findNow
  cases d <;> first | (cases h; done) | rfl

theorem find_ok (hT : TbOK P T) {kt : TypeId} {k : Value} {es es' : List MapEntry} {r : Option Nat} (h : EsRel μ es es') (hf : aFind P T kt k es = some r) :
    match r with
    | none => (Instr.findKey kt k es').run P w = .ok none w
    | some j => j < es.length ∧ (Instr.findKey kt k es').run P w = .ok (some (j, (es'.getD j default).val)) w := by
  unfold aFind at hf
  split at hf
  · rename_i d hd
    cases ha : asks d with
    | false =>
      rw [ha] at hf
      have := findNow_ok d k es es' 0 r h (by simpa using hf)
      cases r with
      | none => simp only at this ⊢; simp [Instr.findKey, run_und hT hd, this]
      | some j =>
        simp only at this ⊢
        obtain ⟨_, b, v', c, d'⟩ := this
        refine ⟨by simpa using b, ?_⟩
        rw [Nat.sub_zero] at d'
        rw [← d']
        simp [Instr.findKey, run_und hT hd, c]
    | true =>
      rw [ha] at hf
      have := findAsk_ok (P := P) (w := w) kt k es es' 0 r h (by simpa using hf)
      cases es' with
      | nil =>
        have he : es = [] := List.length_eq_zero_iff.1 (by rw [h.1]; rfl)
        subst he
        have : r = none := by unfold aFindAsk at hf; simp at hf; exact hf.symm
        subst this
        simp [Instr.findKey, run_und hT hd, Instr.findNow]
      | cons e' q =>
        have hno := findNow_asks ha k e' q 0
        cases r with
        | none => simp only at this ⊢; simp [Instr.findKey, run_und hT hd, hno, this]
        | some j =>
          simp only at this ⊢
          obtain ⟨_, b, v', c, d'⟩ := this
          refine ⟨by simpa using b, ?_⟩
          rw [Nat.sub_zero] at d'
          rw [← d']
          simp [Instr.findKey, run_und hT hd, hno, c]
  · cases hf

theorem EsRel.of {es : List MapEntry} {es' : Array MapEntry} (h1 : es.length = es'.size) (h2 : ∀ i, i < es.length → EntRel μ (es.getD i default) (es'.getD i default)) : EsRel μ es es'.toList :=
  ⟨by simpa using h1, fun i hi => by have := h2 i hi; simpa [Array.getD_eq_getD_getElem?, List.getD_eq_getElem?_getD] using this⟩

/-! ### Looking up -/
def aLookup (P : Program) (T : Tb) (t : TypeId) (x ix : Value) (ok : Bool) (H : AHeap) : Option Value :=
  match T.und t with
  | some (.map kt e) =>
    if flat 2 ix then
      let es : Option (List MapEntry) := match x with
        | .map none => some []
        | .map (some r) => (match H.get r with | some (.map es _ _) => some es | _ => none)
        | _ => none
      match es with
      | some es =>
        match prun P (Instr.checkKey es.isEmpty 10000 kt ix), aFind P T kt ix es with
        | some _, some (some j) => let v := (es.getD j default).val; some (if ok then .tuple #[v, .bool true] else v)
        | some _, some none => (zeroT T e).map fun v => if ok then .tuple #[v, .bool false] else v
        | _, _ => none
      | none => none
    else none
  | _ => none

theorem pair_rel {μ : Mu} {a a' b b' : Value} (h : VRel μ a a') (k : VRel μ b b') : VRel μ (.tuple #[a, b]) (.tuple #[a', b']) := by
  refine .tuple rfl fun i hi => ?_
  have hi' : i < 2 := by simpa using hi
  match i, hi' with
  | 0, _ => exact h
  | 1, _ => exact k

theorem aLookup_ok (hT : TbOK P T) (hR : Rel G μ H w) {t : TypeId} {x x' ix ix' v : Value} {ok : Bool} (hx : VRel μ x x') (hix : VRel μ ix ix') (h : aLookup P T t x ix ok H = some v) :
    Snd P G μ H w (Instr.lookup t x' ix' ok) (v, H) := by
  unfold aLookup at h
  split at h
  · rename_i kt e hu
    split at h
    · rename_i hfl
      obtain rfl := flat_eq hix 2 hfl
      simp only at h
      split at h
      · rename_i es hes
        -- the entries in the world
        have hent : ∃ es' : Array MapEntry, EsRel μ es es'.toList ∧ ((x' = .map none ∧ es' = #[]) ∨ ∃ b ck, x' = .map (some b) ∧ (getObj b).run P w = .ok (.map es' ck) w) := by
          split at hes
          · injection hes with hes; subst hes; cases hx
            exact ⟨#[], ⟨rfl, fun i hi => by simp at hi⟩, .inl ⟨rfl, rfl⟩⟩
          · rename_i r
            split at hes
            · rename_i es0 ck ro hg
              injection hes with hes; subst hes
              cases hx with
              | map hp =>
                obtain ⟨es', a, b, c⟩ := map_at hR hp hg
                exact ⟨es', .of b c, .inr ⟨_, _, rfl, run_getObj (P := P) a (fun _ _ _ h => by cases h)⟩⟩
            · cases hes
          · cases hes
        obtain ⟨es', hrel, hrun⟩ := hent
        have hemp : es'.isEmpty = es.isEmpty := by
          have := hrel.1
          cases es with
          | nil => simp at this ⊢; exact Array.size_eq_zero_iff.1 this.symm
          | cons e0 es0 => simp at this ⊢; intro h; rw [h] at this; simp at this
        split at h
        · rename_i u j hck hfi
          have hf := find_ok (w := w) hT hrel hfi
          simp only at hf
          have hc := prun_run P _ _ hck w
          injection h with h
          subst h
          have hr := (hrel.2 j hf.1).2.1
          have hc' : (Instr.checkKey es'.isEmpty 10000 kt ix').run P w = .ok () w := by rw [hemp]; exact hc
          have hrn : (Instr.lookup t x' ix' ok).run P w = .ok (if ok then .tuple #[(es'.toList.getD j default).val, .bool true] else (es'.toList.getD j default).val) w := by
            rcases hrun with ⟨rfl, rfl⟩ | ⟨b, ck, rfl, hg⟩
            · have h0 := hrel.1
              have h1 := hf.1
              simp at h0
              rw [h0] at h1
              simp at h1
            · simp [Instr.lookup, run_und hT hu, hg, hc', hf.2]
          refine Snd.same hR hrn ?_
          cases ok with
          | true => exact pair_rel hr (.bool _)
          | false => exact hr
        · rename_i u hck hfi
          have hf := find_ok (w := w) hT hrel hfi
          simp only at hf
          have hc := prun_run P _ _ hck w
          obtain ⟨z, hz, rfl⟩ := Option.map_eq_some_iff.1 h
          have hc' : (Instr.checkKey es'.isEmpty 10000 kt ix').run P w = .ok () w := by rw [hemp]; exact hc
          have hrn : (Instr.lookup t x' ix' ok).run P w = .ok (if ok then .tuple #[z, .bool false] else z) w := by
            rcases hrun with ⟨rfl, rfl⟩ | ⟨b, ck, rfl, hg⟩
            · have hc2 : (Instr.checkKey true 10000 kt ix').run P w = .ok () w := hc'
              have hf2 : (Instr.findKey kt ix' []).run P w = .ok none w := hf
              simp [Instr.lookup, run_und hT hu, hc2, hf2, zero_run hT hz]
            · simp [Instr.lookup, run_und hT hu, hg, hc', hf, zero_run hT hz]
          refine Snd.same hR hrn ?_
          have hzr : VRel μ z z := zero_rel hT hz
          cases ok with
          | true => exact pair_rel hzr (.bool _)
          | false => exact hzr
        · cases h
      · cases h
    · cases h
  · cases h

/-! ### Writing a map -/
def emod (es : List MapEntry) (j : Nat) (f : MapEntry → MapEntry) : List MapEntry := es.take j ++ (match es[j]? with | some e => [f e] | none => []) ++ es.drop (j + 1)

theorem emod_rel {es : List MapEntry} {es' : Array MapEntry} {j : Nat} {f f' : MapEntry → MapEntry} (h : EsRel μ es es'.toList) (hj : j < es.length) (hf : EntRel μ (f (es.getD j default)) (f' (es'.toList.getD j default))) :
    EsRel μ (emod es j f) (es'.modify j f').toList := by
  have hl : es'.size = es.length := by have := h.1; simpa using this.symm
  have e0 : es[j]? = some es[j] := List.getElem?_eq_getElem hj
  have el : (emod es j f).length = es.length := by simp [emod, e0]; omega
  refine ⟨by rw [el]; simp [hl], fun i hi => ?_⟩
  rw [el] at hi
  have g1 : (emod es j f).getD i default = if i = j then f (es.getD j default) else es.getD i default := by
    simp only [emod, e0, List.getD_eq_getElem?_getD]
    by_cases e1 : i = j
    · subst e1
      rw [if_pos rfl, List.append_assoc, List.getElem?_append_right (by simp; omega)]
      simp [show min i es.length = i by omega, hj]
    · rw [if_neg e1]
      by_cases e2 : i < j
      · rw [List.append_assoc, List.getElem?_append_left (by simp; omega), List.getElem?_take_of_lt e2]
      · rw [List.getElem?_append_right (by simp; omega), List.getElem?_drop]
        simp only [List.length_append, List.length_take, List.length_singleton]
        congr 2
        omega
  have g2 : (es'.modify j f').toList.getD i default = if i = j then f' (es'.toList.getD j default) else es'.toList.getD i default := by
    simp only [List.getD_eq_getElem?_getD, Array.getElem?_toList, Array.getElem?_modify]
    by_cases e1 : i = j
    · subst e1; simp [hl, hj]
    · simp [e1, Ne.symm e1]
  rw [g1, g2]
  split
  · exact hf
  · exact h.2 i hi

theorem epush_rel {es : List MapEntry} {es' : Array MapEntry} {e e' : MapEntry} (h : EsRel μ es es'.toList) (he : EntRel μ e e') : EsRel μ (es ++ [e]) (es'.push e').toList := by
  have hl : es'.size = es.length := by have := h.1; simpa using this.symm
  refine ⟨by simp [hl], fun i hi => ?_⟩
  by_cases e1 : i < es.length
  · have := h.2 i e1
    simpa [List.getD_eq_getElem?_getD, List.getElem?_append_left e1, List.getElem?_append_left (show i < es'.toList.length by simpa [hl] using e1)] using this
  · have : i = es.length := by simp at hi; omega
    subst this
    have e2 : (es ++ [e]).getD es.length default = e := by simp [List.getD_eq_getElem?_getD]
    have e3 : (es'.push e').toList.getD es.length default = e' := by simp [List.getD_eq_getElem?_getD, ← hl]
    rw [e2, e3]
    exact he

/-- A map that is written. -/
theorem map_set {r k k' : Nat} {p : Pl} {es es2 : List MapEntry} {es' es2' : Array MapEntry} (hR : Rel G μ H w) (hp : μ r = some p) (hg : H.get r = some (.map es k)) (hw : w.heap[p.b]? = some (.map es' k)) (he : EsRel μ es2 es2'.toList) :
    ∃ w', (setObj p.b (.map es2' k')).run P w = .ok () w' ∧ Rel G μ (H.set r (.map es2 k')) w' ∧ Tn μ H w μ (H.set r (.map es2 k')) w' := by
  refine ⟨_, run_setObj (P := P) hw (fun _ _ _ h => by cases h), ?_⟩
  have hlt := (Array.getElem?_eq_some_iff.1 hw).1
  have := hR.upd (o' := .map es2 k') (x' := .map es2' k') (w' := { w with heap := w.heap.setIfInBounds p.b (.map es2' k') }) hg rfl hp (.map (by have := he.1; simpa using this) (fun i hi => by
      have := he.2 i hi; simpa [Array.getD_eq_getD_getElem?, List.getD_eq_getElem?_getD] using this)) rfl (by simp [hlt]) (fun q hq => by simp [Array.getElem?_setIfInBounds_ne (Ne.symm hq)]) (by simp) rfl rfl rfl
  simpa [AObj.par, AHeap.dels] using this

def aMapUpdate (P : Program) (T : Tb) (t : TypeId) (m k v : Value) (H : AHeap) : Option AHeap :=
  match T.und t, m with
  | some (.map kt e), .map (some r) =>
    match H.get r with
    | some (.map es ck false) =>
      if flat 2 k then
        match prun P (Instr.checkKey false 10000 kt k), aFind P T kt k es with
        | some _, some (some j) => if flat 2 (es.getD j default).key && Instr.sameBits 10000 (es.getD j default).key k then some (H.set r (.map (emod es j fun x => { x with key := k, val := v }) ck)) else none
        | some _, some none => some (H.set r (.map (es ++ [{ key := k, val := v, born := ck }]) (ck + 1)))
        | _, _ => none
      else none
    | _ => none
  | _, _ => none

theorem aMapUpdate_ok (hT : TbOK P T) (hR : Rel G μ H w) {t : TypeId} {m m' k k' v v' : Value} {H' : AHeap} (hm : VRel μ m m') (hk : VRel μ k k') (hv : VRel μ v v') (h : aMapUpdate P T t m k v H = some H') :
    SndU P G μ H w (Instr.mapUpdate t m' k' v') H' := by
  unfold aMapUpdate at h
  split at h
  · rename_i kt e r hu
    split at h
    · rename_i es ck hg
      split at h
      · rename_i hfl
        obtain rfl := flat_eq hk 2 hfl
        cases hm with
        | @map _ p hp =>
          obtain ⟨es', a, b, c⟩ := map_at hR hp hg
          have hrel := EsRel.of b c
          have hgo := run_getObj (P := P) a (fun _ _ _ h => by cases h)
          split at h
          · rename_i u j hck hfi
            have hf := find_ok (w := w) hT hrel hfi
            simp only at hf
            have hc := prun_run P _ _ hck w
            split at h
            · rename_i hsb
              simp only [Bool.and_eq_true] at hsb
              injection h with h
              subst h
              have hkey : (es'.toList.getD j default).key = (es.getD j default).key := flat_eq (hrel.2 j hf.1).1 2 hsb.1
              have e0 : es'[j]? = some (es'.toList.getD j default) := by
                have : j < es'.size := by rw [← b]; exact hf.1
                simp [this]
              obtain ⟨w', q1, q2, q3⟩ := map_set (P := P) (k' := ck) hR hp hg a (emod_rel (f := fun x => { x with key := k', val := v }) (f' := fun x => { x with key := k', val := v' }) hrel hf.1 ⟨hk, hv, (hrel.2 j hf.1).2.2⟩)
              refine ⟨w', μ, ?_, q2, q3⟩
              have hks : (Instr.keyThatStays (es'.toList.getD j default).key k').run P w = .ok k' w := by
                rw [hkey]; unfold Instr.keyThatStays; rw [if_pos hsb.2]; rfl
              have e1 : ((es'[j]?).map (·.key)).getD k' = (es'.toList.getD j default).key := by rw [e0]; rfl
              simp only [Instr.mapUpdate, Sem.run_bind, run_und hT hu, Result.andThen_ok, hgo, hc, hf.2, e1, hks, q1]
            · cases h
          · rename_i u hck hfi
            have hf := find_ok (w := w) hT hrel hfi
            simp only at hf
            have hc := prun_run P _ _ hck w
            injection h with h
            subst h
            obtain ⟨w', q1, q2, q3⟩ := map_set (P := P) (k' := ck + 1) hR hp hg a (epush_rel (e := { key := k', val := v, born := ck }) (e' := { key := k', val := v', born := ck }) hrel ⟨hk, hv, rfl⟩)
            refine ⟨w', μ, ?_, q2, q3⟩
            simp only [Instr.mapUpdate, Sem.run_bind, run_und hT hu, Result.andThen_ok, hgo, hc, hf, q1]
          · cases h
      · cases h
    · cases h
  · cases h

def aMapEntry (P : Program) (T : Tb) (t : TypeId) (m k : Value) (H : AHeap) : Option (Value × AHeap) :=
  match T.und t, m with
  | some (.map kt e), .map (some r) =>
    match H.get r with
    | some (.map es ck false) =>
      if flat 2 k then
        match prun P (Instr.checkKey false 10000 kt k), aFind P T kt k es with
        | some _, some (some j) => if flat 2 (es.getD j default).key && Instr.sameBits 10000 (es.getD j default).key k then
            some (.tuple #[(es.getD j default).val, .int .i64 (es.getD j default).born], H.set r (.map (emod es j fun x => { x with key := k }) ck)) else none
        | some _, some none => (zeroT T e).map fun z => (.tuple #[z, .int .i64 ck], H.set r (.map (es ++ [{ key := k, val := z, born := ck }]) (ck + 1)))
        | _, _ => none
      else none
    | _ => none
  | _, _ => none

theorem aMapEntry_ok (hT : TbOK P T) (hR : Rel G μ H w) {t : TypeId} {m m' k k' : Value} {r : Value × AHeap} (hm : VRel μ m m') (hk : VRel μ k k') (h : aMapEntry P T t m k H = some r) :
    Snd P G μ H w (Instr.mapEntry t m' k') r := by
  unfold aMapEntry at h
  split at h
  · rename_i kt e r hu
    split at h
    · rename_i es ck hg
      split at h
      · rename_i hfl
        obtain rfl := flat_eq hk 2 hfl
        cases hm with
        | @map _ p hp =>
          obtain ⟨es', a, b, c⟩ := map_at hR hp hg
          have hrel := EsRel.of b c
          have hgo := run_getObj (P := P) a (fun _ _ _ h => by cases h)
          split at h
          · rename_i u j hck hfi
            have hf := find_ok (w := w) hT hrel hfi
            simp only at hf
            have hc := prun_run P _ _ hck w
            split at h
            · rename_i hsb
              simp only [Bool.and_eq_true] at hsb
              injection h with h
              subst h
              have hkey : (es'.toList.getD j default).key = (es.getD j default).key := flat_eq (hrel.2 j hf.1).1 2 hsb.1
              have e0 : es'[j]? = some (es'.toList.getD j default) := by
                have : j < es'.size := by rw [← b]; exact hf.1
                simp [this]
              obtain ⟨w', q1, q2, q3⟩ := map_set (P := P) (k' := ck) hR hp hg a (emod_rel (f := fun x => { x with key := k' }) (f' := fun x => { x with key := k' }) hrel hf.1 ⟨hk, (hrel.2 j hf.1).2.1, (hrel.2 j hf.1).2.2⟩)
              refine ⟨.tuple #[(es'.toList.getD j default).val, .int .i64 (es'.toList.getD j default).born], w', μ, ?_, ?_, q2, q3⟩
              · have hks : (Instr.keyThatStays (es'.toList.getD j default).key k').run P w = .ok k' w := by
                  rw [hkey]; unfold Instr.keyThatStays; rw [if_pos hsb.2]; rfl
                have e1 : ((es'[j]?).map (·.key)).getD k' = (es'.toList.getD j default).key := by rw [e0]; rfl
                have e2 : ((es'[j]?).map (·.born)).getD 0 = (es'.toList.getD j default).born := by rw [e0]; rfl
                have e3 : ((es'[j]?).map fun x => (x.born : Int)).getD 0 = ((es'.toList.getD j default).born : Int) := by rw [e0]; rfl
                simp only [Instr.mapEntry, Sem.run_bind, run_und hT hu, Result.andThen_ok, hgo, hc, hf.2, e1, e2, e3, hks, q1, Sem.run_pure, goInt]
              · have := (hrel.2 j hf.1).2.2
                rw [← this]
                exact pair_rel (hrel.2 j hf.1).2.1 (.int _ _)
            · cases h
          · rename_i u hck hfi
            have hf := find_ok (w := w) hT hrel hfi
            simp only at hf
            have hc := prun_run P _ _ hck w
            obtain ⟨z, hz, rfl⟩ := Option.map_eq_some_iff.1 h
            have hzr : VRel μ z z := zero_rel hT hz
            obtain ⟨w', q1, q2, q3⟩ := map_set (P := P) (k' := ck + 1) hR hp hg a (epush_rel (e := { key := k', val := z, born := ck }) (e' := { key := k', val := z, born := ck }) hrel ⟨hk, hzr, rfl⟩)
            refine ⟨.tuple #[z, .int .i64 ck], w', μ, ?_, pair_rel hzr (.int _ _), q2, q3⟩
            simp only [Instr.mapEntry, Sem.run_bind, run_und hT hu, Result.andThen_ok, hgo, hc, hf, zero_run hT hz, q1, Sem.run_pure, goInt]
          · cases h
      · cases h
    · cases h
  · cases h

def bornAt (n : Int) : List MapEntry → Nat → Option Nat
  | [], _ => none
  | e :: es, i => if (e.born : Int) == n then some i else bornAt n es (i + 1)
def aEntryStore (m s v : Value) (H : AHeap) : Option AHeap :=
  match m, s with
  | .map (some r), .int _ n =>
    match H.get r with
    | some (.map es ck false) => (bornAt n es 0).map fun j => H.set r (.map (emod es j fun x => { x with val := v }) ck)
    | _ => none
  | _, _ => none

theorem bornAt_ok (n : Int) : ∀ (es es' : List MapEntry) (i j : Nat), EsRel μ es es' → bornAt n es i = some j → i ≤ j ∧ j - i < es.length ∧ es'.findIdx? (fun e => (e.born : Int) == n) = some (j - i) := by
  intro es
  induction es with
  | nil => intro es' i j _ h; cases h
  | cons e es ih =>
    intro es' i j h hb
    obtain ⟨e', q, rfl, he, hq⟩ := h.cons_inv
    unfold bornAt at hb
    split at hb
    · rename_i hs
      injection hb with hb
      subst hb
      refine ⟨Nat.le_refl _, by simp, ?_⟩
      rw [List.findIdx?_cons, ← he.2.2, if_pos hs, Nat.sub_self]
    · rename_i hs
      obtain ⟨a, b, c⟩ := ih q (i + 1) j hq hb
      refine ⟨by omega, by simp; omega, ?_⟩
      rw [List.findIdx?_cons, ← he.2.2, if_neg hs, c]
      simp
      omega

theorem aEntryStore_ok (hR : Rel G μ H w) {t : TypeId} {m m' s s' v v' : Value} {H' : AHeap} (hm : VRel μ m m') (hs : VRel μ s s') (hv : VRel μ v v') (h : aEntryStore m s v H = some H') :
    SndU P G μ H w (Instr.entryStore t m' s' v') H' := by
  unfold aEntryStore at h
  split at h
  · rename_i r k n
    split at h
    · rename_i es ck hg
      obtain ⟨j, hj, rfl⟩ := Option.map_eq_some_iff.1 h
      cases hs
      cases hm with
      | @map _ p hp =>
        obtain ⟨es', a, b, c⟩ := map_at hR hp hg
        have hrel := EsRel.of b c
        have hgo := run_getObj (P := P) a (fun _ _ _ h => by cases h)
        obtain ⟨_, k2, k3⟩ := bornAt_ok n es es'.toList 0 j hrel hj
        rw [Nat.sub_zero] at k2 k3
        have k4 : es'.findIdx? (fun e => (e.born : Int) == n) = some j := by rw [← k3]; exact List.findIdx?_toArray _ es'.toList
        obtain ⟨w', q1, q2, q3⟩ := map_set (P := P) (k' := ck) hR hp hg a (emod_rel (f := fun x => { x with val := v }) (f' := fun x => { x with val := v' }) hrel k2 ⟨(hrel.2 j k2).1, hv, (hrel.2 j k2).2.2⟩)
        refine ⟨w', μ, ?_, q2, q3⟩
        simp only [Instr.entryStore, Sem.run_bind, pure_bind, Result.andThen_ok, hgo, asInt, asIntOf, Sem.run_pure, k4, q1]
    · cases h
  · cases h

def aDelete (P : Program) (T : Tb) (t : TypeId) (m k : Value) (H : AHeap) : Option AHeap :=
  match T.und t, m with
  | some (.map kt e), .map (some r) =>
    match H.get r with
    | some (.map es ck false) =>
      if flat 2 k then
        match prun P (Instr.checkKey es.isEmpty 10000 kt k), aFind P T kt k es with
        | some _, some (some j) => some (H.set r (.map (es.eraseIdx j) ck))
        | some _, some none => some (H.set r (.map es ck))
        | _, _ => none
      else none
    | _ => none
  | _, _ => none
theorem erase_rel {es es' : List MapEntry} {j : Nat} (h : EsRel μ es es') : EsRel μ (es.eraseIdx j) (es'.eraseIdx j) := by
  refine ⟨by simp [List.length_eraseIdx, h.1], fun i hi => ?_⟩
  simp only [List.getD_eq_getElem?_getD, List.getElem?_eraseIdx]
  rw [List.length_eraseIdx] at hi
  split
  · have := h.2 i (by split at hi <;> omega)
    simpa [List.getD_eq_getElem?_getD] using this
  · have := h.2 (i + 1) (by split at hi <;> omega)
    simpa [List.getD_eq_getElem?_getD] using this

theorem aDelete_ok (hT : TbOK P T) (hR : Rel G μ H w) {t kt' ty : TypeId} {m m' k k' : Value} {H' : AHeap} (hm : VRel μ m m') (hk : VRel μ k k') (h : aDelete P T t m k H = some H') :
    Snd P G μ H w (Builtin.delete_ #[t, kt'] ty #[m', k']) (.tuple #[], H') := by
  unfold aDelete at h
  split at h
  · rename_i kt e r hu
    split at h
    · rename_i es ck hg
      split at h
      · rename_i hfl
        obtain rfl := flat_eq hk 2 hfl
        cases hm with
        | @map _ p hp =>
          obtain ⟨es', a, b, c⟩ := map_at hR hp hg
          have hrel := EsRel.of b c
          have hgo := run_getObj (P := P) a (fun _ _ _ h => by cases h)
          have hem : es'.isEmpty = es.isEmpty := by
            cases es with
            | nil => have : es'.size = 0 := by simpa using b.symm
                     simp [Array.isEmpty, this]
            | cons x l => have : es'.size = l.length + 1 := by simpa using b.symm
                          simp [Array.isEmpty, this]
          split at h
          · rename_i u j hck hfi
            have hf := find_ok (w := w) hT hrel hfi
            simp only at hf
            have hc := prun_run P _ _ hck w
            injection h with h
            subst h
            obtain ⟨w', q1, q2, q3⟩ := map_set (P := P) (k' := ck) (es2' := es'.eraseIdxIfInBounds j) hR hp hg a (by rw [Array.toList_eraseIdxIfInBounds]; exact erase_rel hrel)
            refine ⟨_, w', μ, ?_, .undef μ, q2, q3⟩
            simp only [Builtin.delete_, List.getElem?_toArray, List.getElem?_cons_zero, List.getElem?_cons_succ, Sem.run_bind, run_und hT hu, Result.andThen_ok, hgo, hem, hc, hf.2, q1, Sem.run_pure]
            rfl
          · rename_i u hck hfi
            have hf := find_ok (w := w) hT hrel hfi
            simp only at hf
            have hc := prun_run P _ _ hck w
            injection h with h
            subst h
            obtain ⟨w', q1, q2, q3⟩ := map_set (P := P) (k' := ck) hR hp hg a hrel
            refine ⟨_, w', μ, ?_, .undef μ, q2, q3⟩
            simp only [Builtin.delete_, List.getElem?_toArray, List.getElem?_cons_zero, List.getElem?_cons_succ, Sem.run_bind, run_und hT hu, Result.andThen_ok, hgo, hem, hc, hf, q1, Sem.run_pure]
            rfl
          · cases h
      · cases h
    · cases h
  · cases h

/-! ### Making a map; texts' iterators -/
def aMakeMap (r : Option Value) (H : AHeap) : Option (Value × AHeap) :=
  match r with
  | none => some (.map (some H.next), H.new (.map [] 0))
  | some (.int _ _) => some (.map (some H.next), H.new (.map [] 0))
  | _ => none
theorem aMakeMap_ok (hT : TbOK P T) (hR : Rel G μ H w) {t : TypeId} {k e : TypeId} {r r' : Option Value} {v : Value × AHeap} (hu : T.und t = some (.map k e)) (hr : ORel μ r r') (h : aMakeMap r H = some v) : Snd P G μ H w (Instr.makeMap t r') v := by
  have hrun : (Instr.makeMap t r').run P w = .ok (.map (some w.heap.size)) { w with heap := w.heap.push (.map #[] 0) } ∧ v = (.map (some H.next), H.new (.map [] 0)) := by
    unfold aMakeMap at h
    split at h
    · injection h with h; cases hr; exact ⟨rfl, h.symm⟩
    · injection h with h
      cases hr with
      | some hv => cases hv; refine ⟨?_, h.symm⟩; simp [Instr.makeMap, run_und hT hu, asInt, asIntOf]
    · cases h
  obtain ⟨h1, rfl⟩ := hrun
  obtain ⟨k1, k2⟩ := hR.push0 (o := .map [] 0) (x := .map #[] 0) (p := ⟨w.heap.size, 0, 0, 0⟩) (w' := { w with heap := w.heap.push (.map #[] 0) }) (.map rfl (fun i hi => by simp at hi)) rfl rfl rfl rfl rfl rfl
  exact ⟨_, _, _, h1, .map (Mu.upd_same H.next _), k1, k2⟩

def aRange (T : Tb) (t : TypeId) (x : Value) (H : AHeap) : Option (Value × AHeap) :=
  match T.und t, x with
  | some .string, .string s => some (.pointer (some ⟨H.next, 0, none⟩), H.new (.iter s 0))
  | _, _ => none
theorem aRange_ok (hT : TbOK P T) (hR : Rel G μ H w) {t : TypeId} {x x' : Value} {v : Value × AHeap} (hx : VRel μ x x') (h : aRange T t x H = some v) : Snd P G μ H w (Instr.range t x') v := by
  unfold aRange at h
  split at h
  · rename_i s hu
    injection h with h
    subst h
    cases hx
    obtain ⟨k1, k2⟩ := hR.push0 (o := .iter s 0) (x := .stringIter s 0) (p := ⟨w.heap.size, 0, 0, 0⟩) (w' := { w with heap := w.heap.push (.stringIter s 0) }) (.iter s 0 rfl) rfl rfl rfl rfl rfl rfl
    refine ⟨.pointer (some ⟨w.heap.size, 0, none⟩), _, _, ?_, ?_, k1, k2⟩
    · simp only [Instr.range, Sem.run_bind, run_und hT hu, Result.andThen_ok, Sem.run_pure, run_newObj]
    · have := VRel.ptr (μ := μ.upd H.next ⟨w.heap.size, 0, 0, 0⟩) (o := 0) (Mu.upd_same H.next _)
      simpa using this
  · cases h

def aNext (x : Value) (isS : Bool) (H : AHeap) : Option (Value × AHeap) :=
  match x, isS with
  | .pointer (some ⟨r, 0, _⟩), true =>
    match H.get r with
    | some (.iter s pos) =>
      if pos < s.size then some (.tuple #[.bool true, .int .i64 pos, .int .i32 (Utf8.decode s pos).1], H.set r (.iter s (pos + (Utf8.decode s pos).2)))
      else some (.tuple #[.bool false], H)
    | _ => none
  | _, _ => none
theorem aNext_ok (hR : Rel G μ H w) {t : TypeId} {x x' : Value} {isS : Bool} {v : Value × AHeap} (hx : VRel μ x x') (h : aNext x isS H = some v) : Snd P G μ H w (Instr.next x' isS t) v := by
  unfold aNext at h
  split at h
  · rename_i r sp
    obtain ⟨i, o, p, he, hp, rfl⟩ := ptr_inv hx
    injection he with he1 he2 he3
    subst he1; subst he2
    split at h
    · rename_i s pos hg
      obtain ⟨q, y, hq, hy, ho⟩ := hR.dom _ _ hg
      rw [hp] at hq
      injection hq with hq
      subst hq
      cases ho with
      | iter _ _ hs0 =>
        have hgo := run_getObj (P := P) hy (fun _ _ _ h => by cases h)
        split at h
        · rename_i hlt
          injection h with h
          subst h
          have hlt2 := (Array.getElem?_eq_some_iff.1 hy).1
          have hup := hR.upd (o' := .iter s (pos + (Utf8.decode s pos).2)) (x' := .stringIter s (pos + (Utf8.decode s pos).2)) (w' := { w with heap := w.heap.setIfInBounds p.b (.stringIter s (pos + (Utf8.decode s pos).2)) }) hg rfl hp (.iter _ _ hs0) rfl
            (by simp [hlt2]) (fun q hq => by simp [Array.getElem?_setIfInBounds_ne (Ne.symm hq)]) (by simp) rfl rfl rfl
          refine ⟨.tuple #[.bool true, .int .i64 pos, .int .i32 (Utf8.decode s pos).1], _, μ, ?_, ?_, by simpa [AObj.par, AHeap.dels] using hup.1, by simpa [AObj.par, AHeap.dels] using hup.2⟩
          · have hso := run_setObj (P := P) (o' := .stringIter s (pos + (Utf8.decode s pos).2)) hy (fun _ _ _ h => by cases h)
            rw [hs0]
            simp [Instr.next, hgo, hlt, hso, goInt]
          · refine .tuple rfl fun i hi => ?_
            have hi' : i < 3 := by simpa using hi
            match i, hi' with
            | 0, _ => exact .bool _
            | 1, _ => exact .int _ _
            | 2, _ => exact .int _ _
        · rename_i hlt
          injection h with h
          subst h
          refine Snd.same hR (v' := .tuple #[.bool false]) ?_ (flat_rel 1 _ rfl)
          rw [hs0]
          simp [Instr.next, hgo, hlt]
    · cases h
  · cases h

/-! ### copy -/
def lenV : Value → Option Nat
  | .slice _ n _ => some n
  | .string s => some s.size
  | _ => none
def firstN (H : AHeap) (size n : Nat) (x : Value) : Option (List Value) :=
  match x with
  | .slice none _ _ => some []
  | .slice (some a) _ c => if c = empt then (if n = 0 then some [] else none) else loadN H a (n * size)
  | .string s => some ((s.extract 0 n).data.toList.map fun b => .int .u8 b.toNat)
  | _ => none
theorem lenV_ok {x x' : Value} {n : Nat} (hx : VRel μ x x') (h : lenV x = some n) : (Builtin.lenOf x').run P w = .ok n w := by
  unfold lenV at h
  split at h
  · injection h with h; subst h; cases hx <;> rfl
  · injection h with h; subst h; cases hx; rfl
  · cases h
theorem firstN_ok (hR : Rel G μ H w) {size n : Nat} {x x' : Value} {vs : List Value} (hx : VRel μ x x') (h : firstN H size n x = some vs) :
    ∃ vs', LRel μ vs vs' ∧ vs.all one = true ∧ (∀ w1 : World, w1.heap = w.heap → (Builtin.firstCells size n x').run P w1 = .ok vs'.toArray w1) := by
  unfold firstN at h
  split at h
  · injection h with h
    subst h
    cases hx
    exact ⟨[], LRel.nil, rfl, fun w1 _ => rfl⟩
  · rename_i a l c
    split at h
    · rename_i hc
      split at h
      · rename_i hn
        injection h with h
        subst h; subst hn
        cases hx with
        | slice hp hcap => exfalso; subst hc; rcases hcap.2.2 with h | h <;> (unfold grow empt at *; omega)
        | empty hc' => exact ⟨[], LRel.nil, rfl, fun w1 _ => by simp [Builtin.firstCells, loadCells, loadCellsFrom]⟩
      · cases h
    · rename_i hc
      cases hx with
      | slice hp hcap =>
        obtain ⟨vs', h1, h2, h3, h4, h5⟩ := load_cells (P := P) hR hp h
        exact ⟨vs', h1, List.all_eq_true.2 h3, fun w1 e => h5 w1 e⟩
      | empty hc' => exact absurd rfl hc
  · rename_i s
    injection h with h
    subst h
    cases hx
    refine ⟨_, LRel.flat (List.all_eq_true.2 fun x hx => ?_), List.all_eq_true.2 fun x hx => ?_, fun w1 _ => ?_⟩
    · obtain ⟨b, _, rfl⟩ := List.mem_map.1 hx; rfl
    · obtain ⟨b, _, rfl⟩ := List.mem_map.1 hx; rfl
    · simp [Builtin.firstCells]
      apply Array.ext'
      simp
  · cases h

def aCopy (T : Tb) (t : TypeId) (d x : Value) (H : AHeap) : Option (Value × AHeap) :=
  match T.und t, d, lenV x with
  | some (.slice e), .slice base dl c, some n =>
    match T.info e with
    | some i =>
      match firstN H i.size (Nat.min n dl) x with
      | some vs =>
        match base with
        | none => some (.int .i64 (Nat.min n dl), H)
        | some a => match vs with
          | [] => some (.int .i64 (Nat.min n dl), H)
          | v :: l => if c = empt then none else (storeN H a (v :: l)).map fun H' => (.int .i64 (Nat.min n dl), H')
      | none => none
    | none => none
  | _, _, _ => none

theorem aCopy_ok (hT : TbOK P T) (hR : Rel G μ H w) {t xt ty : TypeId} {d d' x x' : Value} {r : Value × AHeap} (hd : VRel μ d d') (hx : VRel μ x x') (h : aCopy T t d x H = some r) :
    Snd P G μ H w (Builtin.copy_ #[t, xt] ty #[d', x']) r := by
  unfold aCopy at h
  split at h
  · rename_i e base dl c n hu hl
    split at h
    · rename_i i hi
      split at h
      · rename_i vs hv
        obtain ⟨vs', k1, k2, k3⟩ := firstN_ok (P := P) hR hx hv
        have hlen := lenV_ok (P := P) (w := w) hx hl
        split at h
        · injection h with h
          subst h
          cases hd
          refine Snd.same hR ?_ (.int _ _)
          have k3 := k3 w rfl
          rw [show Nat.min n 0 = 0 from Nat.min_zero n] at k3
          simp [Builtin.copy_, run_und hT hu, hlen, run_size hT hi, k3, goInt]
        · rename_i a
          split at h
          · injection h with h
            subst h
            have e0 : vs' = [] := List.eq_nil_of_length_eq_zero (by rw [← k1.1]; rfl)
            subst e0
            cases hd with
            | slice hp hcap =>
              refine Snd.same hR ?_ (.int _ _)
              simp [Builtin.copy_, run_und hT hu, hlen, run_size hT hi, k3 w rfl, goInt, storeCells]
            | empty hc =>
              refine Snd.same hR ?_ (.int _ _)
              have k3 := k3 w rfl
              rw [show Nat.min n 0 = 0 from Nat.min_zero n] at k3
              simp [Builtin.copy_, run_und hT hu, hlen, run_size hT hi, k3, goInt, storeCells]
          · rename_i v l
            split at h
            · cases h
            · rename_i hc
              obtain ⟨H', hs, rfl⟩ := Option.map_eq_some_iff.1 h
              cases hd with
              | slice hp hcap =>
                obtain ⟨w', q1, q2, q3, _⟩ := store_cells (P := P) hR hp k1 hs
                refine ⟨_, w', μ, ?_, .int _ _, q2, q3⟩
                simp [Builtin.copy_, run_und hT hu, hlen, run_size hT hi, k3 w rfl, goInt, q1]
              | empty hc' => exact absurd rfl hc
      · cases h
    · cases h
  · cases h

end
end Go.Eng
set_option linter.unusedVariables false
set_option linter.unusedSimpArgs false
namespace Go.Eng
open Go

abbrev Tmps := Tr Value
def tget (τ : Tmps) (t : Nat) : Value := (τ.get t).getD unk

def aeval (G : Nat) (τ : Tmps) : Operand → Option Value
  | .tmp t => some (tget τ t)
  | .const v => if flat 1 v then some v else none
  | .global g => if g < G then some (.pointer (some ⟨g, 0, none⟩)) else none
  | .func f => some (.func (.func f) #[] #[])
def aevals (G : Nat) (τ : Tmps) : List Operand → Option (List Value)
  | [] => some []
  | x :: l => match aeval G τ x, aevals G τ l with
    | some v, some vs => some (v :: vs)
    | _, _ => none
def aparts (G : Nat) (τ : Tmps) : List (Nat × Operand) → Option (List (Nat × Value))
  | [] => some []
  | (i, x) :: l => match aeval G τ x, aparts G τ l with
    | some v, some vs => some ((i, v) :: vs)
    | _, _ => none
def aopt (G : Nat) (τ : Tmps) : Option Operand → Option (Option Value)
  | none => some none
  | some x => (aeval G τ x).map some

/-- The frame's places. -/
structure TRel (μ : Mu) (N : Nat) (τ : Tmps) (tmps : Array Value) : Prop where
  size : tmps.size = N
  at_ : ∀ t, VRel μ (tget τ t) (tmps.getD t undef)

section
variable {P : Program} {G : Nat} {μ : Mu} {H : AHeap} {w : World} {T : Tb} {N : Nat} {τ : Tmps} {a : Act}

theorem TRel.mono {μ' : Mu} (h : μ.le μ') (k : TRel μ N τ a.tmps) : TRel μ' N τ a.tmps := ⟨k.size, fun t => (k.at_ t).mono h⟩

theorem aeval_ok (hR : Rel G μ H w) (hN : TRel μ N τ a.tmps) {x : Operand} {v : Value} (h : aeval G τ x = some v) : VRel μ v (a.eval x) := by
  cases x with
  | tmp t => injection h with h; subst h; exact hN.at_ t
  | const c =>
    simp only [aeval] at h
    split at h
    · rename_i hf; injection h with h; subst h; exact flat_rel 1 _ hf
    · cases h
  | global g =>
    simp only [aeval] at h
    split at h
    · rename_i hg
      injection h with h
      subst h
      obtain ⟨p, hp, hb, hs⟩ := hR.glob g hg
      have := VRel.ptr (o := 0) hp
      simpa [Act.eval, hb, hs] using this
    · cases h
  | func f => injection h with h; subst h; exact flat_rel 0 _ rfl

theorem aevals_ok (hR : Rel G μ H w) (hN : TRel μ N τ a.tmps) : ∀ {l : List Operand} {vs : List Value}, aevals G τ l = some vs → LRel μ vs (l.map a.eval) := by
  intro l
  induction l with
  | nil => intro vs h; injection h with h; subst h; exact LRel.nil
  | cons x l ih =>
    intro vs h
    simp only [aevals] at h
    split at h
    · rename_i v us hv hus
      injection h with h
      subst h
      exact LRel.cons (aeval_ok hR hN hv) (ih hus)
    · cases h
theorem aparts_ok (hR : Rel G μ H w) (hN : TRel μ N τ a.tmps) : ∀ {l : List (Nat × Operand)} {vs : List (Nat × Value)}, aparts G τ l = some vs → PRel μ vs (l.map fun (i, x) => (i, a.eval x)) := by
  intro l
  induction l with
  | nil => intro vs h; injection h with h; subst h; exact .nil
  | cons x l ih =>
    intro vs h
    obtain ⟨i, x⟩ := x
    simp only [aparts] at h
    split at h
    · rename_i v us hv hus
      injection h with h
      subst h
      exact .cons i (aeval_ok hR hN hv) (ih hus)
    · cases h
theorem aopt_ok (hR : Rel G μ H w) (hN : TRel μ N τ a.tmps) {x : Option Operand} {v : Option Value} (h : aopt G τ x = some v) : ORel μ v (x.map a.eval) := by
  cases x with
  | none => injection h with h; subst h; exact .none
  | some x =>
    simp only [aopt] at h
    obtain ⟨u, hu, rfl⟩ := Option.map_eq_some_iff.1 h
    exact .some (aeval_ok hR hN hu)

def okFlat (v : Option Value) (H : AHeap) : Option (Value × AHeap) := v.bind fun v => if flat 1 v then some (v, H) else none

def aBuiltin (P : Program) (T : Tb) (b : Builtin) (ts : Array TypeId) (xs : List Value) (H : AHeap) : Option (Value × AHeap) :=
  match b, ts.toList, xs with
  | .len, t :: _, [x] => (aLen T t x H).map (·, H)
  | .append, [t, xt], [s, x] => aAppend T t xt s x H
  | .copy, [t, xt], [d, x] => aCopy T t d x H
  | .delete, [t, kt], [m, k] => (aDelete P T t m k H).map (.tuple #[], ·)
  | .min, _, x :: xs => if (x :: xs).all (flat 0) then okFlat (prun P (Builtin.min_ #[] 0 (x :: xs).toArray)) H else none
  | .max, _, x :: xs => if (x :: xs).all (flat 0) then okFlat (prun P (Builtin.max_ #[] 0 (x :: xs).toArray)) H else none
  | _, _, _ => none

/-- One operation that calls no Go function. -/
def aop (P : Program) (T : Tb) (G : Nat) (τ : Tmps) (o : Op) (H : AHeap) : Option (Value × AHeap) :=
  match o with
  | .move x | .assign x => (aeval G τ x).map (·, H)
  | .pick c x y => match aeval G τ c with
    | some (.bool true) => (aeval G τ x).map (·, H)
    | some (.bool false) => (aeval G τ y).map (·, H)
    | _ => none
  | .alloc t => aAlloc T t H
  | .box _ x => (aeval G τ x).bind fun v => aBox v H
  | .build t ps => (aparts G τ ps.toList).bind fun vs => (aBuild T t vs).map (·, H)
  | .buildSlice t n ps => (aparts G τ ps.toList).bind fun vs => aBuildSlice T t n vs H
  | .load t x => (aeval G τ x).bind fun v => aLoad T t v H
  | .store t x y => (aeval G τ x).bind fun v => (aeval G τ y).bind fun u => (aStore T t v u H).map (undef, ·)
  | .nilCheck x => match aeval G τ x with
    | some (.pointer (some p)) => some (.pointer (some p), H)
    | some (.iface t v) => some (.iface t v, H)
    | some (.func (.func f) a b) => some (.func (.func f) a b, H)
    | _ => none
  | .binOp op t x y _ => (aeval G τ x).bind fun v => (aeval G τ y).bind fun u => okFlat (aBin P T op t x y v u H) H
  | .unOp op _ x => (aeval G τ x).bind fun v => okFlat (aUn P op v) H
  | .convert s d x => (aeval G τ x).bind fun v => aConv T s d v H
  | .sliceToArrayPointer t x => (aeval G τ x).bind fun v => (aArrAt T t v).map (·, H)
  | .makeInterface t x => (aeval G τ x).bind fun v => (aIface T t v).map (·, H)
  | .makeFunc fn f c => (aevals G τ f.toList).bind fun fs => (aevals G τ c.toList).map fun cs => (.func fn fs.toArray cs.toArray, H)
  | .makeMap t r => (aopt G τ r).bind fun v => (match T.und t with | some (.map _ _) => aMakeMap v H | _ => none)
  | .makeSlice t l c => (aeval G τ l).bind fun v => (aeval G τ c).bind fun u => aMakeSlice T t v u H
  | .slice t x lo hi mx => (aeval G τ x).bind fun v => (aopt G τ lo).bind fun l => (aopt G τ hi).bind fun h => (aopt G τ mx).bind fun m => (aSlice T t v l h m H).map (·, H)
  | .fieldAddr t x f => (aeval G τ x).bind fun v => (aFieldAddr T t v f).map (·, H)
  | .field t x f => (aeval G τ x).bind fun v => (aField T t v f).map (·, H)
  | .indexAddr t x i => (aeval G τ x).bind fun v => (aeval G τ i).bind fun u => (aIndexAddr T t v u).map (·, H)
  | .index t x i => (aeval G τ x).bind fun v => (aeval G τ i).bind fun u => (aIndex T t v u).map (·, H)
  | .lookup t x i ok => (aeval G τ x).bind fun v => (aeval G τ i).bind fun u => (aLookup P T t v u ok H).map (·, H)
  | .mapUpdate t m k x | .insert t m k x => (aeval G τ m).bind fun v => (aeval G τ k).bind fun u => (aeval G τ x).bind fun y => (aMapUpdate P T t v u y H).map (undef, ·)
  | .mapEntry t m k => (aeval G τ m).bind fun v => (aeval G τ k).bind fun u => aMapEntry P T t v u H
  | .entryStore _ m s x => (aeval G τ m).bind fun v => (aeval G τ s).bind fun u => (aeval G τ x).bind fun y => (aEntryStore v u y H).map (undef, ·)
  | .range t x => (aeval G τ x).bind fun v => aRange T t v H
  | .next x s => (aeval G τ x).bind fun v => aNext v s H
  | .extract x i => (aeval G τ x).bind fun v => (aExtract v i).map (·, H)
  | .call { callee := .builtin b, args, argTypes } => (aevals G τ args.toList).bind fun vs => aBuiltin P T b argTypes vs H
  | _ => none

/-- What an operation comes to in the world. -/
def OpOK (P : Program) (G : Nat) (μ : Mu) (H : AHeap) (w : World) (s : Sem Next) (r : Value × AHeap) : Prop :=
  ∃ n w' μ', s.run P w = .ok n w' ∧ ((∃ v', n = .value v' ∧ VRel μ' r.1 v') ∨ (n = .skip ∧ r.1 = undef)) ∧ Rel G μ' r.2 w' ∧ Tn μ H w μ' r.2 w'

theorem OpOK.of {s : Sem Value} {r : Value × AHeap} (h : Snd P G μ H w s r) : OpOK P G μ H w (do pure (.value (← s))) r := by
  obtain ⟨v', w', μ', h1, h2, h3, h4⟩ := h
  exact ⟨.value v', w', μ', by simp [h1], .inl ⟨v', rfl, h2⟩, h3, h4⟩
theorem OpOK.pure {v v' : Value} (hR : Rel G μ H w) (h : VRel μ v v') : OpOK P G μ H w (Pure.pure (.value v')) (v, H) :=
  ⟨_, w, μ, rfl, .inl ⟨v', rfl, h⟩, hR, Tn.refl hR⟩
theorem OpOK.unit {s : Sem Unit} {H' : AHeap} (h : SndU P G μ H w s H') : OpOK P G μ H w (do s; Pure.pure .skip) (undef, H') := by
  obtain ⟨w', μ', h1, h2, h3⟩ := h
  exact ⟨.skip, w', μ', by simp [h1], .inr ⟨rfl, rfl⟩, h2, h3⟩

theorem okFlat_inv {v : Option Value} {r : Value × AHeap} (h : okFlat v H = some r) : ∃ u, v = some u ∧ flat 1 u = true ∧ r = (u, H) := by
  unfold okFlat at h
  obtain ⟨u, hu, h⟩ := Option.bind_eq_some_iff.1 h
  split at h
  · rename_i hf; injection h with h; exact ⟨u, hu, hf, h.symm⟩
  · cases h

theorem min_flat {xs : List Value} {xs' : Array Value} (h : LRel μ xs xs'.toList) (hf : xs.all (flat 0) = true) : xs' = xs.toArray := by
  have := h.flat_eq hf
  apply Array.ext'
  simpa using this

theorem LRel.one_inv {x : Value} {l : List Value} (h : LRel μ [x] l) : ∃ x', l = [x'] ∧ VRel μ x x' := by
  obtain ⟨u, rfl⟩ : ∃ u, l = [u] := List.length_eq_one_iff.1 (by rw [← h.1]; rfl)
  exact ⟨u, rfl, h.2 0 (by simp)⟩
theorem LRel.two_inv {x y : Value} {l : List Value} (h : LRel μ [x, y] l) : ∃ x' y', l = [x', y'] ∧ VRel μ x x' ∧ VRel μ y y' := by
  match l, h with
  | [u, v], h => exact ⟨u, v, rfl, h.2 0 (by simp), h.2 1 (by simp)⟩
  | [], h => have := h.1; simp at this
  | [_], h => have := h.1; simp at this
  | _ :: _ :: _ :: _, h => have := h.1; simp at this

theorem min2_args (ts : Array TypeId) (ty : TypeId) (xs : Array Value) : Builtin.min_ ts ty xs = Builtin.min_ #[] 0 xs := rfl
theorem max2_args (ts : Array TypeId) (ty : TypeId) (xs : Array Value) : Builtin.max_ ts ty xs = Builtin.max_ #[] 0 xs := rfl

theorem aBuiltin_ok (hT : TbOK P T) (hR : Rel G μ H w) {b : Builtin} {ts : Array TypeId} {ty : TypeId} {cs : Array Bool} {vs : List Value} {ys : Array Value} {r : Value × AHeap} (hvs : LRel μ vs ys.toList)
    (h : aBuiltin P T b ts vs H = some r) : OpOK P G μ H w (Go.builtin b ts ty cs ys) r := by
  unfold aBuiltin at h
  split at h
  · rename_i t rest x hts
    obtain ⟨v, hv, rfl⟩ := Option.map_eq_some_iff.1 h
    obtain ⟨x', hx, hr⟩ := hvs.one_inv
    have hy : ys = #[x'] := by apply Array.ext'; simpa using hx
    subst hy
    have h0 : ts[0]? = some t := by
      have : ts.toList[0]? = some t := by rw [hts]; rfl
      simpa using this
    exact .of (aLen_ok hT hR hr hv h0)
  · rename_i t xt s x hts
    obtain ⟨s', x', hx, hr, hr2⟩ := hvs.two_inv
    have hy : ys = #[s', x'] := by apply Array.ext'; simpa using hx
    have ht : ts = #[t, xt] := by apply Array.ext'; simpa using hts
    subst hy; subst ht
    exact .of (aAppend_ok hT hR hr hr2 h)
  · rename_i t xt s x hts
    obtain ⟨s', x', hx, hr, hr2⟩ := hvs.two_inv
    have hy : ys = #[s', x'] := by apply Array.ext'; simpa using hx
    have ht : ts = #[t, xt] := by apply Array.ext'; simpa using hts
    subst hy; subst ht
    exact .of (aCopy_ok hT hR hr hr2 h)
  · rename_i t kt s x hts
    obtain ⟨H', hd, rfl⟩ := Option.map_eq_some_iff.1 h
    obtain ⟨s', x', hx, hr, hr2⟩ := hvs.two_inv
    have hy : ys = #[s', x'] := by apply Array.ext'; simpa using hx
    have ht : ts = #[t, kt] := by apply Array.ext'; simpa using hts
    subst hy; subst ht
    exact .of (aDelete_ok hT hR hr hr2 hd)
  · rename_i _ x xs
    split at h
    · rename_i hf
      obtain ⟨y, hy, hfl, rfl⟩ := okFlat_inv h
      have := min_flat hvs hf
      subst this
      refine .of (s := Builtin.min_ ts ty (x :: xs).toArray) (Snd.same hR ?_ (flat_rel 1 _ hfl))
      rw [min2_args]
      exact prun_run P _ _ hy w
    · cases h
  · rename_i _ x xs
    split at h
    · rename_i hf
      obtain ⟨y, hy, hfl, rfl⟩ := okFlat_inv h
      have := min_flat hvs hf
      subst this
      refine .of (s := Builtin.max_ ts ty (x :: xs).toArray) (Snd.same hR ?_ (flat_rel 1 _ hfl))
      rw [max2_args]
      exact prun_run P _ _ hy w
    · cases h
  · cases h

theorem aop_ok (hT : TbOK P T) (hR : Rel G μ H w) (hN : TRel μ N τ a.tmps) {o : Oper} {r : Value × AHeap} (h : aop P T G τ o.op H = some r) : OpOK P G μ H w (execOp a.eval o) r := by
  obtain ⟨dst, op, type, pos, after, guard⟩ := o
  simp only at h
  unfold aop at h
  unfold execOp
  split at h <;> simp only
  · obtain ⟨v, hv, rfl⟩ := Option.map_eq_some_iff.1 h
    exact .pure hR (aeval_ok hR hN hv)
  · obtain ⟨v, hv, rfl⟩ := Option.map_eq_some_iff.1 h
    exact .pure hR (aeval_ok hR hN hv)
  · rename_i c x y
    split at h
    · rename_i hc
      obtain ⟨v, hv, rfl⟩ := Option.map_eq_some_iff.1 h
      have hc' := flat_eq (aeval_ok hR hN hc) 0 rfl
      refine ⟨.value (a.eval x), w, μ, by simp [hc', asBool], .inl ⟨_, rfl, aeval_ok hR hN hv⟩, hR, Tn.refl hR⟩
    · rename_i hc
      obtain ⟨v, hv, rfl⟩ := Option.map_eq_some_iff.1 h
      have hc' := flat_eq (aeval_ok hR hN hc) 0 rfl
      refine ⟨.value (a.eval y), w, μ, by simp [hc', asBool], .inl ⟨_, rfl, aeval_ok hR hN hv⟩, hR, Tn.refl hR⟩
    · cases h
  · exact .of (aAlloc_ok hT hR h)
  · obtain ⟨v, hv, h⟩ := Option.bind_eq_some_iff.1 h
    exact .of (aBox_ok hR (aeval_ok hR hN hv) h)
  · rename_i t ps
    obtain ⟨vs, hv, h⟩ := Option.bind_eq_some_iff.1 h
    obtain ⟨v, hb, rfl⟩ := Option.map_eq_some_iff.1 h
    exact .of (aBuild_ok hT hR (by simpa using aparts_ok hR hN hv) hb)
  · rename_i t n ps
    obtain ⟨vs, hv, h⟩ := Option.bind_eq_some_iff.1 h
    exact .of (aBuildSlice_ok hT hR (by simpa using aparts_ok hR hN hv) h)
  · obtain ⟨v, hv, h⟩ := Option.bind_eq_some_iff.1 h
    exact .of (aLoad_ok hT hR (aeval_ok hR hN hv) h)
  · obtain ⟨v, hv, h⟩ := Option.bind_eq_some_iff.1 h
    obtain ⟨u, hu, h⟩ := Option.bind_eq_some_iff.1 h
    obtain ⟨H', hs, rfl⟩ := Option.map_eq_some_iff.1 h
    exact .unit (aStore_ok hT hR (aeval_ok hR hN hv) (aeval_ok hR hN hu) hs)
  · rename_i x
    split at h
    · rename_i p hv
      injection h with h
      subst h
      have := aeval_ok hR hN hv
      generalize a.eval x = u at *
      cases this with
      | ptr hp => exact .pure hR (.ptr hp)
    · rename_i t v hv
      injection h with h
      subst h
      have := aeval_ok hR hN hv
      generalize a.eval x = u at *
      cases this with
      | iface _ hp => exact .pure hR (.iface _ hp)
    · rename_i f c d hv
      injection h with h
      subst h
      have := aeval_ok hR hN hv
      generalize a.eval x = u at *
      cases this with
      | func _ h1 h2 h3 h4 => exact .pure hR (.func _ h1 h2 h3 h4)
    · cases h
  · obtain ⟨v, hv, h⟩ := Option.bind_eq_some_iff.1 h
    obtain ⟨u, hu, h⟩ := Option.bind_eq_some_iff.1 h
    obtain ⟨y, hy, hf, rfl⟩ := okFlat_inv h
    exact .of (aBin_ok hT hR (aeval_ok hR hN hv) (aeval_ok hR hN hu) hy hf)
  · obtain ⟨v, hv, h⟩ := Option.bind_eq_some_iff.1 h
    obtain ⟨y, hy, hf, rfl⟩ := okFlat_inv h
    exact .of (aUn_ok hR (aeval_ok hR hN hv) hy hf)
  · obtain ⟨v, hv, h⟩ := Option.bind_eq_some_iff.1 h
    exact .of (aConv_ok hT hR (aeval_ok hR hN hv) h)
  · obtain ⟨v, hv, h⟩ := Option.bind_eq_some_iff.1 h
    obtain ⟨y, hy, rfl⟩ := Option.map_eq_some_iff.1 h
    exact .of (aArrAt_ok hT hR (aeval_ok hR hN hv) hy)
  · obtain ⟨v, hv, h⟩ := Option.bind_eq_some_iff.1 h
    obtain ⟨y, hy, rfl⟩ := Option.map_eq_some_iff.1 h
    exact .of (aIface_ok hT hR (aeval_ok hR hN hv) hy)
  · rename_i fn f c
    obtain ⟨fs, hf, h⟩ := Option.bind_eq_some_iff.1 h
    obtain ⟨cs, hc, rfl⟩ := Option.map_eq_some_iff.1 h
    have k1 := (aevals_ok hR hN hf).arr
    have k2 := (aevals_ok hR hN hc).arr
    have e1 : (f.toList.map a.eval).toArray = f.map a.eval := by apply Array.ext'; simp
    have e2 : (c.toList.map a.eval).toArray = c.map a.eval := by apply Array.ext'; simp
    rw [e1] at k1
    rw [e2] at k2
    refine .of (s := Instr.makeFunc fn (f.map a.eval) (c.map a.eval)) (Snd.same hR rfl (.func fn k1.1 k2.1 k1.2 k2.2))
  · obtain ⟨v, hv, h⟩ := Option.bind_eq_some_iff.1 h
    split at h
    · rename_i k e hu
      exact .of (aMakeMap_ok hT hR hu (aopt_ok hR hN hv) h)
    · cases h
  · obtain ⟨v, hv, h⟩ := Option.bind_eq_some_iff.1 h
    obtain ⟨u, hu, h⟩ := Option.bind_eq_some_iff.1 h
    exact .of (aMakeSlice_ok hT hR (aeval_ok hR hN hv) (aeval_ok hR hN hu) h)
  · obtain ⟨v, hv, h⟩ := Option.bind_eq_some_iff.1 h
    obtain ⟨l, hl, h⟩ := Option.bind_eq_some_iff.1 h
    obtain ⟨g, hg, h⟩ := Option.bind_eq_some_iff.1 h
    obtain ⟨m, hm, h⟩ := Option.bind_eq_some_iff.1 h
    obtain ⟨y, hy, rfl⟩ := Option.map_eq_some_iff.1 h
    exact .of (aSlice_ok hT hR (aeval_ok hR hN hv) (aopt_ok hR hN hl) (aopt_ok hR hN hg) (aopt_ok hR hN hm) hy)
  · obtain ⟨v, hv, h⟩ := Option.bind_eq_some_iff.1 h
    obtain ⟨y, hy, rfl⟩ := Option.map_eq_some_iff.1 h
    exact .of (aFieldAddr_ok hT hR (aeval_ok hR hN hv) hy)
  · obtain ⟨v, hv, h⟩ := Option.bind_eq_some_iff.1 h
    obtain ⟨y, hy, rfl⟩ := Option.map_eq_some_iff.1 h
    exact .of (aField_ok hT hR (aeval_ok hR hN hv) hy)
  · obtain ⟨v, hv, h⟩ := Option.bind_eq_some_iff.1 h
    obtain ⟨u, hu, h⟩ := Option.bind_eq_some_iff.1 h
    obtain ⟨y, hy, rfl⟩ := Option.map_eq_some_iff.1 h
    exact .of (aIndexAddr_ok hT hR (aeval_ok hR hN hv) (aeval_ok hR hN hu) hy)
  · obtain ⟨v, hv, h⟩ := Option.bind_eq_some_iff.1 h
    obtain ⟨u, hu, h⟩ := Option.bind_eq_some_iff.1 h
    obtain ⟨y, hy, rfl⟩ := Option.map_eq_some_iff.1 h
    exact .of (aIndex_ok hT hR (aeval_ok hR hN hv) (aeval_ok hR hN hu) hy)
  · obtain ⟨v, hv, h⟩ := Option.bind_eq_some_iff.1 h
    obtain ⟨u, hu, h⟩ := Option.bind_eq_some_iff.1 h
    obtain ⟨y, hy, rfl⟩ := Option.map_eq_some_iff.1 h
    exact .of (aLookup_ok hT hR (aeval_ok hR hN hv) (aeval_ok hR hN hu) hy)
  · obtain ⟨v, hv, h⟩ := Option.bind_eq_some_iff.1 h
    obtain ⟨u, hu, h⟩ := Option.bind_eq_some_iff.1 h
    obtain ⟨y, hy, h⟩ := Option.bind_eq_some_iff.1 h
    obtain ⟨H', hs, rfl⟩ := Option.map_eq_some_iff.1 h
    exact .unit (aMapUpdate_ok hT hR (aeval_ok hR hN hv) (aeval_ok hR hN hu) (aeval_ok hR hN hy) hs)
  · obtain ⟨v, hv, h⟩ := Option.bind_eq_some_iff.1 h
    obtain ⟨u, hu, h⟩ := Option.bind_eq_some_iff.1 h
    obtain ⟨y, hy, h⟩ := Option.bind_eq_some_iff.1 h
    obtain ⟨H', hs, rfl⟩ := Option.map_eq_some_iff.1 h
    exact .unit (aMapUpdate_ok hT hR (aeval_ok hR hN hv) (aeval_ok hR hN hu) (aeval_ok hR hN hy) hs)
  · obtain ⟨v, hv, h⟩ := Option.bind_eq_some_iff.1 h
    obtain ⟨u, hu, h⟩ := Option.bind_eq_some_iff.1 h
    exact .of (aMapEntry_ok hT hR (aeval_ok hR hN hv) (aeval_ok hR hN hu) h)
  · obtain ⟨v, hv, h⟩ := Option.bind_eq_some_iff.1 h
    obtain ⟨u, hu, h⟩ := Option.bind_eq_some_iff.1 h
    obtain ⟨y, hy, h⟩ := Option.bind_eq_some_iff.1 h
    obtain ⟨H', hs, rfl⟩ := Option.map_eq_some_iff.1 h
    exact .unit (aEntryStore_ok hR (aeval_ok hR hN hv) (aeval_ok hR hN hu) (aeval_ok hR hN hy) hs)
  · obtain ⟨v, hv, h⟩ := Option.bind_eq_some_iff.1 h
    exact .of (aRange_ok hT hR (aeval_ok hR hN hv) h)
  · obtain ⟨v, hv, h⟩ := Option.bind_eq_some_iff.1 h
    exact .of (aNext_ok hR (aeval_ok hR hN hv) h)
  · obtain ⟨v, hv, h⟩ := Option.bind_eq_some_iff.1 h
    obtain ⟨y, hy, rfl⟩ := Option.map_eq_some_iff.1 h
    exact .of (aExtract_ok hR (aeval_ok hR hN hv) hy)
  · rename_i b args ts
    obtain ⟨vs, hv, h⟩ := Option.bind_eq_some_iff.1 h
    have hvs := aevals_ok hR hN hv
    have e1 : (args.map a.eval).toList = args.toList.map a.eval := by simp
    rw [← e1] at hvs
    simp only [resolve, pure_bind, invoke]
    exact aBuiltin_ok hT hR hvs h
  · cases h

end
end Go.Eng
set_option linter.unusedVariables false
set_option linter.unusedSimpArgs false
namespace Go.Eng
open Go

/-- A state of a function: its places, the heap. -/
abbrev Post := Exit → Tmps → AHeap → Prop

section
variable {P : Program} {G : Nat} {T : Tb} {N : Nat}

/-- From (μ, H, w) on: a state later, of which Q holds. -/
def Lift (G : Nat) (N : Nat) (μ : Mu) (H : AHeap) (w : World) (Q : Post) : Exit → Act → World → Prop := fun e a' w' =>
  ∃ τ' H' μ', Rel G μ' H' w' ∧ TRel μ' N τ' a'.tmps ∧ a'.defers = [] ∧ Tn μ H w μ' H' w' ∧ Q e τ' H'

/-- Whatever world says the same: behind the code Q holds. -/
def ACode (P : Program) (G N : Nat) (c : Code) (Q : Post) (τ : Tmps) (H : AHeap) : Prop :=
  ∀ μ a w, Rel G μ H w → TRel μ N τ a.tmps → a.defers = [] → c.wp P (Lift G N μ H w Q) a w

def ACalls (P : Program) (G : Nat) (f : FuncId) (args : List Value) (H : AHeap) (Q : Value → AHeap → Prop) : Prop :=
  ∀ μ w (args' : Array Value), Rel G μ H w → LRel μ args args'.toList → Calls P f args' w fun e w' =>
    ∃ v v' H' μ', e = .returned v' ∧ VRel μ' v v' ∧ Rel G μ' H' w' ∧ Tn μ H w μ' H' w' ∧ Q v H'

theorem ACalls.mono {f : FuncId} {args : List Value} {H : AHeap} {Q Q' : Value → AHeap → Prop} (h : ACalls P G f args H Q) (hq : ∀ v H', Q v H' → Q' v H') : ACalls P G f args H Q' :=
  fun μ w args' hR hA => (h μ w args' hR hA).mono fun _ _ ⟨v, v', H', μ', e1, e2, e3, e4, e5⟩ => ⟨v, v', H', μ', e1, e2, e3, e4, hq _ _ e5⟩

theorem ACode.mono {c : Code} {Q Q' : Post} {τ : Tmps} {H : AHeap} (h : ACode P G N c Q τ H) (hq : ∀ e τ H, Q e τ H → Q' e τ H) : ACode P G N c Q' τ H :=
  fun μ a w hR hT hd => wp_mono (h μ a w hR hT hd) fun _ _ _ ⟨τ', H', μ', e1, e2, e3, e4, e5⟩ => ⟨τ', H', μ', e1, e2, e3, e4, hq _ _ _ e5⟩

theorem Lift.of {Q : Post} {e : Exit} {τ : Tmps} {H : AHeap} {μ : Mu} {a : Act} {w : World} (hR : Rel G μ H w) (hT : TRel μ N τ a.tmps) (hd : a.defers = []) (h : Q e τ H) : Lift G N μ H w Q e a w :=
  ⟨τ, H, μ, hR, hT, hd, Tn.refl hR, h⟩
theorem Lift.later {Q : Post} {e : Exit} {μ μ1 : Mu} {H H1 : AHeap} {w w1 w2 : World} {a2 : Act} (t : Tn μ H w μ1 H1 w1) (h : Lift G N μ1 H1 w1 Q e a2 w2) : Lift G N μ H w Q e a2 w2 := by
  obtain ⟨τ', H', μ', e1, e2, e3, e4, e5⟩ := h
  exact ⟨τ', H', μ', e1, e2, e3, t.trans e4, e5⟩

theorem acode_skip {Q : Post} {τ : Tmps} {H : AHeap} (h : Q .normal τ H) : ACode P G N .skip Q τ H := fun μ a w hR hT hd => wp_skip (Lift.of hR hT hd h)
theorem acode_label {Q : Post} {τ : Tmps} {H : AHeap} {l : Nat} (h : Q .normal τ H) : ACode P G N (.label l) Q τ H := fun μ a w hR hT hd => wp_label (Lift.of hR hT hd h)
theorem acode_exit {Q : Post} {τ : Tmps} {H : AHeap} {id : Nat} (h : Q (.exit id) τ H) : ACode P G N (.exit id) Q τ H := fun μ a w hR hT hd => wp_exit (Lift.of hR hT hd h)
theorem acode_ret {Q : Post} {τ : Tmps} {H : AHeap} (h : Q .ret τ H) : ACode P G N .ret Q τ H := fun μ a w hR hT hd => wp_ret (Lift.of hR hT hd h)

/-- What goes on where the first part ends as it should. -/
def thenQ (K : Tmps → AHeap → Prop) (Q : Post) : Post
  | .normal, τ, H => K τ H
  | e, τ, H => Q e τ H
theorem acode_seq {x y : Code} {Q : Post} {τ : Tmps} {H : AHeap} (h : ACode P G N x (thenQ (ACode P G N y Q) Q) τ H) : ACode P G N (.seq x y) Q τ H := fun μ a w hR hT hd => by
  refine wp_seq (wp_mono (h μ a w hR hT hd) ?_)
  rintro e a' w' ⟨τ', H', μ', e1, e2, e3, e4, e5⟩
  cases e with
  | normal => exact wp_mono (e5 μ' a' w' e1 e2 e3) fun _ _ _ h => h.later e4
  | _ => exact ⟨τ', H', μ', e1, e2, e3, e4, e5⟩

theorem acode_cond {c : Operand} {x y : Code} {b : Bool} {Q : Post} {τ : Tmps} {H : AHeap} (hc : aeval G τ c = some (.bool b)) (h : ACode P G N (if b then x else y) Q τ H) : ACode P G N (.cond c x y) Q τ H := fun μ a w hR hT hd => by
  have := flat_eq (aeval_ok hR hT hc) 0 rfl
  exact wp_cond this (h μ a w hR hT hd)

def blockQ (id : Nat) (Q : Post) : Post
  | .exit i, τ, H => if i = id then Q .normal τ H else Q (.exit i) τ H
  | e, τ, H => Q e τ H
theorem acode_block {id : Nat} {c : Code} {Q : Post} {τ : Tmps} {H : AHeap} (h : ACode P G N c (blockQ id Q) τ H) : ACode P G N (.block id c) Q τ H := fun μ a w hR hT hd => by
  refine wp_block (wp_mono (h μ a w hR hT hd) ?_)
  rintro e a' w' ⟨τ', H', μ', e1, e2, e3, e4, e5⟩
  cases e with
  | exit i =>
    simp only [Exit.inBlock]
    simp only [blockQ] at e5
    split
    · rename_i hi; rw [if_pos hi] at e5; exact ⟨τ', H', μ', e1, e2, e3, e4, e5⟩
    · rename_i hi; rw [if_neg hi] at e5; exact ⟨τ', H', μ', e1, e2, e3, e4, e5⟩
  | _ => exact ⟨τ', H', μ', e1, e2, e3, e4, e5⟩

/-- A loop: a relation with a number that every round lowers. -/
theorem acode_loop {c : Code} {Q : Post} (I : Nat → Tmps → AHeap → Prop) (round : ∀ n τ H, I n τ H → ACode P G N c (thenQ (fun τ' H' => ∃ m, m < n ∧ I m τ' H') Q) τ H) {n : Nat} {τ : Tmps} {H : AHeap} (h : I n τ H) :
    ACode P G N (.loop c) Q τ H := fun μ a w hR hT hd => by
  intro b k cs
  have key : ∀ n μ a w τ1 H1, I n τ1 H1 → Rel G μ H1 w → TRel μ N τ1 a.tmps → a.defers = [] →
      ∃ e a' w', Lift G N μ H1 w Q e a' w' ∧ Arrives P (lone (b.at a (.code c :: .inLoop c :: k)) cs w) b k cs e a' w' := by
    intro n
    induction n using Nat.strongRecOn with
    | _ n ih =>
      intro μ a w τ1 H1 hI hR hT hd
      obtain ⟨e, a₁, w₁, ⟨τ', H', μ', e1, e2, e3, e4, e5⟩, harr⟩ := round n τ1 H1 hI μ a w hR hT hd b (.inLoop c :: k) cs
      cases e with
      | normal =>
        obtain ⟨m, hm, hI'⟩ := e5
        obtain ⟨e₂, a₂, w₂, hq₂, harr₂⟩ := ih m hm μ' a₁ w₁ τ' H' hI' e1 e2 e3
        exact ⟨e₂, a₂, w₂, hq₂.later e4, .of_steps (Steps.trans harr (.one step_inLoop)) harr₂⟩
      | exit id => exact ⟨_, a₁, w₁, ⟨τ', H', μ', e1, e2, e3, e4, e5⟩, .pass (x := .inLoop c) rfl (fun _ _ => .inl (by simp)) harr⟩
      | goto l => exact ⟨_, a₁, w₁, ⟨τ', H', μ', e1, e2, e3, e4, e5⟩, .pass (x := .inLoop c) rfl (fun _ _ => .inl (by simp)) harr⟩
      | ret => exact ⟨_, a₁, w₁, ⟨τ', H', μ', e1, e2, e3, e4, e5⟩, .pass (x := .inLoop c) rfl (fun _ _ => .inl (by simp)) harr⟩
      | panic ch => exact ⟨_, a₁, w₁, ⟨τ', H', μ', e1, e2, e3, e4, e5⟩, .pass (x := .inLoop c) rfl (fun _ _ => .inl (by simp)) harr⟩
      | outgrown => exact ⟨_, a₁, w₁, ⟨τ', H', μ', e1, e2, e3, e4, e5⟩, .pass (x := .inLoop c) rfl (fun _ _ => .inl (by simp)) harr⟩
  obtain ⟨e, a', w', hq, harr⟩ := key n μ a w τ H h hR hT hd
  exact ⟨e, a', w', hq, .of_steps (.one step_loop) harr⟩

/-! ### Operations in a row -/
def awanted (ops : Array Oper) (τ : Tmps) (o : Oper) : Option Bool :=
  match o.guard with
  | none => some true
  | some (j, want) => match (ops[j]?).bind (·.dst) with
    | some d => match tget τ d with
      | .bool b => some (b == want)
      | .tuple _ => some false
      | _ => none
    | none => none
theorem awanted_ok {ops : Array Oper} {τ : Tmps} {o : Oper} {b : Bool} {μ : Mu} {tmps : Array Value} (hT : TRel μ N τ tmps) (h : awanted ops τ o = some b) : Region.wanted o (yielded ops tmps) = b := by
  unfold awanted at h
  unfold Region.wanted
  split at h
  · rename_i hg; injection h with h; subst h; simp [hg]
  · rename_i j want hg
    rw [hg]
    simp only
    split at h
    · rename_i d hd
      split at h
      · rename_i c hc
        injection h with h
        subst h
        have hr := hT.at_ d
        rw [hc] at hr
        have e := flat_eq hr 0 rfl
        have hlt : d < tmps.size := by
          rcases Nat.lt_or_ge d tmps.size with h | h
          · exact h
          · have : tmps.getD d undef = undef := by simp [Array.getD, Nat.not_lt.2 h]
            rw [this] at e
            cases e
        have e2 : tmps[d]? = some (.bool c) := by rw [getD_some hlt, e]
        simp [yielded, hd, e2]
      · rename_i cs hc
        injection h with h
        subst h
        have hr := hT.at_ d
        rw [hc] at hr
        cases hd2 : tmps[d]? with
        | none => simp [yielded, hd, hd2]
        | some u =>
          have : tmps.getD d undef = u := by simp [Array.getD_eq_getD_getElem?, hd2]
          rw [this] at hr
          cases hr with
          | tuple _ _ => simp [yielded, hd, hd2]
      · cases h
    · cases h

def aput (N : Nat) (dst : Option Tmp) (v : Value) (τ : Tmps) : Option Tmps :=
  match dst with
  | none => some τ
  | some d => if d < N then some (τ.put d (some v)) else none
theorem tget_put (τ : Tmps) (d t : Nat) (v : Value) : tget (τ.put d (some v)) t = if t = d then v else tget τ t := by
  unfold tget; rw [Tr.get_put]; split <;> rfl
theorem aput_ok {dst : Option Tmp} {v v' : Value} {τ τ' : Tmps} {μ : Mu} {a : Act} (hT : TRel μ N τ a.tmps) (hv : VRel μ v v') (h : aput N dst v τ = some τ') : TRel μ N τ' (a.put dst v').tmps := by
  unfold aput at h
  split at h
  · injection h with h; subst h; exact hT
  · rename_i d
    split at h
    · rename_i hd
      injection h with h
      subst h
      refine ⟨by simp [Act.put, hT.size], fun t => ?_⟩
      rw [tget_put]
      have hlt : d < a.tmps.size := by rw [hT.size]; exact hd
      split
      · rename_i e
        subst e
        simpa [Act.put, Array.getD_eq_getD_getElem?, hlt] using hv
      · rename_i e
        have := hT.at_ t
        simpa [Act.put, Array.getD_eq_getD_getElem?, Array.getElem?_setIfInBounds_ne (Ne.symm e)] using this
    · cases h
theorem put_defers (a : Act) (dst : Option Tmp) (v : Value) : (a.put dst v).defers = a.defers := by cases dst <;> rfl

/-- Behind the rest of a region. -/
def AOps (P : Program) (G N : Nat) (ops : Array Oper) (Q : Post) (l : List Oper) (τ : Tmps) (H : AHeap) : Prop :=
  ∀ μ a w, Rel G μ H w → TRel μ N τ a.tmps → a.defers = [] → wpList P ops (Lift G N μ H w Q) l a w

theorem wpList_mono {ops : Array Oper} {Q Q' : Exit → Act → World → Prop} (hq : ∀ e a w, Q e a w → Q' e a w) : ∀ (l : List Oper) (a : Act) (w : World), wpList P ops Q l a w → wpList P ops Q' l a w := by
  intro l
  induction l with
  | nil => intro a w h; exact hq _ _ _ h
  | cons o l ih =>
    intro a w h
    unfold wpList at h ⊢
    split
    · rename_i hw
      rw [if_pos hw] at h
      rcases h with h | ⟨h1, a1, w1, h2⟩
      · left
        unfold Oper.wp at *
        generalize (execOp a.eval o).run P w = r at *
        cases r with
        | ok n w' =>
          cases n <;> simp only [Oper.upon] at h ⊢ <;>
            first
              | exact ih _ _ h
              | (refine Calls.mono h fun e w'' he => ?_; cases e <;> first | exact ih _ _ he | exact hq _ _ _ he | (obtain ⟨a1, w1, h2⟩ := he; exact ⟨a1, w1, hq _ _ _ h2⟩))
              | exact Rows.mono h fun _ _ he => ih _ _ he
        | halt x w' => cases x <;> simp only [Oper.upon] at h ⊢ <;> exact hq _ _ _ h
      · exact .inr ⟨h1, a1, w1, hq _ _ _ h2⟩
    · rename_i hw
      rw [if_neg hw] at h
      exact ih _ _ h

theorem acode_region {id : Nat} {ops : Array Oper} {Q : Post} {τ : Tmps} {H : AHeap} (h : AOps P G N ops Q ops.toList τ H) : ACode P G N (.region id ops false) Q τ H := fun μ a w hR hT hd =>
  wp_region_list (h μ a w hR hT hd)
theorem aops_nil {ops : Array Oper} {Q : Post} {τ : Tmps} {H : AHeap} (h : Q .normal τ H) : AOps P G N ops Q [] τ H := fun μ a w hR hT hd => Lift.of hR hT hd h

theorem aops_skip {ops : Array Oper} {Q : Post} {o : Oper} {l : List Oper} {τ τ' : Tmps} {H : AHeap} (hw : awanted ops τ o = some false) (hp : aput N o.dst undef τ = some τ') (h : AOps P G N ops Q l τ' H) : AOps P G N ops Q (o :: l) τ H :=
  fun μ a w hR hT hd => by
  unfold wpList
  rw [awanted_ok hT hw, if_neg (by simp)]
  exact h μ _ w hR (aput_ok hT (.undef μ) hp) (by rw [put_defers]; exact hd)

/-- An operation that calls nothing. -/
theorem aops_op (hTb : TbOK P T) {ops : Array Oper} {Q : Post} {o : Oper} {l : List Oper} {τ τ' : Tmps} {H : AHeap} {r : Value × AHeap} (hw : awanted ops τ o = some true) (ho : aop P T G τ o.op H = some r) (hp : aput N o.dst r.1 τ = some τ')
    (h : AOps P G N ops Q l τ' r.2) : AOps P G N ops Q (o :: l) τ H := fun μ a w hR hT hd => by
  unfold wpList
  rw [awanted_ok hT hw, if_pos rfl]
  left
  obtain ⟨n, w', μ', h1, h2, h3, h4⟩ := aop_ok (a := a) hTb hR hT ho
  unfold Oper.wp
  rw [h1]
  rcases h2 with ⟨v', rfl, hv⟩ | ⟨rfl, hv⟩
  · simp only [Oper.upon]
    refine wpList_mono (fun _ _ _ h => h.later h4) _ _ _ (h μ' _ w' h3 (aput_ok (hT.mono h4.le) hv hp) (by rw [put_defers]; exact hd))
  · simp only [Oper.upon]
    refine wpList_mono (fun _ _ _ h => h.later h4) _ _ _ (h μ' _ w' h3 (aput_ok (hT.mono h4.le) (by rw [hv]; exact .undef μ') hp) (by rw [put_defers]; exact hd))

/-- What is called, and with what. -/
def acallee (G : Nat) (τ : Tmps) : Op → Option (FuncId × List Value)
  | .call { callee := .value f, args, .. } =>
    match aeval G τ f, aevals G τ args.toList with
    | some (.func (.func g) first cap), some vs => some (g, first.toList ++ vs ++ cap.toList)
    | _, _ => none
  | _ => none

theorem acallee_ok {o : Oper} {g : FuncId} {vs : List Value} {τ : Tmps} {H : AHeap} {μ : Mu} {a : Act} {w : World} (hR : Rel G μ H w) (hT : TRel μ N τ a.tmps) (h : acallee G τ o.op = some (g, vs)) :
    ∃ vs' : Array Value, LRel μ vs vs'.toList ∧ execOp a.eval o = callFunc g vs' := by
  obtain ⟨dst, op, type, pos, after, guard⟩ := o
  simp only at h
  unfold acallee at h
  split at h
  · rename_i f args ts
    split at h
    · rename_i g' first cap us hf hus
      injection h with h
      injection h with h1 h2
      subst h1
      subst h2
      have k1 := aeval_ok hR hT hf
      have k2 := aevals_ok hR hT hus
      cases hev : a.eval f with
      | func fn f' c' =>
        rw [hev] at k1
        cases k1 with
        | func _ a1 a2 a3 a4 =>
          have e1 : (args.map a.eval).toList = args.toList.map a.eval := by simp
          refine ⟨f' ++ args.map a.eval ++ c', ?_, ?_⟩
          · have := ((ARel.list ⟨a1, a3⟩).append k2).append (ARel.list ⟨a2, a4⟩)
            simpa using this
          · simp [execOp, resolve, hev, Deferred.ofValue, invoke]
      | _ => rw [hev] at k1; cases k1
    · cases h
  · cases h

/-- A call by its contract. -/
theorem aops_call {ops : Array Oper} {Q : Post} {o : Oper} {l : List Oper} {τ : Tmps} {H : AHeap} {g : FuncId} {vs : List Value} {fn : Func} {K : Value → AHeap → Prop} (hw : awanted ops τ o = some true) (ho : acallee G τ o.op = some (g, vs))
    (hf : P.funcs[g]? = some fn) (hb : fn.body.isSome = true) (hn : (fn.name == "runtime.NumGoroutine") = false) (hc : ACalls P G g vs H K) (h : ∀ v H', K v H' → ∃ τ', aput N o.dst v τ = some τ' ∧ AOps P G N ops Q l τ' H') :
    AOps P G N ops Q (o :: l) τ H := fun μ a w hR hT hd => by
  unfold wpList
  rw [awanted_ok hT hw, if_pos rfl]
  left
  obtain ⟨vs', k1, k2⟩ := acallee_ok (a := a) hR hT ho
  unfold Oper.wp
  obtain ⟨cb, hcb⟩ := Option.isSome_iff_exists.1 hb
  have hrun : (callFunc g vs').run P w = .ok (.enter g vs') w := by
    have hn' : fn.name ≠ "runtime.NumGoroutine" := by simpa using hn
    simp [callFunc, hf, hn', hcb]
  rw [k2, hrun]
  simp only [Oper.upon]
  refine (hc μ w vs' hR k1).mono ?_
  rintro e w' ⟨v, v', H', μ', rfl, q1, q2, q3, q4⟩
  obtain ⟨τ', p1, p2⟩ := h v H' q4
  exact wpList_mono (fun _ _ _ h => h.later q3) _ _ _ (p2 μ' _ w' q2 (aput_ok (hT.mono q3.le) q1 p1) (by rw [put_defers]; exact hd))

/-- A call of a function without a Go body, that touches no memory. -/
theorem aops_ext {ops : Array Oper} {Q : Post} {o : Oper} {l : List Oper} {τ τ' : Tmps} {H : AHeap} {g : FuncId} {vs : List Value} {v : Value} (hw : awanted ops τ o = some true) (ho : acallee G τ o.op = some (g, vs)) (hfl : vs.all (flat 0) = true)
    (hx : prun P (callFunc g vs.toArray) = some (.value v)) (hv : flat 1 v = true) (hp : aput N o.dst v τ = some τ') (h : AOps P G N ops Q l τ' H) : AOps P G N ops Q (o :: l) τ H := fun μ a w hR hT hd => by
  unfold wpList
  rw [awanted_ok hT hw, if_pos rfl]
  left
  obtain ⟨vs', k1, k2⟩ := acallee_ok (a := a) hR hT ho
  have e : vs' = vs.toArray := min_flat k1 hfl
  subst e
  unfold Oper.wp
  rw [k2, prun_run P _ _ hx w]
  simp only [Oper.upon]
  exact h μ _ w hR (aput_ok hT (flat_rel 1 _ hv) hp) (by rw [put_defers]; exact hd)

/-! ### A function -/
def initT : Nat → List Value → Tmps
  | _, [] => .lf
  | k, v :: l => (initT (k + 1) l).put k (some v)
theorem initT_get : ∀ (l : List Value) (k t : Nat), tget (initT k l) t = if k ≤ t then l.getD (t - k) unk else unk := by
  intro l
  induction l with
  | nil => intro k t; simp [initT, tget, Tr.get_lf]
  | cons v l ih =>
    intro k t
    simp only [initT]
    rw [tget_put, ih]
    by_cases e : t = k
    · subst e; simp
    · rw [if_neg e]
      by_cases e2 : k ≤ t
      · rw [if_pos (by omega), if_pos e2, show t - k = (t - (k + 1)) + 1 by omega]
        simp
      · rw [if_neg (by omega), if_neg e2]

/-- The results. -/
def aresults (T : Tb) (τ : Tmps) (H : AHeap) : List ResultVar → Option (List Value)
  | [] => some []
  | .tmp t :: l => (aresults T τ H l).map (tget τ t :: ·)
  | .cell a t :: l => match aLoad T t (tget τ a) H, aresults T τ H l with
    | some (v, _), some vs => some (v :: vs)
    | _, _ => none
def wrapR : List Value → Value
  | [v] => v
  | vs => .tuple vs.toArray

theorem wrapR_rel {μ : Mu} {vs vs' : List Value} (h : LRel μ vs vs') : VRel μ (wrapR vs) (wrapR vs') := by
  unfold wrapR
  split
  · obtain ⟨x', rfl, hx⟩ := h.one_inv
    exact hx
  · rename_i hne
    split
    · rename_i v
      obtain ⟨u, rfl⟩ : ∃ u, vs = [u] := List.length_eq_one_iff.1 (by rw [h.1]; rfl)
      exact absurd rfl (hne u)
    · exact .tuple h.arr.1 h.arr.2
theorem wrapR_eq (vs : List Value) : (if h : vs.toArray.size = 1 then vs.toArray[0] else .tuple vs.toArray) = wrapR vs := by
  match vs with
  | [] => rfl
  | [v] => rfl
  | _ :: _ :: _ => simp [wrapR]
def resF (tmps : Array Value) : ResultVar → Sem Value
  | .tmp t => pure (tmps.getD t undef)
  | .cell a t => do loadVar t (← asAddr (tmps.getD a undef))
theorem results_eq (fn : Func) (tmps : Array Value) : results fn tmps = (do
    let vs ← fn.results.mapM (resF tmps)
    pure (if h : vs.size = 1 then vs[0] else .tuple vs)) := by
  have key : ∀ F : ResultVar → Sem Value, (∀ x, F x = resF tmps x) → (do
      let vs ← fn.results.mapM F
      pure (if h : vs.size = 1 then vs[0] else .tuple vs) : Sem Value) = (do
      let vs ← fn.results.mapM (resF tmps)
      pure (if h : vs.size = 1 then vs[0] else .tuple vs)) := fun F h => by rw [funext h]
  exact key _ fun x => by cases x <;> rfl
theorem results_ok (hTb : TbOK P T) {τ : Tmps} {H : AHeap} {μ : Mu} {w : World} {tmps : Array Value} (hR : Rel G μ H w) (hT : TRel μ N τ tmps) : ∀ (l : List ResultVar) (vs : List Value), aresults T τ H l = some vs →
    ∃ vs', LRel μ vs vs' ∧ (l.mapM (resF tmps)).run P w = .ok vs' w := by
  intro l
  induction l with
  | nil => intro vs h; injection h with h; subst h; exact ⟨[], LRel.nil, rfl⟩
  | cons x l ih =>
    intro vs h
    cases x with
    | tmp t =>
      simp only [aresults] at h
      obtain ⟨us, hu, rfl⟩ := Option.map_eq_some_iff.1 h
      obtain ⟨vs', k1, k2⟩ := ih us hu
      exact ⟨_ :: vs', LRel.cons (hT.at_ t) k1, by simp only [List.mapM_cons, resF, Sem.run_bind, Sem.run_pure, Result.andThen_ok, k2]⟩
    | cell a t =>
      simp only [aresults] at h
      split at h
      · rename_i v H0 us hv hu
        injection h with h
        subst h
        obtain ⟨vs', k1, k2⟩ := ih us hu
        obtain ⟨v1, v', q1, q2, q3, b, q4⟩ := aLoad_same (P := P) hTb hR (hT.at_ a) hv
        injection q1 with q1 _
        subst q1
        have q5 : (do loadVar t (← asAddr (tmps.getD a undef)) : Sem Value).run P w = .ok v' w := by
          rw [q4] at q3 ⊢
          exact q3
        exact ⟨v' :: vs', LRel.cons q2 k1, by simp only [List.mapM_cons, resF, Sem.run_bind (x := (do loadVar t (← asAddr (tmps.getD a undef)) : Sem Value)), q5, Sem.run_bind, Sem.run_pure, Result.andThen_ok, k2]⟩
      · cases h

theorem acalls_of (hTb : TbOK P T) {f : FuncId} {fn : Func} {c : Code} {args : List Value} {H : AHeap} {Q : Value → AHeap → Prop} (hf : P.funcs[f]? = some fn) (hb : fn.body = some c) (hN : args.length ≤ fn.ntmps)
    (h : ACode P G fn.ntmps c (fun e τ H' => (e = .normal ∨ e = .ret) ∧ ∃ vs, aresults T τ H' fn.results.toList = some vs ∧ Q (wrapR vs) H') (initT 0 args) H) : ACalls P G f args H Q := fun μ w args' hR hA => by
  refine calls_of_wp hf hb (wp_mono (h μ { tmps := args' ++ Array.replicate (fn.ntmps - args'.size) undef, defers := [] } w hR ?_ rfl) ?_)
  · have hs : args.length = args'.size := by have := hA.1; simpa using this
    refine ⟨by simp; omega, fun t => ?_⟩
    rw [initT_get, if_pos (Nat.zero_le _), Nat.sub_zero]
    by_cases e : t < args.length
    · have := hA.2 t e
      have e0 : args.getD t unk = args.getD t undef := by simp [List.getD_eq_getElem?_getD, e]
      rw [e0]
      simpa [Array.getD_eq_getD_getElem?, List.getD_eq_getElem?_getD, Array.getElem?_append, show t < args'.size by omega] using this
    · have e1 : args.getD t unk = unk := by simp [List.getD_eq_getElem?_getD, List.getElem?_eq_none (Nat.le_of_not_lt e)]
      rw [e1]
      exact .any _
  · rintro e a' w' ⟨τ', H', μ', e1, e2, e3, e4, e5, vs, e6, e7⟩
    obtain ⟨vs', k1, k2⟩ := results_ok (P := P) hTb e1 e2 _ vs e6
    have hres : ∃ v', (results fn a'.tmps).run P w' = .ok v' w' ∧ VRel μ' (wrapR vs) v' := by
      refine ⟨wrapR vs', ?_, wrapR_rel k1⟩
      rw [results_eq, Array.mapM_eq_mapM_toList]
      simp only [Sem.run_bind, Sem.run_map, k2, Result.andThen_ok, Sem.run_pure, wrapR_eq]
    obtain ⟨v', r1, r2⟩ := hres
    have : a'.defers = [] ∧ ∃ v, (results fn a'.tmps).run P w' = .ok v w' ∧ (∃ v0 v' H' μ', Ending.returned v = .returned v' ∧ VRel μ' v0 v' ∧ Rel G μ' H' w' ∧ Tn μ H w μ' H' w' ∧ Q v0 H') :=
      ⟨e3, v', r1, wrapR vs, v', H', μ', rfl, r2, e1, e4, e7⟩
    rcases e5 with rfl | rfl <;> exact this

end
end Go.Eng
set_option linter.unusedVariables false
set_option linter.unusedSimpArgs false
namespace Go.Eng
open Go

def AObj.shut : AObj → Option AObj
  | .cells cs _ par gs => some (.cells cs true par gs)
  | .map es k _ => some (.map es k true)
  | .iter _ _ => none
def Mu.upto (μ : Mu) (n : Nat) : Mu := fun i => if i < n then μ i else none

theorem shut_par {o o' : AObj} (h : o.shut = some o') : o'.par = o.par ∧ o'.len = o.len ∧ o'.alive = false := by
  cases o <;> simp [AObj.shut] at h <;> subst h <;> exact ⟨rfl, rfl, rfl⟩
theorem shut_obj {o o' : AObj} {μ : Mu} {x : Obj} {p : Pl} (h : o.shut = some o') (k : ObjRel μ o x p) : ObjRel μ o' x p := by
  cases k with
  | cells a1 a2 a3 a4 a5 a6 a7 => simp [AObj.shut] at h; subst h; exact .cells a1 a2 a3 a4 a5 (fun e => by cases e) a7
  | map a b => simp [AObj.shut] at h; subst h; exact .map a b
  | iter _ _ _ => cases h

/-- A part of a heap: its objects as they are, or shut. -/
structure View (H V : AHeap) (n : Nat) : Prop where
  next : V.next = n
  sub : ∀ i o', V.get i = some o' → ∃ o, H.get i = some o ∧ (o' = o ∨ o.shut = some o')
  closed : ∀ k o i, V.get k = some o → o.alive = true → i ∈ o.par → ∀ oi, H.get i = some oi → V.get i = some oi

section
variable {P : Program} {G : Nat} {μ0 μ μ' : Mu} {H0 H V R H' : AHeap} {w0 w w' : World} {n m : Nat}

/-- What holds of the heap behind a step on the part. -/
structure Over (H V R H' : AHeap) (n m : Nat) : Prop where
  next : H'.next = H.next
  same : ∀ i o, V.get i = some o → H.get i = some o → H'.get i = R.get i
  shut : ∀ i o o', V.get i = some o' → H.get i = some o → o' ≠ o → H'.get i = some o
  new : ∀ i, V.get i = none → n ≤ i → i < m → H'.get i = R.get i
  rest : ∀ i, V.get i = none → ¬ (n ≤ i ∧ i < m) → H'.get i = H.get i

def Mu.over (μ μ' : Mu) (n m : Nat) : Mu := fun i => if n ≤ i ∧ i < m then μ' i else μ i

theorem over_ok (t0 : Tn μ0 H0 w0 μ H w) (hR : Rel G μ H w) (hn : H0.next ≤ n) (hnm : n ≤ m) (hm : m ≤ H.next) (hfree : ∀ i, n ≤ i → i < m → μ i = none) (hv : View H V n)
    (hRV : Rel G (μ.upto n) V w) (hRR : Rel G μ' R w') (t : Tn (μ.upto n) V w μ' R w') (hRn : R.next ≤ m) (ho : Over H V R H' n m) :
    Rel G (μ.over μ' n m) H' w' ∧ Tn μ0 H0 w0 (μ.over μ' n m) H' w' ∧ μ.le (μ.over μ' n m) ∧ μ'.le (μ.over μ' n m) ∧ (∀ i, i < n → (μ.over μ' n m) i = μ i) ∧ (∀ i, m ≤ i → (μ.over μ' n m) i = μ i) := by
  have lo : ∀ i, i < n → (μ.over μ' n m) i = μ i := fun i hi => by simp only [Mu.over]; rw [if_neg (by omega)]
  have hi' : ∀ i, m ≤ i → (μ.over μ' n m) i = μ i := fun i hi => by simp only [Mu.over]; rw [if_neg (by omega)]
  have mid : ∀ i, n ≤ i → i < m → (μ.over μ' n m) i = μ' i := fun i h1 h2 => by simp only [Mu.over]; rw [if_pos ⟨h1, h2⟩]
  have le1 : μ.le (μ.over μ' n m) := by
    intro i p hp
    by_cases h1 : n ≤ i ∧ i < m
    · rw [hfree i h1.1 h1.2] at hp; cases hp
    · simp only [Mu.over]; rw [if_neg h1]; exact hp
  have old' : ∀ i, i < n → μ' i = μ i := fun i hi => by
    rw [t.old i (by rw [hv.next]; exact hi)]
    simp only [Mu.upto]; rw [if_pos hi]
  have le2 : μ'.le (μ.over μ' n m) := by
    intro i p hp
    have hlt := hRR.fin i p hp
    by_cases h1 : i < n
    · rw [lo i h1, ← old' i h1]; exact hp
    · rw [mid i (by omega) (by omega)]; exact hp
  -- where an object of the new heap comes from
  have src : ∀ i o, H'.get i = some o → (R.get i = some o ∧ ((∃ o0, V.get i = some o0 ∧ H.get i = some o0) ∨ (V.get i = none ∧ n ≤ i ∧ i < m))) ∨
      (H.get i = some o ∧ ((∃ o', V.get i = some o' ∧ o' ≠ o ∧ o.shut = some o') ∨ V.get i = none)) := by
    intro i o h
    cases hV : V.get i with
    | some o' =>
      obtain ⟨o1, h1, h2⟩ := hv.sub i o' hV
      by_cases e : o' = o1
      · subst e
        rw [ho.same i o' hV h1] at h
        exact .inl ⟨h, .inl ⟨o', rfl, h1⟩⟩
      · rw [ho.shut i o1 o' hV h1 e] at h
        injection h with h
        subst h
        exact .inr ⟨h1, .inl ⟨o', rfl, e, h2.resolve_left e⟩⟩
    | none =>
      by_cases h1 : n ≤ i ∧ i < m
      · rw [ho.new i hV h1.1 h1.2] at h
        exact .inl ⟨h, .inr ⟨rfl, h1⟩⟩
      · rw [ho.rest i hV h1] at h
        exact .inr ⟨h, .inr rfl⟩
  have Hlt : ∀ i o, H.get i = some o → ∃ p, μ i = some p ∧ p.b < w.heap.size := by
    intro i o h
    obtain ⟨p, x, h1, h2, _⟩ := hR.dom i o h
    exact ⟨p, h1, (Array.getElem?_eq_some_iff.1 h2).1⟩
  -- an object of H that V hasn't as it is: its block is not one that the step may write
  have noImg : ∀ i o p, H.get i = some o → μ i = some p → ((∃ o', V.get i = some o' ∧ o' ≠ o ∧ o.shut = some o') ∨ V.get i = none) → ¬ Img (μ.upto n) V p.b := by
    rintro i o p hi hp hnot ⟨k, ok, pk, hk, hak, hpk, e⟩
    have hkn : k < n ∧ μ k = some pk := by
      simp only [Mu.upto] at hpk
      split at hpk
      · rename_i hlt; exact ⟨hlt, hpk⟩
      · cases hpk
    obtain ⟨ok', hk', hor⟩ := hv.sub k ok hk
    have hok : ok = ok' := by
      rcases hor with h | h
      · exact h
      · have := (shut_par h).2.2; rw [hak] at this; cases this
    subst hok
    by_cases eik : i = k
    · subst eik
      rcases hnot with ⟨o', h1, h2, h3⟩ | h1
      · rw [hk] at h1
        injection h1 with h1
        subst h1
        rw [hi] at hk'
        injection hk' with hk'
        exact h2 hk'.symm
      · rw [hk] at h1; cases h1
    · rcases hR.sep i k o ok p pk eik hi hk' hp hkn.2 e.symm with hh | hh
      · have hVi := hv.closed k ok i hk hak hh o hi
        rcases hnot with ⟨o', h1, h2, _⟩ | h1
        · rw [hVi] at h1; injection h1 with h1; exact h2 h1.symm
        · rw [hVi] at h1; cases h1
      · have := hR.ro k i ok o hk' hi hh
        rw [hak] at this
        cases this
  have keep : ∀ i o p x, H.get i = some o → μ i = some p → w.heap[p.b]? = some x → ((∃ o', V.get i = some o' ∧ o' ≠ o ∧ o.shut = some o') ∨ V.get i = none) → w'.heap[p.b]? = some x := by
    intro i o p x hi hp hx hnot
    rw [t.ext.block p.b (Array.getElem?_eq_some_iff.1 hx).1 (noImg i o p hi hp hnot)]
    exact hx
  have upto' : ∀ i p, (μ.upto n) i = some p → i < n ∧ μ i = some p := by
    intro i p hp
    simp only [Mu.upto] at hp
    split at hp
    · rename_i hlt; exact ⟨hlt, hp⟩
    · cases hp
  -- an object that the step's end has, on an old block
  have onOld : ∀ i o p, R.get i = some o → μ' i = some p → p.b < w.heap.size → Img (μ.upto n) V p.b ∨ (o.alive = false ∧ i < n ∧ μ i = some p ∧ ∃ o0, V.get i = some o0) := by
    intro i o p h1 h2 h3
    rcases t.img i o p h1 h2 h3 with h | ⟨h4, o0, h5, h6⟩
    · exact .inl h
    · exact .inr ⟨h4, (upto' i p h6).1, (upto' i p h6).2, o0, h5⟩
  have RltV : ∀ i o, R.get i = some o → ∃ p, μ' i = some p ∧ i < m := by
    intro i o h
    obtain ⟨p, x, h1, _⟩ := hRR.dom i o h
    have := hRR.fin i p h1
    exact ⟨p, h1, by omega⟩
  have hidden : ∀ i o, H.get i = some o → ((∃ o', V.get i = some o' ∧ o' ≠ o ∧ o.shut = some o') ∨ V.get i = none) → ∀ o', V.get i = some o' → o' ≠ o ∧ o'.alive = false := by
    rintro i o h (⟨o1, h1, h2, h3⟩ | h1) o' h4
    · rw [h1] at h4; injection h4 with h4; subst h4; exact ⟨h2, (shut_par h3).2.2⟩
    · rw [h1] at h4; cases h4
  have inH : ∀ i o, V.get i = some o → o.alive = true → H.get i = some o := by
    intro i o h ha
    obtain ⟨o1, h1, h2⟩ := hv.sub i o h
    rcases h2 with h2 | h2
    · subst h2; exact h1
    · have := (shut_par h2).2.2; rw [ha] at this; cases this
  have img1 : ∀ b, Img (μ.upto n) V b → Img μ H b := by
    rintro b ⟨k, ok, pk, hk, hak, hpk, e⟩
    exact ⟨k, ok, pk, inH k ok hk hak, hak, (upto' k pk hpk).2, e⟩
  have muR : ∀ i o p, R.get i = some o → (μ.over μ' n m) i = some p → μ' i = some p := by
    intro i o p h1 h2
    obtain ⟨q, h3, _⟩ := RltV i o h1
    have := le2 i q h3
    rw [h2] at this
    injection this with this
    rw [this]
    exact h3
  have muH : ∀ i o p, H.get i = some o → (μ.over μ' n m) i = some p → μ i = some p := by
    intro i o p h1 h2
    obtain ⟨q, h3, _⟩ := Hlt i o h1
    have := le1 i q h3
    rw [h2] at this
    injection this with this
    rw [this]
    exact h3
  -- a name of the whole, hidden from the part, in the ancestry of an object of the step's end
  have parHR : ∀ i j oi oj, H.get i = some oi → ((∃ o', V.get i = some o' ∧ o' ≠ oi ∧ oi.shut = some o') ∨ V.get i = none) → R.get j = some oj → i ∈ oj.par →
      ∃ o0, V.get j = some o0 ∧ i ∈ o0.par ∧ (o0.alive = true → False) := by
    intro i j oi oj h1 h2 h3 h4
    have hin : i < n := by
      obtain ⟨q, hq⟩ := hRR.plt j oj i h3 h4
      have h5 := hRR.fin i q hq
      obtain ⟨q', hq', _⟩ := Hlt i oi h1
      rcases Nat.lt_or_ge i n with h | h
      · exact h
      · rw [hfree i h (by omega)] at hq'; cases hq'
    rcases t.par j oj i h3 h4 (by rw [hv.next]; exact hin) with ⟨o, h5, h6⟩ | ⟨j0, o0, h5, h6, h7⟩ | ⟨o0, h5, h6⟩
    · have := (hidden i oi h1 h2 o h5).2
      rw [h6] at this; cases this
    · have h8 := hv.closed j0 o0 i h5 h6 h7 oi h1
      exact absurd rfl (hidden i oi h1 h2 oi h8).1
    · refine ⟨o0, h5, h6, fun ha => ?_⟩
      have h8 := hv.closed j o0 i h5 ha h6 oi h1
      exact absurd rfl (hidden i oi h1 h2 oi h8).1
  -- a name that the step's end has, in the ancestry of an object of the whole
  have parRH : ∀ i j oi oj, R.get i = some oi → ((∃ o0, V.get i = some o0 ∧ H.get i = some o0) ∨ (V.get i = none ∧ n ≤ i ∧ i < m)) → H.get j = some oj → i ∈ oj.par →
      V.get i = some oi ∧ H.get i = some oi ∧ oi.alive = false := by
    intro i j oi oj h1 h2 h3 h4
    rcases h2 with ⟨o0, h5, h6⟩ | ⟨h5, h6, h7⟩
    · have hd := hR.ro i j o0 oj h6 h3 h4
      have := t.dead i o0 oi h5 hd h1
      subst this
      exact ⟨h5, h6, hd⟩
    · obtain ⟨q, hq⟩ := hR.plt j oj i h3 h4
      rw [hfree i h6 h7] at hq; cases hq
  have samePl : ∀ i o0 oi, V.get i = some o0 → R.get i = some oi → (o0.alive = true → False) → oi = o0 := by
    intro i o0 oi h1 h2 h3
    cases ha : o0.alive with
    | true => exact (h3 ha).elim
    | false => exact t.dead i o0 oi h1 ha h2
  refine ⟨⟨?_, ?_, ?_, ?_, ?_, ?_, ?_, ?_⟩, ⟨⟨t0.lt, Mu.le_trans t0.le le1, fun i hi => ?_, ?_, ⟨?_, ?_, ?_, ?_, ?_⟩, ?_, ?_, ?_⟩, ?_, ?_⟩, le1, le2, lo, hi'⟩
  · intro i o h
    rcases src i o h with ⟨h1, _⟩ | ⟨h1, h2⟩
    · obtain ⟨p, x, a, b, c⟩ := hRR.dom i o h1
      exact ⟨p, x, le2 _ _ a, b, c.mono le2⟩
    · obtain ⟨p, x, a, b, c⟩ := hR.dom i o h1
      exact ⟨p, x, le1 _ _ a, keep i o p x h1 a b h2, c.mono le1⟩
  · intro i p hp
    rw [ho.next]
    by_cases h1 : n ≤ i ∧ i < m
    · omega
    · simp only [Mu.over] at hp; rw [if_neg h1] at hp; exact hR.fin i p hp
  · rw [ho.next]; exact hR.base
  · intro g hg
    obtain ⟨p, a, b, c⟩ := hR.glob g hg
    exact ⟨p, le1 _ _ a, b, c⟩
  · intro i j oi oj pi pj hij hi hj hpi hpj e
    rcases src i oi hi with ⟨h1, h2⟩ | ⟨h1, h2⟩
    · have hpi := muR i oi pi h1 hpi
      rcases src j oj hj with ⟨k1, k2⟩ | ⟨k1, k2⟩
      · exact hRR.sep i j oi oj pi pj hij h1 k1 hpi (muR j oj pj k1 hpj) e
      · have hpj := muH j oj pj k1 hpj
        obtain ⟨q, hq, hlt⟩ := Hlt j oj k1
        rw [hpj] at hq; injection hq with hq; subst hq
        rcases onOld i oi pi h1 hpi (by omega) with h3 | ⟨h3, h4, h5, o0, h6⟩
        · rw [e] at h3; exact (noImg j oj pj k1 hpj k2 h3).elim
        · rcases h2 with ⟨o1, h7, h8⟩ | ⟨h7, _⟩
          · rcases hR.sep i j o1 oj pi pj hij h8 k1 h5 hpj e with h9 | h9
            · exact .inl h9
            · right
              have := samePl i o1 oi h7 h1 fun ha => (hidden j oj k1 k2 oj (hv.closed i o1 j h7 ha h9 oj k1)).1 rfl
              rw [this]; exact h9
          · rw [h6] at h7; cases h7
    · have hpi := muH i oi pi h1 hpi
      rcases src j oj hj with ⟨k1, k2⟩ | ⟨k1, k2⟩
      · have hpj := muR j oj pj k1 hpj
        obtain ⟨q, hq, hlt⟩ := Hlt i oi h1
        rw [hpi] at hq; injection hq with hq; subst hq
        rcases onOld j oj pj k1 hpj (by omega) with h3 | ⟨h3, h4, h5, o0, h6⟩
        · rw [← e] at h3; exact (noImg i oi pi h1 hpi h2 h3).elim
        · rcases k2 with ⟨o1, h7, h8⟩ | ⟨h7, _⟩
          · rcases hR.sep i j oi o1 pi pj hij h1 h8 hpi h5 e with h9 | h9
            · left
              have := samePl j o1 oj h7 k1 fun ha => (hidden i oi h1 h2 oi (hv.closed j o1 i h7 ha h9 oi h1)).1 rfl
              rw [this]; exact h9
            · exact .inr h9
          · rw [h6] at h7; cases h7
      · exact hR.sep i j oi oj pi pj hij h1 k1 hpi (muH j oj pj k1 hpj) e
  · intro i j oi oj hi hj hm'
    rcases src j oj hj with ⟨k1, k2⟩ | ⟨k1, k2⟩
    · rcases src i oi hi with ⟨h1, h2⟩ | ⟨h1, h2⟩
      · exact hRR.ro i j oi oj h1 k1 hm'
      · obtain ⟨o0, h3, h4, h5⟩ := parHR i j oi oj h1 h2 k1 hm'
        obtain ⟨o1, h6, h7⟩ := hv.sub j o0 h3
        refine hR.ro i j oi o1 h1 h6 ?_
        rcases h7 with rfl | h7
        · exact h4
        · rw [(shut_par h7).1] at h4; exact h4
    · rcases src i oi hi with ⟨h1, h2⟩ | ⟨h1, h2⟩
      · exact (parRH i j oi oj h1 h2 k1 hm').2.2
      · exact hR.ro i j oi oj h1 k1 hm'
  · intro i o j hi hm'
    rcases src i o hi with ⟨h1, _⟩ | ⟨h1, _⟩
    · obtain ⟨p, hp⟩ := hRR.plt i o j h1 hm'
      exact ⟨p, le2 _ _ hp⟩
    · obtain ⟨p, hp⟩ := hR.plt i o j h1 hm'
      exact ⟨p, le1 _ _ hp⟩
  · intro i j oi oj pi pj hi hj hm' hpi hpj e
    rcases src j oj hj with ⟨k1, k2⟩ | ⟨k1, k2⟩
    · rcases src i oi hi with ⟨h1, h2⟩ | ⟨h1, h2⟩
      · exact hRR.pend i j oi oj pi pj h1 k1 hm' (muR i oi pi h1 hpi) (muR j oj pj k1 hpj) e
      · obtain ⟨o0, h3, h4, h5⟩ := parHR i j oi oj h1 h2 k1 hm'
        have := samePl j o0 oj h3 k1 h5
        subst this
        rcases k2 with ⟨o1, h6, h7⟩ | ⟨h6, _⟩
        · rw [h3] at h6; injection h6 with h6; subst h6
          exact hR.pend i j oi oj pi pj h1 h7 hm' (muH i oi pi h1 hpi) (muH j oj pj h7 hpj) e
        · rw [h3] at h6; cases h6
    · rcases src i oi hi with ⟨h1, h2⟩ | ⟨h1, h2⟩
      · obtain ⟨_, h3, _⟩ := parRH i j oi oj h1 h2 k1 hm'
        exact hR.pend i j oi oj pi pj h3 k1 hm' (muH i oi pi h3 hpi) (muH j oj pj k1 hpj) e
      · exact hR.pend i j oi oj pi pj h1 k1 hm' (muH i oi pi h1 hpi) (muH j oj pj k1 hpj) e
  · rw [lo i (by omega)]; exact t0.old i hi
  · rw [ho.next]; exact t0.next
  · exact t.ext.os.trans t0.ext.os
  · exact t.ext.tape.trans t0.ext.tape
  · exact t.ext.output.trans t0.ext.output
  · exact Nat.le_trans t0.ext.size t.ext.size
  · intro k hk hnI
    rw [t.ext.block k (Nat.lt_of_lt_of_le hk t0.ext.size) fun h => hnI (t0.alive hk (img1 k h))]
    exact t0.ext.block k hk hnI
  · intro i o p h1 h2 h3
    have h3' := Nat.lt_of_lt_of_le h3 t0.ext.size
    rcases src i o h1 with ⟨k1, k2⟩ | ⟨k1, k2⟩
    · rcases onOld i o p k1 (muR i o p k1 h2) h3' with h4 | ⟨h4, h5, h6, o0, h7⟩
      · exact .inl (t0.alive h3 (img1 _ h4))
      · obtain ⟨o1, h8, h9⟩ := hv.sub i o0 h7
        rcases t0.img i o1 p h8 h6 h3 with h10 | ⟨_, h10⟩
        · exact .inl h10
        · exact .inr ⟨h4, h10⟩
    · exact t0.img i o p k1 (muH i o p k1 h2) h3
  · intro i o o' h1 h2 h3
    rcases src i o' h3 with ⟨k1, ⟨o0, k2, k3⟩ | ⟨_, k2, _⟩⟩ | ⟨k1, k2⟩
    · have := t0.dead i o o0 h1 h2 k3
      subst this
      exact t.dead i o0 o' k2 h2 k1
    · have := t0.lt i o h1; omega
    · exact t0.dead i o o' h1 h2 k1
  · intro i o' h1 h2
    rcases src i o' h2 with ⟨k1, ⟨o0, k2, k3⟩ | ⟨_, k2, _⟩⟩ | ⟨k1, k2⟩
    · exact t0.dom i o0 h1 k3
    · omega
    · exact t0.dom i o' h1 k1
  · intro j o' i h1 h2 h3
    rcases src j o' h1 with ⟨k1, k2⟩ | ⟨k1, k2⟩
    · rcases t.par j o' i k1 h2 (by rw [hv.next]; omega) with ⟨o, h5, h6⟩ | ⟨j0, o0, h5, h6, h7⟩ | ⟨o0, h5, h6⟩
      · have h7 := inH i o h5 h6
        obtain ⟨o1, h8⟩ := t0.dom i o h3 h7
        cases hd : o1.alive with
        | true => exact .inl ⟨o1, h8, hd⟩
        | false =>
          have := t0.dead i o1 o h8 hd h7
          subst this
          rw [h6] at hd; cases hd
      · rcases t0.par j0 o0 i (inH j0 o0 h5 h6) h7 h3 with h8 | h8 | ⟨o1, h8, h9⟩
        · exact .inl h8
        · exact .inr (.inl h8)
        · cases hd : o1.alive with
          | true => exact .inr (.inl ⟨j0, o1, h8, hd, h9⟩)
          | false =>
            have := t0.dead j0 o1 o0 h8 hd (inH j0 o0 h5 h6)
            subst this
            rw [h6] at hd; cases hd
      · obtain ⟨o1, h8, h9⟩ := hv.sub j o0 h5
        refine t0.par j o1 i h8 ?_ h3
        rcases h9 with rfl | h9
        · exact h6
        · rw [(shut_par h9).1] at h6; exact h6
    · exact t0.par j o' i k1 h2 h3
  · intro i o h1 h2
    rcases t0.kept i o h1 h2 with h3 | h3
    · exact .inl h3
    · by_cases hpar : ∃ k ok, V.get k = some ok ∧ ok.alive = true ∧ i ∈ ok.par
      · left
        obtain ⟨k, ok, h4, h5, h6⟩ := hpar
        rcases t0.par k ok i (inH k ok h4 h5) h6 (t0.lt i o h1) with ⟨o1, h7, h8⟩ | h7 | ⟨o1, h7, h8⟩
        · rw [h1] at h7; injection h7 with h7; subst h7; rw [h2] at h8; cases h8
        · exact h7
        · cases hd : o1.alive with
          | true => exact ⟨k, o1, h7, hd, h8⟩
          | false =>
            have := t0.dead k o1 ok h7 hd (inH k ok h4 h5)
            subst this
            rw [h5] at hd; cases hd
      · right
        cases hV : V.get i with
        | some o' =>
          obtain ⟨o1, h4, h5⟩ := hv.sub i o' hV
          rw [h3] at h4; injection h4 with h4; subst h4
          by_cases e : o' = o
          · subst e
            rw [ho.same i o' hV h3]
            rcases t.kept i o' hV h2 with h | h
            · exact absurd h hpar
            · exact h
          · exact ho.shut i o o' hV h3 e
        | none =>
          rw [ho.rest i hV (by have := t0.lt i o h1; omega)]
          exact h3

end
end Go.Eng
set_option linter.unusedVariables false
set_option linter.unusedSimpArgs false
namespace Go.Eng
open Go

/-! ### The last of some -/
open Classical in
noncomputable def lw : Nat → (Nat → Prop) → Nat
  | 0, _ => 0
  | m + 1, p => if p m then m + 1 else lw m p
theorem lw_le : ∀ (n : Nat) (p : Nat → Prop), lw n p ≤ n := by
  intro n
  induction n with
  | zero => intro p; exact Nat.le_refl _
  | succ n ih => intro p; simp only [lw]; split
                 · exact Nat.le_refl _
                 · have := ih p; omega
theorem lw_is : ∀ (n : Nat) (p : Nat → Prop) (m : Nat), lw n p = m + 1 → p m ∧ m < n := by
  intro n
  induction n with
  | zero => intro p m h; simp [lw] at h
  | succ n ih =>
    intro p m h
    simp only [lw] at h
    split at h
    · rename_i hp; have : n = m := by omega
      subst this; exact ⟨hp, Nat.lt_succ_self _⟩
    · have := ih p m h; exact ⟨this.1, by omega⟩
theorem lw_no : ∀ (n : Nat) (p : Nat → Prop) (m : Nat), m < n → lw n p ≤ m → ¬ p m := by
  intro n
  induction n with
  | zero => intro p m h; omega
  | succ n ih =>
    intro p m h hl hp
    simp only [lw] at hl
    split at hl
    · omega
    · rename_i hn
      by_cases e : m = n
      · subst e; exact hn hp
      · exact ih p m (by omega) hl hp
theorem lw_eq {n : Nat} {p : Nat → Prop} {m : Nat} (hm : m < n) (hp : p m) (h : ∀ k, k < n → p k → k ≤ m) : lw n p = m + 1 := by
  have h1 : ¬ lw n p ≤ m := fun h => lw_no n p m hm h hp
  cases e : lw n p with
  | zero => omega
  | succ k =>
    have := lw_is n p k e
    have := h k this.2 this.1
    omega
theorem lw_congr {p q : Nat → Prop} : ∀ (n : Nat), (∀ k, k < n → (p k ↔ q k)) → lw n p = lw n q := by
  intro n
  induction n with
  | zero => intro _; rfl
  | succ n ih =>
    intro h
    simp only [lw]
    rw [ih fun k hk => h k (by omega)]
    by_cases e : p n
    · rw [if_pos e, if_pos ((h n (by omega)).1 e)]
    · rw [if_neg e, if_neg fun x => e ((h n (by omega)).2 x)]

/-! ### Heaps that read alike -/
theorem Rel.congr {G : Nat} {μ : Mu} {H H' : AHeap} {w : World} (h : Rel G μ H w) (e : ∀ i, H'.get i = H.get i) (en : H'.next = H.next) : Rel G μ H' w where
  dom := fun i o k => h.dom i o (by rw [← e]; exact k)
  fin := fun i p k => by rw [en]; exact h.fin i p k
  base := by rw [en]; exact h.base
  glob := h.glob
  sep := fun i j oi oj pi pj a b c => h.sep i j oi oj pi pj a (by rw [← e]; exact b) (by rw [← e]; exact c)
  ro := fun i j oi oj b c => h.ro i j oi oj (by rw [← e]; exact b) (by rw [← e]; exact c)
  plt := fun i o j k => h.plt i o j (by rw [← e]; exact k)
  pend := fun i j oi oj pi pj b c => h.pend i j oi oj pi pj (by rw [← e]; exact b) (by rw [← e]; exact c)
theorem Tn.congr {μ μ' : Mu} {H H' H'' : AHeap} {w w' : World} (t : Tn μ H w μ' H' w') (e : ∀ i, H''.get i = H'.get i) (en : H''.next = H'.next) : Tn μ H w μ' H'' w' where
  lt := t.lt
  le := t.le
  old := t.old
  next := by rw [en]; exact t.next
  ext := t.ext
  img := fun i o p k => t.img i o p (by rw [← e]; exact k)
  dead := fun i o o' a b c => t.dead i o o' a b (by rw [← e]; exact c)
  dom := fun i o' a b => t.dom i o' a (by rw [← e]; exact b)
  par := fun j o' i a b c => t.par j o' i (by rw [← e]; exact a) b c
  kept := fun i o a b => (t.kept i o a b).imp id fun h => by rw [e]; exact h

theorem upto_le (μ : Mu) {a b : Nat} (h : a ≤ b) : (μ.upto a).le (μ.upto b) := by
  intro i p hp
  simp only [Mu.upto] at *
  split at hp
  · rw [if_pos (by omega)]; exact hp
  · cases hp
theorem upto_mono {μ μ' : Mu} (h : μ.le μ') (a : Nat) : (μ.upto a).le (μ'.upto a) := by
  intro i p hp
  simp only [Mu.upto] at *
  split at hp
  · rename_i hi; rw [if_pos hi]; exact h i p hp
  · cases hp
theorem upto_sub (μ : Mu) (a : Nat) : (μ.upto a).le μ := by
  intro i p hp
  simp only [Mu.upto] at hp
  split at hp
  · exact hp
  · cases hp

/-- The places that an operation looks at; of the others nothing is known. -/
def restr (τ : Tmps) : List Nat → Tmps
  | [] => .lf
  | t :: l => (restr τ l).put t (some (tget τ t))
theorem tget_restr (τ : Tmps) : ∀ (l : List Nat) (t : Nat), tget (restr τ l) t = if t ∈ l then tget τ t else unk := by
  intro l
  induction l with
  | nil => intro t; simp [restr, tget, Tr.get_lf]
  | cons x l ih =>
    intro t
    simp only [restr]
    rw [tget_put, ih]
    by_cases e : t = x
    · subst e; simp
    · rw [if_neg e]; simp [e]

section
variable {P : Program} {G NT : Nat} {ops : Array Oper} {B : Nat → Nat → Bool} {τs : Nat → Tmps} {hs Vs Rs : Nat → AHeap} {Fs Ws : Nat → Nat → Prop} {vs : Nat → Value} {rd : Nat → List Nat}

/-- What an operation writes, or makes. -/
def Wr (hs : Nat → AHeap) (Ws : Nat → Nat → Prop) (k i : Nat) : Prop := Ws k i ∨ ((hs k).next ≤ i ∧ i < (hs (k + 1)).next)

/-- One operation of the region, in the text's order, on its part of the heap. -/
structure RStep (P : Program) (G NT : Nat) (ops : Array Oper) (B : Nat → Nat → Bool) (τs : Nat → Tmps) (hs Vs Rs : Nat → AHeap) (Fs Ws : Nat → Nat → Prop) (vs : Nat → Value) (rd : Nat → List Nat) (j : Nat) (o : Oper) : Prop where
  sound : ∀ Q μ a w K, Rel G μ (Vs j) w → TRel μ NT (restr (τs j) (rd j)) a.tmps → a.defers = [] →
    (∀ μ' w' v', VRel μ' (vs j) v' → Rel G μ' (Rs j) w' → Tn μ (Vs j) w μ' (Rs j) w' → K (a.put o.dst v') w') → wpOp P ops Q j K a w
  dst : ∀ d, o.dst = some d → d < NT
  tau : ∀ t, tget (τs (j + 1)) t = if o.dst = some t then vs j else tget (τs j) t
  heap : ∀ i, (Wr hs Ws j i → (hs (j + 1)).get i = (Rs j).get i) ∧ (¬ Wr hs Ws j i → (hs (j + 1)).get i = (hs j).get i)
  next : (hs j).next ≤ (hs (j + 1)).next
  rnext : (Rs j).next ≤ (hs (j + 1)).next
  vnext : (Vs j).next = (hs j).next
  sub : ∀ i o', (Vs j).get i = some o' → Fs j i ∧ ∃ o, (hs j).get i = some o ∧ (o' = o ∨ o.shut = some o')
  alive : ∀ i o, (Vs j).get i = some o → o.alive = true → Ws j i
  par : ∀ k o i, (Vs j).get k = some o → o.alive = true → i ∈ o.par → i < (hs j).next → Ws j i
  wf : ∀ i, Ws j i → Fs j i ∧ i < (hs j).next ∧ (Vs j).get i = (hs j).get i
  conf : ∀ i k, k < ops.size → k ≠ j → Fs j i → Wr hs Ws k i → B k j = true ∨ B j k = true
  conft : ∀ t k ok, k ≠ j → (t ∈ rd j ∨ o.dst = some t) → ops[k]? = some ok → ok.dst = some t → B k j = true ∨ B j k = true

/-- The region's order. -/
structure ROrd (ops : Array Oper) (B : Nat → Nat → Bool) : Prop where
  lt : ∀ i j, B i j = true → i < j
  src : ∀ i j o, B i j = true → ops[j]? = some o → ∃ e ∈ o.after, Region.binds .any e = true ∧ (e.on = i ∨ B i e.on = true)
  back : ∀ j o, ops[j]? = some o → ∀ e ∈ o.after, Region.binds .any e = true → e.on < j

/-- The state behind the operations that have run. -/
structure RInv (P : Program) (G NT : Nat) (ops : Array Oper) (B : Nat → Nat → Bool) (τs : Nat → Tmps) (hs : Nat → AHeap) (Ws : Nat → Nat → Prop) (μ0 : Mu) (w0 : World) (L : Nat → Prop) (μ : Mu) (H : AHeap) (a : Act) (w : World) : Prop where
  next : H.next = (hs ops.size).next
  rel : Rel G μ H w
  tn : Tn μ0 (hs 0) w0 μ H w
  heap : ∀ i, H.get i = (hs (lw ops.size fun k => L k ∧ Wr hs Ws k i)).get i
  lev : ∀ i o, H.get i = some o → (∃ p x, (μ.upto (hs (lw ops.size fun k => L k ∧ Wr hs Ws k i)).next) i = some p ∧ w.heap[p.b]? = some x ∧ ObjRel (μ.upto (hs (lw ops.size fun k => L k ∧ Wr hs Ws k i)).next) o x p) ∧
    ∀ j ∈ o.par, ∃ p, (μ.upto (hs (lw ops.size fun k => L k ∧ Wr hs Ws k i)).next) j = some p
  free : ∀ j, j < ops.size → ¬ L j → ∀ i, (hs j).next ≤ i → i < (hs (j + 1)).next → μ i = none
  size : a.tmps.size = NT
  tmps : ∀ d, VRel (μ.upto (hs (lw ops.size fun k => L k ∧ ∃ o, ops[k]? = some o ∧ o.dst = some d)).next) (tget (τs (lw ops.size fun k => L k ∧ ∃ o, ops[k]? = some o ∧ o.dst = some d)) d) (a.tmps.getD d undef)
  defers : a.defers = []
  down : ∀ j, L j → ∀ i, B i j = true → L i

variable (hO : ROrd ops B) (hS : ∀ j o, ops[j]? = some o → RStep P G NT ops B τs hs Vs Rs Fs Ws vs rd j o)
include hS

theorem hs_mono : ∀ (k j : Nat), j ≤ k → k ≤ ops.size → (hs j).next ≤ (hs k).next := by
  intro k
  induction k with
  | zero => intro j h _; have : j = 0 := by omega
            subst this; exact Nat.le_refl _
  | succ k ih =>
    intro j h hk
    rcases Nat.lt_or_ge j (k + 1) with h1 | h1
    · have h2 : ops[k]? = some ops[k] := Array.getElem?_eq_getElem (by omega)
      have := (hS k _ h2).next
      have := ih j (by omega) (by omega)
      omega
    · have : j = k + 1 := by omega
      subst this; exact Nat.le_refl _
/-- Nobody writes it in between. -/
theorem hs_same (i : Nat) : ∀ (k j : Nat), j ≤ k → k ≤ ops.size → (∀ m, j ≤ m → m < k → ¬ Wr hs Ws m i) → (hs k).get i = (hs j).get i := by
  intro k
  induction k with
  | zero => intro j h _ _; have : j = 0 := by omega
            subst this; rfl
  | succ k ih =>
    intro j h hk hn
    rcases Nat.lt_or_ge j (k + 1) with h1 | h1
    · have h2 : ops[k]? = some ops[k] := Array.getElem?_eq_getElem (by omega)
      rw [((hS k _ h2).heap i).2 (hn k (by omega) (by omega))]
      exact ih j (by omega) (by omega) fun m a b => hn m a (by omega)
    · have : j = k + 1 := by omega
      subst this; rfl
theorem ts_same (t : Nat) : ∀ (k j : Nat), j ≤ k → k ≤ ops.size → (∀ m o, j ≤ m → m < k → ops[m]? = some o → o.dst ≠ some t) → tget (τs k) t = tget (τs j) t := by
  intro k
  induction k with
  | zero => intro j h _ _; have : j = 0 := by omega
            subst this; rfl
  | succ k ih =>
    intro j h hk hn
    rcases Nat.lt_or_ge j (k + 1) with h1 | h1
    · have h2 : ops[k]? = some ops[k] := Array.getElem?_eq_getElem (by omega)
      rw [(hS k _ h2).tau t, if_neg (hn k _ (by omega) (by omega) h2)]
      exact ih j (by omega) (by omega) fun m o a b => hn m o a (by omega)
    · have : j = k + 1 := by omega
      subst this; rfl


/-- What an operation looks at is as it is in the text's order. -/
theorem look {hO : ROrd ops B} {j : Nat} {o : Oper} (hj : ops[j]? = some o) {L : Nat → Prop} (hd : ∀ j, L j → ∀ i, B i j = true → L i) (hn : ¬ L j) (hr : ∀ i, B i j = true → L i) {i : Nat} (hF : Fs j i) :
    (lw ops.size fun k => L k ∧ Wr hs Ws k i) ≤ j ∧ (hs (lw ops.size fun k => L k ∧ Wr hs Ws k i)).get i = (hs j).get i := by
  have hlt : j < ops.size := (Array.getElem?_eq_some_iff.1 hj).1
  have h1 : (lw ops.size fun k => L k ∧ Wr hs Ws k i) ≤ j := by
    cases e : lw ops.size fun k => L k ∧ Wr hs Ws k i with
    | zero => omega
    | succ k =>
      obtain ⟨⟨h1, h2⟩, h3⟩ := lw_is _ _ _ e
      have hne : k ≠ j := fun e => hn (e ▸ h1)
      rcases (hS j o hj).conf i k h3 hne hF h2 with h | h
      · have := hO.lt _ _ h; omega
      · exact absurd (hd k h1 j h) hn
  refine ⟨h1, (hs_same hS i j _ h1 (by omega) fun m a b hw => ?_).symm⟩
  rcases (hS j o hj).conf i m (by omega) (by omega) hF hw with h | h
  · exact lw_no _ _ m (by omega) a ⟨hr m h, hw⟩
  · have := hO.lt _ _ h; omega
theorem lookT {hO : ROrd ops B} {j : Nat} {o : Oper} (hj : ops[j]? = some o) {L : Nat → Prop} (hd : ∀ j, L j → ∀ i, B i j = true → L i) (hn : ¬ L j) (hr : ∀ i, B i j = true → L i) {t : Nat} (hF : t ∈ rd j) :
    (lw ops.size fun k => L k ∧ ∃ o, ops[k]? = some o ∧ o.dst = some t) ≤ j ∧ tget (τs (lw ops.size fun k => L k ∧ ∃ o, ops[k]? = some o ∧ o.dst = some t)) t = tget (τs j) t := by
  have hlt : j < ops.size := (Array.getElem?_eq_some_iff.1 hj).1
  have h1 : (lw ops.size fun k => L k ∧ ∃ o, ops[k]? = some o ∧ o.dst = some t) ≤ j := by
    cases e : lw ops.size fun k => L k ∧ ∃ o, ops[k]? = some o ∧ o.dst = some t with
    | zero => omega
    | succ k =>
      obtain ⟨⟨h1, ok, h2, h4⟩, h3⟩ := lw_is _ _ _ e
      have hne : k ≠ j := fun e => hn (e ▸ h1)
      rcases (hS j o hj).conft t k ok hne (.inl hF) h2 h4 with h | h
      · have := hO.lt _ _ h; omega
      · exact absurd (hd k h1 j h) hn
  refine ⟨h1, (ts_same hS t j _ h1 (by omega) fun m ok a b hm hw => ?_).symm⟩
  rcases (hS j o hj).conft t m ok (by omega) (.inl hF) hm hw with h | h
  · exact lw_no _ _ m (by omega) a ⟨hr m h, ok, hm, hw⟩
  · have := hO.lt _ _ h; omega

/-- One operation more. -/
theorem region_step (hO : ROrd ops B) {Q : Exit → Act → World → Prop} {K : Act → World → Prop} {μ0 μ : Mu} {w0 w : World} {H : AHeap} {a : Act} {L : Nat → Prop} {j : Nat} {o : Oper} (hj : ops[j]? = some o) (hI : RInv P G NT ops B τs hs Ws μ0 w0 L μ H a w)
    (hR0 : Rel G μ0 (hs 0) w0) (hn : ¬ L j) (hr : ∀ i, B i j = true → L i) (hK : ∀ μ' H' a' w', RInv P G NT ops B τs hs Ws μ0 w0 (fun k => L k ∨ k = j) μ' H' a' w' → K a' w') : wpOp P ops Q j K a w := by
  have hlt : j < ops.size := (Array.getElem?_eq_some_iff.1 hj).1
  have S := hS j o hj
  have lk := fun {i : Nat} (hF : Fs j i) => look (hO := hO) hS hj hI.down hn hr hF
  have lkT := fun {t : Nat} (hF : t ∈ rd j) => lookT (hO := hO) hS hj hI.down hn hr hF
  have atF : ∀ i, Fs j i → H.get i = (hs j).get i := fun i hF => (hI.heap i).trans (lk hF).2
  have hv : View H (Vs j) (hs j).next := by
    refine ⟨S.vnext, fun i o' h => ?_, fun k ok i hk ha hp oi hoi => ?_⟩
    · obtain ⟨hF, o, h1, h2⟩ := S.sub i o' h
      exact ⟨o, by rw [atF i hF]; exact h1, h2⟩
    · have hin : i < (hs j).next := by
        obtain ⟨hFk, o1, h1, h2⟩ := S.sub k ok hk
        have e1 : ok.par = o1.par := by
          rcases h2 with rfl | h2
          · rfl
          · exact (shut_par h2).1
        obtain ⟨p, hp'⟩ := (hI.lev k o1 (by rw [atF k hFk]; exact h1)).2 i (by rw [← e1]; exact hp)
        have h3 := upto_le μ (hs_mono hS j _ (lk hFk).1 (by omega)) _ _ hp'
        simp only [Mu.upto] at h3
        split at h3
        · assumption
        · cases h3
      obtain ⟨hF, _, h2⟩ := S.wf i (S.par k ok i hk ha hp hin)
      rw [h2, ← atF i hF]; exact hoi
  have sub2 : ∀ i o', (Vs j).get i = some o' → ∃ o, H.get i = some o ∧ o'.par = o.par ∧ o'.len = o.len ∧ (o.alive = false → o'.alive = false) ∧ (∀ μ x p, ObjRel μ o x p → ObjRel μ o' x p) := by
    intro i o' h
    obtain ⟨o, h1, h2⟩ := hv.sub i o' h
    rcases h2 with rfl | h2
    · exact ⟨o', h1, rfl, rfl, fun h => h, fun _ _ _ h => h⟩
    · exact ⟨o, h1, (shut_par h2).1, (shut_par h2).2.1, fun _ => (shut_par h2).2.2, fun _ _ _ => shut_obj h2⟩
  have hG : G ≤ (hs j).next := Nat.le_trans hR0.base (hs_mono hS j 0 (by omega) (by omega))
  have up : ∀ i p, (μ.upto (hs j).next) i = some p → i < (hs j).next ∧ μ i = some p := by
    intro i p hp
    simp only [Mu.upto] at hp
    split at hp
    · rename_i hlt; exact ⟨hlt, hp⟩
    · cases hp
  have lvl : ∀ i, Fs j i → (μ.upto (hs (lw ops.size fun k => L k ∧ Wr hs Ws k i)).next).le (μ.upto (hs j).next) := fun i hF => upto_le μ (hs_mono hS j _ (lk hF).1 (by omega))
  have hRV : Rel G (μ.upto (hs j).next) (Vs j) w := by
    refine ⟨fun i o' h => ?_, fun i p h => by rw [S.vnext]; exact (up i p h).1, by rw [S.vnext]; exact hG, fun g hg => ?_, ?_, ?_, ?_, ?_⟩
    · obtain ⟨o, h1, _, _, _, h5⟩ := sub2 i o' h
      obtain ⟨p, x, a1, a2, a3⟩ := (hI.lev i o h1).1
      have le := lvl i (S.sub i o' h).1
      exact ⟨p, x, le _ _ a1, a2, h5 _ _ _ (a3.mono le)⟩
    · obtain ⟨p, a1, a2, a3⟩ := hI.rel.glob g hg
      refine ⟨p, ?_, a2, a3⟩
      simp only [Mu.upto]; rw [if_pos (by omega)]; exact a1
    · intro i k oi ok pi pk hik hi hk hpi hpk e
      obtain ⟨o1, h1, e1, _⟩ := sub2 i oi hi
      obtain ⟨o2, h2, e2, _⟩ := sub2 k ok hk
      rw [e1, e2]
      exact hI.rel.sep i k o1 o2 pi pk hik h1 h2 (up _ _ hpi).2 (up _ _ hpk).2 e
    · intro i k oi ok hi hk hp
      obtain ⟨o1, h1, e1, _, a1, _⟩ := sub2 i oi hi
      obtain ⟨o2, h2, e2, _⟩ := sub2 k ok hk
      exact a1 (hI.rel.ro i k o1 o2 h1 h2 (by rw [← e2]; exact hp))
    · intro i oi k hi hp
      obtain ⟨o1, h1, e1, _⟩ := sub2 i oi hi
      obtain ⟨p, hp'⟩ := (hI.lev i o1 h1).2 k (by rw [← e1]; exact hp)
      exact ⟨p, lvl i (S.sub i oi hi).1 _ _ hp'⟩
    · intro i k oi ok pi pk hi hk hp hpi hpk e
      obtain ⟨o1, h1, e1, l1, _⟩ := sub2 i oi hi
      obtain ⟨o2, h2, e2, l2, _⟩ := sub2 k ok hk
      rw [l1, l2]
      exact hI.rel.pend i k o1 o2 pi pk h1 h2 (by rw [← e2]; exact hp) (up _ _ hpi).2 (up _ _ hpk).2 e
  have hTV : TRel (μ.upto (hs j).next) NT (restr (τs j) (rd j)) a.tmps := by
    refine ⟨hI.size, fun t => ?_⟩
    rw [tget_restr]
    split
    · rename_i hm
      have := (hI.tmps t).mono (upto_le μ (hs_mono hS j _ (lkT hm).1 (by omega)))
      rw [(lkT hm).2] at this
      exact this
    · exact .any _
  refine S.sound Q _ a w K hRV hTV hI.defers fun μ1 w1 v' hv1 hRR t => ?_
  classical
  have hmN : (hs (j + 1)).next ≤ H.next := by rw [hI.next]; exact hs_mono hS _ _ (by omega) (Nat.le_refl _)
  let H' : AHeap := { t := .lf, next := H.next, back := fun i => if Wr hs Ws j i then (Rs j).get i else H.get i }
  have g1 : ∀ i, Wr hs Ws j i → H'.get i = (Rs j).get i := fun i h => by
    rcases Nat.lt_or_ge i H.next with h1 | h1
    · rw [AHeap.get_in (H := H') h1]; show (if Wr hs Ws j i then _ else _) = _; rw [if_pos h]
    · rw [AHeap.get_out (H := H') h1, AHeap.get_out]; have := S.rnext; omega
  have g2 : ∀ i, ¬ Wr hs Ws j i → H'.get i = H.get i := fun i h => by
    rcases Nat.lt_or_ge i H.next with h1 | h1
    · rw [AHeap.get_in (H := H') h1]; show (if Wr hs Ws j i then _ else _) = _; rw [if_neg h]
    · rw [AHeap.get_out (H := H') h1, AHeap.get_out h1]
  have ltV : ∀ i o, (Vs j).get i = some o → i < (hs j).next := fun i o h => by have := hRV.lt h; rw [S.vnext] at this; exact this
  have ho : Over H (Vs j) (Rs j) H' (hs j).next (hs (j + 1)).next := by
    refine ⟨rfl, fun i o h1 h2 => ?_, fun i o o' h1 h2 h3 => ?_, fun i h1 h2 h3 => g1 i (.inr ⟨h2, h3⟩), fun i h1 h2 => ?_⟩
    · by_cases hw : Wr hs Ws j i
      · exact g1 i hw
      · rw [g2 i hw, h2]
        cases hd : o.alive with
        | true => exact absurd (.inl (S.alive i o h1 hd)) hw
        | false =>
          rcases t.kept i o h1 hd with ⟨k, ok, h3, h4, h5⟩ | h3
          · exact absurd (.inl (S.par k ok i h3 h4 h5 (ltV i o h1))) hw
          · exact h3.symm
    · rw [g2 i, h2]
      rintro (hw | hw)
      · obtain ⟨hF, _, e⟩ := S.wf i hw
        rw [h1, ← atF i hF, h2] at e
        injection e with e
        exact h3 e
      · have := ltV i o' h1; omega
    · by_cases hw : Wr hs Ws j i
      · rw [g1 i hw]
        rcases hw with hw | hw
        · obtain ⟨hF, hlt2, e⟩ := S.wf i hw
          rw [atF i hF, ← e, h1]
          cases hR : (Rs j).get i with
          | none => rfl
          | some o' =>
            obtain ⟨o0, h0⟩ := t.dom i o' (by rw [S.vnext]; exact hlt2) hR
            rw [h1] at h0; cases h0
        · exact absurd hw h2
      · exact g2 i hw
  obtain ⟨k1, k2, k3, k4, k5, k6⟩ := over_ok hI.tn hI.rel (hs_mono hS j 0 (by omega) (by omega)) S.next hmN (hI.free j hlt hn) hv hRV hRR t S.rnext ho
  -- a block that isn't written
  have keep : ∀ i oi p x, H.get i = some oi → μ i = some p → ¬ Wr hs Ws j i → w.heap[p.b]? = some x → w1.heap[p.b]? = some x := by
    intro i oi p x hi hp hw hx
    rw [t.ext.block p.b (Array.getElem?_eq_some_iff.1 hx).1, hx]
    rintro ⟨k, ok, pk, hk, hak, hpk, e⟩
    have hHk : H.get k = some ok := by
      obtain ⟨o1, h1, h2⟩ := hv.sub k ok hk
      rcases h2 with rfl | h2
      · exact h1
      · have := (shut_par h2).2.2; rw [hak] at this; cases this
    by_cases eik : i = k
    · subst eik; exact hw (.inl (S.alive i ok hk hak))
    · rcases hI.rel.sep i k oi ok p pk eik hi hHk hp (up _ _ hpk).2 e.symm with h | h
      · obtain ⟨q, hq⟩ := hRV.plt k ok i hk h
        exact hw (.inl (S.par k ok i hk hak h (up _ _ hq).1))
      · have := hI.rel.ro k i ok oi hHk hi h
        rw [hak] at this; cases this
  have lw1 : ∀ i, Wr hs Ws j i → (lw ops.size fun k => (L k ∨ k = j) ∧ Wr hs Ws k i) = j + 1 := by
    intro i hw
    refine lw_eq hlt ⟨.inr rfl, hw⟩ ?_
    rintro k hk ⟨hL | rfl, hwk⟩
    · rcases Nat.lt_or_ge j k with h | h
      · -- a later one that has run: it is ordered with this one
        have hok : ops[k]? = some ops[k] := Array.getElem?_eq_getElem hk
        rcases hwk with hwk | hwk
        · have hF := ((hS k _ hok).wf i hwk).1
          rcases (hS k _ hok).conf i j hlt (by omega) hF hw with h' | h'
          · exact absurd (hI.down k hL j h') hn
          · have := hO.lt _ _ h'; omega
        · rcases hw with hw | hw
          · have := (S.wf i hw).2.1
            have := hs_mono hS k j (by omega) (by omega)
            omega
          · have := hs_mono hS k (j + 1) (by omega) (by omega)
            omega
      · exact h
    · exact Nat.le_refl _
  have lw2 : ∀ i, ¬ Wr hs Ws j i → (lw ops.size fun k => (L k ∨ k = j) ∧ Wr hs Ws k i) = lw ops.size fun k => L k ∧ Wr hs Ws k i := by
    intro i hw
    refine lw_congr _ fun k _ => ⟨?_, fun h => ⟨.inl h.1, h.2⟩⟩
    rintro ⟨hL | rfl, hwk⟩
    · exact ⟨hL, hwk⟩
    · exact absurd hwk hw
  have le1 : μ1.le ((μ.over μ1 (hs j).next (hs (j + 1)).next).upto (hs (j + 1)).next) := by
    intro i p hp
    have h1 := hRR.fin i p hp
    have h2 := S.rnext
    simp only [Mu.upto]
    rw [if_pos (by omega)]
    exact k4 i p hp
  refine hK (μ.over μ1 (hs j).next (hs (j + 1)).next) H' (a.put o.dst v') w1 ⟨hI.next, k1, k2, fun i => ?_, fun i oi hi => ?_, fun k hk hnk i h1 h2 => ?_, ?_, fun d => ?_, ?_, ?_⟩
  · by_cases hw : Wr hs Ws j i
    · rw [lw1 i hw, g1 i hw, ((S.heap i).1 hw)]
    · rw [lw2 i hw, g2 i hw, hI.heap i]
  · by_cases hw : Wr hs Ws j i
    · rw [lw1 i hw]
      rw [g1 i hw] at hi
      obtain ⟨p, x, a1, a2, a3⟩ := hRR.dom i oi hi
      refine ⟨⟨p, x, le1 _ _ a1, a2, a3.mono le1⟩, fun k hk => ?_⟩
      obtain ⟨q, hq⟩ := hRR.plt i oi k hi hk
      exact ⟨q, le1 _ _ hq⟩
    · rw [lw2 i hw]
      rw [g2 i hw] at hi
      obtain ⟨⟨p, x, a1, a2, a3⟩, a4⟩ := hI.lev i oi hi
      have le2 := upto_mono k3 (hs (lw ops.size fun k => L k ∧ Wr hs Ws k i)).next
      refine ⟨⟨p, x, le2 _ _ a1, keep i oi p x hi (upto_sub _ _ _ _ a1) hw a2, a3.mono le2⟩, fun k hk => ?_⟩
      obtain ⟨q, hq⟩ := a4 k hk
      exact ⟨q, le2 _ _ hq⟩
  · have hnL : ¬ L k := fun h => hnk (.inl h)
    have hkj : k ≠ j := fun h => hnk (.inr h)
    rcases Nat.lt_or_ge k j with h | h
    · have := hs_mono hS j (k + 1) (by omega) (by omega)
      rw [k5 i (by omega)]
      exact hI.free k hk hnL i h1 h2
    · have := hs_mono hS k (j + 1) (by omega) (by omega)
      rw [k6 i (by omega)]
      exact hI.free k hk hnL i h1 h2
  · cases ho : o.dst with
    | none => exact hI.size
    | some d => simp [Act.put, hI.size]
  · have hsz : ∀ d, o.dst = some d → d < a.tmps.size := fun d h => by rw [hI.size]; exact S.dst d h
    by_cases hd : o.dst = some d
    · have e : (lw ops.size fun k => (L k ∨ k = j) ∧ ∃ o, ops[k]? = some o ∧ o.dst = some d) = j + 1 := by
        refine lw_eq hlt ⟨.inr rfl, o, hj, hd⟩ ?_
        rintro k hk ⟨hL | rfl, ok, hok, hdk⟩
        · rcases Nat.lt_or_ge j k with h | h
          · rcases S.conft d k ok (by omega) (.inr hd) hok hdk with h' | h'
            · have := hO.lt _ _ h'; omega
            · exact absurd (hI.down k hL j h') hn
          · exact h
        · exact Nat.le_refl _
      rw [e, S.tau d, if_pos hd]
      have : (a.put o.dst v').tmps.getD d undef = v' := by
        rw [hd]; simp [Act.put, Array.getD_eq_getD_getElem?, hsz d hd]
      rw [this]
      exact hv1.mono le1
    · have e : (lw ops.size fun k => (L k ∨ k = j) ∧ ∃ o, ops[k]? = some o ∧ o.dst = some d) = lw ops.size fun k => L k ∧ ∃ o, ops[k]? = some o ∧ o.dst = some d := by
        refine lw_congr _ fun k _ => ⟨?_, fun h => ⟨.inl h.1, h.2⟩⟩
        rintro ⟨hL | rfl, ok, hok, hdk⟩
        · exact ⟨hL, ok, hok, hdk⟩
        · rw [hj] at hok; injection hok with hok; subst hok; exact absurd hdk hd
      rw [e]
      have : (a.put o.dst v').tmps.getD d undef = a.tmps.getD d undef := by
        cases ho : o.dst with
        | none => rfl
        | some d' =>
          have hne : d' ≠ d := fun e => hd (by rw [ho, e])
          simp [Act.put, Array.getD_eq_getD_getElem?, Array.getElem?_setIfInBounds_ne hne]
      rw [this]
      exact (hI.tmps d).mono (upto_mono k3 _)
  · rw [put_defers]; exact hI.defers
  · rintro k (hL | rfl) i hb
    · exact .inl (hI.down k hL i hb)
    · exact .inl (hr i hb)


omit hS in
theorem lw_zero {n : Nat} {p : Nat → Prop} (h : ∀ k, k < n → ¬ p k) : lw n p = 0 := by
  cases e : lw n p with
  | zero => rfl
  | succ k => have := lw_is n p k e; exact absurd this.1 (h k this.2)
omit hS in
theorem Tn.grow {μ μ' : Mu} {H H' H'' : AHeap} {w w' : World} (t : Tn μ H w μ' H' w') (e : ∀ i, H''.get i = H'.get i) (en : H'.next ≤ H''.next) : Tn μ H w μ' H'' w' where
  lt := t.lt
  le := t.le
  old := t.old
  next := Nat.le_trans t.next en
  ext := t.ext
  img := fun i o p k => t.img i o p (by rw [← e]; exact k)
  dead := fun i o o' a b c => t.dead i o o' a b (by rw [← e]; exact c)
  dom := fun i o' a b => t.dom i o' a (by rw [← e]; exact b)
  par := fun j o' i a b c => t.par j o' i (by rw [← e]; exact a) b c
  kept := fun i o a b => (t.kept i o a b).imp id fun h => by rw [e]; exact h

/-- How many are not. -/
def cnt : Nat → (Nat → Bool) → Nat
  | 0, _ => 0
  | n + 1, p => cnt n p + (if p n then 0 else 1)
omit hS in
theorem cnt_le {p q : Nat → Bool} (h : ∀ k, p k = true → q k = true) : ∀ n, cnt n q ≤ cnt n p := by
  intro n
  induction n with
  | zero => exact Nat.le_refl _
  | succ n ih =>
    simp only [cnt]
    cases hp : p n with
    | true => rw [h n hp]; simp; exact ih
    | false => cases q n <;> simp <;> omega
omit hS in
theorem cnt_lt {p q : Nat → Bool} (h : ∀ k, p k = true → q k = true) {i : Nat} (hp : p i = false) (hq : q i = true) : ∀ n, i < n → cnt n q < cnt n p := by
  intro n
  induction n with
  | zero => intro h; omega
  | succ n ih =>
    intro hi
    simp only [cnt]
    rcases Nat.lt_or_ge i n with h1 | h1
    · have := ih h1
      cases hp' : p n with
      | true => rw [h n hp']; simp; exact this
      | false => cases q n <;> simp <;> omega
    · have : i = n := by omega
      subst this
      rw [hp, hq]
      have := cnt_le h i
      simp; omega
omit hS in
theorem cnt_all (n : Nat) (p : Nat → Bool) : cnt n p ≤ n := by
  induction n with
  | zero => exact Nat.le_refl _
  | succ n ih => simp only [cnt]; split <;> omega

theorem region_all (hO : ROrd ops B) {Q : Post} {μ0 : Mu} {w0 : World} (hR0 : Rel G μ0 (hs 0) w0) (hQ : Q .normal (τs ops.size) (hs ops.size)) : ∀ (fuel : Nat) (listed : Array Bool) (μ : Mu) (H : AHeap) (a : Act) (w : World), listed.size = ops.size →
    cnt ops.size (fun k => listed.getD k false) ≤ fuel → RInv P G NT ops B τs hs Ws μ0 w0 (fun k => listed.getD k false = true) μ H a w → wpAny P .any ops (Lift G NT μ0 (hs 0) w0 Q) fuel listed a w := by
  have done : ∀ (listed : Array Bool) (μ : Mu) (H : AHeap) (a : Act) (w : World), listed.size = ops.size → RInv P G NT ops B τs hs Ws μ0 w0 (fun k => listed.getD k false = true) μ H a w → Region.ready .any ops listed = [] → Lift G NT μ0 (hs 0) w0 Q .normal a w := by
    intro listed μ H a w hsz hI hr
    have all : ∀ j, j < ops.size → listed.getD j false = true := by
      intro j
      induction j using Nat.strongRecOn with
      | _ j ih =>
        intro hj
        cases hl : listed.getD j false with
        | true => rfl
        | false =>
          exfalso
          have hj2 : ops[j]? = some ops[j] := Array.getElem?_eq_getElem hj
          have : j ∈ Region.ready .any ops listed := by
            rw [mem_ready]
            refine ⟨?_, _, hj2, fun e he hb => ?_⟩
            · have h1 : j < listed.size := by omega
              simp only [Array.getD, h1, dite_true] at hl ⊢
              exact hl
            · have := hO.back j _ hj2 e he hb
              exact ih e.on this (by omega)
          rw [hr] at this; cases this
    have e1 : ∀ i, (hs ops.size).get i = H.get i := by
      intro i
      rw [hI.heap i]
      refine hs_same hS i _ _ (lw_le _ _) (Nat.le_refl _) fun m a b hw => ?_
      exact lw_no _ _ m b a ⟨all m b, hw⟩
    refine ⟨τs ops.size, hs ops.size, μ, hI.rel.congr e1 hI.next.symm, ⟨hI.size, fun d => ?_⟩, hI.defers, hI.tn.congr e1 hI.next.symm, hQ⟩
    have := (hI.tmps d).mono (upto_sub _ _)
    have e2 := ts_same hS d ops.size (lw ops.size fun k => listed.getD k false = true ∧ ∃ o, ops[k]? = some o ∧ o.dst = some d) (lw_le _ _) (Nat.le_refl _) fun m o a b hm hd => lw_no ops.size (fun k => listed.getD k false = true ∧ ∃ o, ops[k]? = some o ∧ o.dst = some d) m b a ⟨all m b, o, hm, hd⟩
    rw [e2]
    exact this
  intro fuel
  induction fuel with
  | zero =>
    intro listed μ H a w hsz hc hI
    have hr : Region.ready .any ops listed = [] := by
      cases h : Region.ready .any ops listed with
      | nil => rfl
      | cons j l =>
        have hm : j ∈ Region.ready .any ops listed := by rw [h]; simp
        obtain ⟨h1, o, h2, _⟩ := mem_ready.1 hm
        have hlt : j < ops.size := (Array.getElem?_eq_some_iff.1 h2).1
        have h1' : listed.getD j false = false := by
          have h1s : j < listed.size := by omega
          simp only [Array.getD, h1s, dite_true] at h1 ⊢
          exact h1
        have := cnt_lt (p := fun k => listed.getD k false) (q := fun _ => true) (fun _ _ => rfl) h1' rfl ops.size hlt
        omega
    exact ⟨hr, done listed μ H a w hsz hI hr⟩
  | succ fuel ih =>
    intro listed μ H a w hsz hc hI
    refine ⟨done listed μ H a w hsz hI, fun j hm => ?_⟩
    obtain ⟨h1, o, h2, h3⟩ := mem_ready.1 hm
    have hlt : j < ops.size := (Array.getElem?_eq_some_iff.1 h2).1
    have hls : j < listed.size := by omega
    have h1' : listed.getD j false = false := by
      simp only [Array.getD, hls, dite_true] at h1 ⊢
      exact h1
    refine region_step hS hO h2 hI hR0 (by rw [h1']; simp) (fun i hb => ?_) fun μ' H' a' w' hI' => ?_
    · obtain ⟨e, he, hbd, h⟩ := hO.src i j o hb h2
      have hl := h3 e he hbd
      rcases h with rfl | h
      · exact hl
      · exact hI.down _ hl i h
    · have hset : ∀ k, ((listed.setIfInBounds j true).getD k false = true) ↔ (listed.getD k false = true ∨ k = j) := by
        intro k
        by_cases e : k = j
        · subst e
          simp [Array.getD_eq_getD_getElem?, hls]
        · have : (listed.setIfInBounds j true).getD k false = listed.getD k false := by
            simp [Array.getD_eq_getD_getElem?, Array.getElem?_setIfInBounds_ne (Ne.symm e)]
          rw [this]
          simp [e]
      refine ih _ μ' H' a' w' (by simpa using hsz) ?_ ?_
      · have := cnt_lt (p := fun k => listed.getD k false) (q := fun k => (listed.setIfInBounds j true).getD k false) (fun k h => (hset k).2 (.inl h)) h1' ((hset j).2 (.inr rfl)) ops.size hlt
        omega
      · have e : (fun k => (listed.setIfInBounds j true).getD k false = true) = fun k => listed.getD k false = true ∨ k = j := by
          funext k; exact propext (hset k)
        rw [e]
        exact hI'

theorem acode_region_any (hm : P.follows .mixedOrders = true) (hO : ROrd ops B) {id : Nat} {Q : Post} (hQ : Q .normal (τs ops.size) (hs ops.size)) : ACode P G NT (.region id ops true) Q (τs 0) (hs 0) := by
  intro μ a w hR hT hd
  refine wp_region_any hm ?_
  have hRw : Rel G μ (hs 0) { w with drawn := w.drawn + 1 } := hR.world rfl
  have noL : ∀ k : Nat, (Array.replicate ops.size false).getD k false = true → False := by
    intro k h
    by_cases hk : k < ops.size
    · simp [Array.getD_eq_getD_getElem?, hk] at h
    · simp [Array.getD_eq_getD_getElem?, hk] at h
  have z : ∀ p : Nat → Prop, (lw ops.size fun k => (Array.replicate ops.size false).getD k false = true ∧ p k) = 0 := fun p => lw_zero fun k _ h => noL k h.1
  have hu : μ.upto (hs 0).next = μ := by
    funext i
    simp only [Mu.upto]
    split
    · rfl
    · rename_i h
      cases e : μ i with
      | none => rfl
      | some p => have := hR.fin i p e; omega
  have hnx : (hs 0).next ≤ (hs ops.size).next := hs_mono hS ops.size 0 (Nat.zero_le _) (Nat.le_refl _)
  have e0 : ∀ i, AHeap.get { t := .lf, next := (hs ops.size).next, back := (hs 0).get } i = (hs 0).get i := by
    intro i
    rcases Nat.lt_or_ge i (hs ops.size).next with h1 | h1
    · rw [AHeap.get_in (H := { t := .lf, next := (hs ops.size).next, back := (hs 0).get }) h1]; rfl
    · rw [AHeap.get_out (H := { t := .lf, next := (hs ops.size).next, back := (hs 0).get }) h1, AHeap.get_out]; omega
  refine region_all hS hO hR hQ ops.size _ μ { t := .lf, next := (hs ops.size).next, back := (hs 0).get } a _ (by simp) (cnt_all _ _) ⟨rfl, ?_, ?_, fun i => ?_, fun i o h => ?_, fun j hj _ i h1 h2 => ?_, hT.size, fun d => ?_, hd, fun j h => (noL j h).elim⟩
  · exact ⟨fun i o k => hRw.dom i o (by rw [← e0]; exact k), fun i p h => Nat.lt_of_lt_of_le (hR.fin i p h) hnx, Nat.le_trans hR.base hnx, hR.glob, fun i j oi oj pi pj a b c => hRw.sep i j oi oj pi pj a (by rw [← e0]; exact b) (by rw [← e0]; exact c),
      fun i j oi oj b c => hRw.ro i j oi oj (by rw [← e0]; exact b) (by rw [← e0]; exact c), fun i o j k => hRw.plt i o j (by rw [← e0]; exact k), fun i j oi oj pi pj b c => hRw.pend i j oi oj pi pj (by rw [← e0]; exact b) (by rw [← e0]; exact c)⟩
  · exact (Tn.world (w' := { w with drawn := w.drawn + 1 }) hR rfl rfl rfl rfl).grow e0 hnx
  · rw [z]; exact e0 i
  · rw [z, hu]
    rw [e0 i] at h
    exact ⟨hRw.dom i o h, fun j hj => hR.plt i o j h hj⟩
  · have := hs_mono hS j 0 (Nat.zero_le _) (by omega)
    cases e : μ i with
    | none => rfl
    | some p => have := hR.fin i p e; omega
  · rw [z, hu]
    exact hT.at_ d

end
end Go.Eng
