/- The engine, part 8: arithmetic, comparisons, lengths, copies, interfaces. -/
import Derived.Test.YtkjclebafpomhaaDoorEngG
set_option linter.unusedVariables false
set_option linter.unusedSimpArgs false
namespace Go.Eng
open Go
section
variable {P : Program} {G : Nat} {μ : Mu} {H : AHeap} {w : World} {T : Tb}

/-! ### Two operands -/
/-- Held against nil; two pointers held against each other. -/
def aEqP (T : Tb) (t : TypeId) (x y : Value) (H : AHeap) : Option Bool :=
  match T.und t, x, y with
  | some (.pointer _), .pointer none, .pointer b => some b.isNone
  | some (.pointer _), .pointer (some _), .pointer none => some false
  | some (.pointer e), .pointer (some a), .pointer (some b) =>
    match T.info e with
    | some i =>
      if i.size = 0 then none else
      if a.block = b.block then some (a.off == b.off)
      else match H.get a.block, H.get b.block with
        | some (.cells _ _ [] 0), some (.cells _ _ [] 0) => some false
        | _, _ => none
    | none => none
  | some (.slice _), .slice none _ _, .slice b _ _ => some b.isNone
  | some (.slice _), .slice (some _) _ _, .slice none _ _ => some false
  | some (.map _ _), .map none, .map b => some b.isNone
  | some (.map _ _), .map (some _), .map none => some false
  | some (.func _ _ _), .nilFunc, .nilFunc => some true
  | some (.func _ _ _), .nilFunc, .func _ _ _ => some false
  | some (.func _ _ _), .func _ _ _, .nilFunc => some false
  | some (.interface _), .nilIface, .iface _ _ => some false
  | some (.interface _), .iface _ _, .nilIface => some false
  | _, _, _ => none

theorem frozen_plain {b : Nat} {c : Array Value} {e : TypeId} (h : w.heap[b]? = some (.cells c e (0, 0))) (o : Nat) (sp : Option Nat) : w.frozen? ⟨b, o, sp⟩ = false := by
  simp [World.frozen?, h]

theorem aEqP_ok (hT : TbOK P T) (hR : Rel G μ H w) {t : TypeId} {x x' y y' : Value} {b : Bool} (hx : VRel μ x x') (hy : VRel μ y y') (h : aEqP T t x y H = some b) (d : Nat) :
    (Op.equalIn (d + 1) t x' y').run P w = .ok b w := by
  unfold aEqP at h
  split at h
  · rename_i e a hu; injection h with h; subst h; cases hx; cases hy <;> simp [Op.equalIn, run_und hT hu]
  · rename_i e a hu; injection h with h; subst h; cases hx; cases hy; simp [Op.equalIn, run_und hT hu]
  · rename_i e a b hu
    obtain ⟨i, o, p, rfl, hp, rfl⟩ := ptr_inv hx
    obtain ⟨j, q, r, rfl, hr, rfl⟩ := ptr_inv hy
    split at h
    · rename_i inf hi
      split at h
      · cases h
      · rename_i hz
        split at h
        · rename_i hij
          injection h with h
          simp only at hij
          subst hij
          rw [hp] at hr
          injection hr with hr
          subst hr
          subst h
          simp [Op.equalIn, run_und hT hu, run_size hT hi, hz, sameAddr]
          by_cases e1 : o = q
          · simp [e1]
          · have : (({ block := p.b, off := p.s + o } : Addr) == { block := p.b, off := p.s + q }) = false := by
              rw [beq_eq_false_iff_ne]; intro h; injection h with _ h2; omega
            rw [this]
            simp [e1]
        · rename_i hij
          split at h
          · rename_i c1 ro1 c2 ro2 g1 g2
            injection h with h
            subst h
            simp only at g1 g2 hij
            obtain ⟨ca, ea, l1, h1, k1, _, _, _, _, _, _, f1⟩ := hR.cells g1 hp
            obtain ⟨cb, eb, l2, h2, k2, _, _, _, _, _, _, f2⟩ := hR.cells g2 hr
            obtain ⟨rfl, rfl⟩ := f1 rfl
            obtain ⟨rfl, rfl⟩ := f2 rfl
            have hne : p.b ≠ r.b := by
              intro e1
              rcases hR.sep i j _ _ p r hij g1 g2 hp hr e1 with hh | hh <;> cases hh
            have z1 : ∀ o sp, w.frozen? ⟨p.b, o, sp⟩ = false := frozen_plain k1
            have z2 : ∀ o sp, w.frozen? ⟨r.b, o, sp⟩ = false := frozen_plain k2
            have s1 : w.shape? p.b = some (ea, ca.size) := by simp [World.shape?, k1]
            have s2 : w.shape? r.b = some (eb, cb.size) := by simp [World.shape?, k2]
            simp [Op.equalIn, run_und hT hu, run_size hT hi, hz, sameAddr, hne, z1, z2, noView, viewAt, s1, s2, mayBeOne, stringish]
          · cases h
    · cases h
  · rename_i e l c b l2 c2 hu; injection h with h; subst h; cases hx; cases hy <;> simp [Op.equalIn, run_und hT hu]
  · rename_i e a l c l2 c2 hu; injection h with h; subst h; cases hy; cases hx <;> simp [Op.equalIn, run_und hT hu]
  · rename_i k e b hu; injection h with h; subst h; cases hx; cases hy <;> simp [Op.equalIn, run_und hT hu]
  · rename_i k e a hu; injection h with h; subst h; cases hx; cases hy; simp [Op.equalIn, run_und hT hu]
  · rename_i ps rs v hu; injection h with h; subst h; cases hx; cases hy; simp [Op.equalIn, run_und hT hu]
  · rename_i ps rs v f c cc hu; injection h with h; subst h; cases hx; cases hy; simp [Op.equalIn, run_und hT hu]
  · rename_i ps rs v f c cc hu; injection h with h; subst h; cases hx; cases hy; simp [Op.equalIn, run_und hT hu]
  · rename_i ms t0 v0 hu; injection h with h; subst h; cases hx; cases hy; simp [Op.equalIn, run_und hT hu]
  · rename_i ms t0 v0 hu; injection h with h; subst h; cases hx; cases hy; simp [Op.equalIn, run_und hT hu]
  · cases h

/-- Neither a number nor a text nor a struct. -/
def handle : Value → Bool
  | .pointer _ | .slice _ _ _ | .map _ | .func _ _ _ | .nilFunc | .iface _ _ => true
  | _ => false
theorem aEqP_handle {t : TypeId} {x y : Value} {b : Bool} (h : aEqP T t x y H = some b) : (handle x = true ∧ (handle y = true ∨ y = .nilIface)) ∨ (x = .nilIface ∧ handle y = true) := by
  unfold aEqP at h
  split at h <;> first | (exact .inl ⟨rfl, .inl rfl⟩) | (exact .inl ⟨rfl, .inr rfl⟩) | (exact .inr ⟨rfl, rfl⟩) | (cases h; done)
theorem handle_rel {x x' : Value} (h : VRel μ x x') (k : handle x = true) : handle x' = true := by cases h <;> first | rfl | (cases k; done)
theorem handle_bin {x y : Value} (t : TypeId) (ox oy : Operand) (h : (handle x = true ∧ (handle y = true ∨ y = .nilIface)) ∨ (x = .nilIface ∧ handle y = true)) :
    (∀ op, (op = .eql ∨ op = .neq) → (eqGuard op t ox oy x y).run P w = .ok () w) ∧ binOp .eql t x y = (do pure (.bool (← Op.equal t x y))) ∧ binOp .neq t x y = (do pure (.bool (!(← Op.equal t x y)))) := by
  rcases h with ⟨h, h2⟩ | ⟨rfl, h2⟩
  · cases x <;> first | (cases h; done) | skip
    all_goals
      rcases h2 with h2 | rfl
      · cases y <;> first | (cases h2; done) | (refine ⟨fun op ho => ?_, rfl, rfl⟩; rcases ho with rfl | rfl <;> rfl)
      · refine ⟨fun op ho => ?_, rfl, rfl⟩; rcases ho with rfl | rfl <;> rfl
  · cases y <;> first | (cases h2; done) | (refine ⟨fun op ho => ?_, rfl, rfl⟩; rcases ho with rfl | rfl <;> rfl)

def aBin (P : Program) (T : Tb) (op : BinOp) (t : TypeId) (ox oy : Operand) (x y : Value) (H : AHeap) : Option Value :=
  if flat 2 x && flat 2 y then prun P (do eqGuard op t ox oy x y; binOp op t x y)
  else match op with
    | .eql => (aEqP T t x y H).map .bool
    | .neq => (aEqP T t x y H).map fun b => .bool !b
    | _ => none

theorem aBin_ok (hT : TbOK P T) (hR : Rel G μ H w) {op : BinOp} {t : TypeId} {ox oy : Operand} {x x' y y' v : Value} (hx : VRel μ x x') (hy : VRel μ y y')
    (h : aBin P T op t ox oy x y H = some v) (hv : flat 1 v = true) : Snd P G μ H w (do eqGuard op t ox oy x' y'; binOp op t x' y') (v, H) := by
  unfold aBin at h
  split at h
  · rename_i hf
    simp only [Bool.and_eq_true] at hf
    rw [flat_eq hx 2 hf.1, flat_eq hy 2 hf.2]
    exact Snd.same hR (prun_run P _ _ h w) (flat_rel 1 v hv)
  · have key : ∀ b, aEqP T t x y H = some b → ((handle x' = true ∧ (handle y' = true ∨ y' = .nilIface)) ∨ (x' = .nilIface ∧ handle y' = true)) ∧ (Op.equal t x' y').run P w = .ok b w := by
      intro b hb
      refine ⟨?_, aEqP_ok hT hR hx hy hb 9999⟩
      rcases aEqP_handle hb with ⟨h1, h2⟩ | ⟨rfl, h2⟩
      · refine .inl ⟨handle_rel hx h1, ?_⟩
        rcases h2 with h2 | rfl
        · exact .inl (handle_rel hy h2)
        · cases hy; exact .inr rfl
      · cases hx; exact .inr ⟨rfl, handle_rel hy h2⟩
    split at h
    · obtain ⟨b, hb, rfl⟩ := Option.map_eq_some_iff.1 h
      obtain ⟨k1, k2⟩ := key b hb
      obtain ⟨g1, g2, g3⟩ := handle_bin (P := P) (w := w) t ox oy k1
      refine Snd.same hR (v' := .bool b) ?_ (.bool _)
      simp only [Sem.run_bind, g1 .eql (.inl rfl), Result.andThen_ok, g2, k2, Sem.run_pure]
    · obtain ⟨b, hb, rfl⟩ := Option.map_eq_some_iff.1 h
      obtain ⟨k1, k2⟩ := key b hb
      obtain ⟨g1, g2, g3⟩ := handle_bin (P := P) (w := w) t ox oy k1
      refine Snd.same hR (v' := .bool !b) ?_ (.bool _)
      simp only [Sem.run_bind, g1 .neq (.inr rfl), Result.andThen_ok, g3, k2, Sem.run_pure]
    · cases h

/-! ### One operand -/
def aUn (P : Program) (op : UnOp) (x : Value) : Option Value := if flat 0 x then prun P (Op.unary op x) else none
theorem aUn_ok (hR : Rel G μ H w) {op : UnOp} {x x' v : Value} (hx : VRel μ x x') (h : aUn P op x = some v) (hv : flat 1 v = true) : Snd P G μ H w (Op.unary op x') (v, H) := by
  unfold aUn at h
  split at h
  · rename_i hf
    rw [flat_eq hx 0 hf]
    exact Snd.same hR (prun_run P _ _ h w) (flat_rel 1 v hv)
  · cases h

/-! ### Lengths; the least, the greatest -/
def aLen (T : Tb) (t : TypeId) (x : Value) (H : AHeap) : Option Value :=
  match T.und t, x with
  | some .string, .string s => some (.int .i64 s.size)
  | some (.array n _), _ => some (.int .i64 n)
  | some (.pointer e), _ => (match T.und e with | some (.array n _) => some (.int .i64 n) | _ => none)
  | some (.slice _), .slice _ n _ => some (.int .i64 n)
  | some (.map _ _), .map none => some (.int .i64 0)
  | some (.map _ _), .map (some r) => (match H.get r with | some (.map es _ _) => some (.int .i64 es.length) | _ => none)
  | _, _ => none

theorem map_at (hR : Rel G μ H w) {r : Nat} {p : Pl} {es : List MapEntry} {k : Nat} {ro : Bool} (hp : μ r = some p) (hg : H.get r = some (.map es k ro)) :
    ∃ es' : Array MapEntry, w.heap[p.b]? = some (.map es' k) ∧ es.length = es'.size ∧ ∀ i, i < es.length → EntRel μ (es.getD i default) (es'.getD i default) := by
  obtain ⟨q, x, hq, hx, ho⟩ := hR.dom _ _ hg
  rw [hp] at hq
  injection hq with hq
  subst hq
  cases ho with
  | map a b => exact ⟨_, hx, a, b⟩
theorem run_getObj {r : Nat} {o : Obj} (h : w.heap[r]? = some o) (hn : ∀ c e f, o ≠ .cells c e f) : (getObj r).run P w = .ok o w := by
  simp only [getObj, Sem.run, h]
theorem run_setObj {r : Nat} {o o' : Obj} (h : w.heap[r]? = some o) (hn : ∀ c e f, o ≠ .cells c e f) : (setObj r o').run P w = .ok () { w with heap := w.heap.setIfInBounds r o' } := by
  simp only [setObj, Sem.run, h]

theorem aLen_ok (hT : TbOK P T) (hR : Rel G μ H w) {t ty : TypeId} {ts : Array TypeId} {x x' v : Value} (hx : VRel μ x x') (h : aLen T t x H = some v) (hts : ts[0]? = some t) :
    Snd P G μ H w (Builtin.len_ ts ty #[x']) (v, H) := by
  unfold aLen at h
  split at h
  · rename_i s hu; injection h with h; subst h; cases hx
    exact Snd.same hR (v' := .int .i64 s.size) (by simp [Builtin.len_, hts, run_und hT hu, goInt]) (.int _ _)
  · rename_i n e hu; injection h with h; subst h
    exact Snd.same hR (v' := .int .i64 n) (by simp [Builtin.len_, hts, run_und hT hu, goInt]) (.int _ _)
  · rename_i e hu
    split at h
    · rename_i n e' he; injection h with h; subst h
      exact Snd.same hR (v' := .int .i64 n) (by simp [Builtin.len_, hts, run_und hT hu, run_und hT he, goInt]) (.int _ _)
    · cases h
  · rename_i e a n c hu; injection h with h; subst h
    cases hx <;> exact Snd.same hR (v' := .int .i64 _) (by simp [Builtin.len_, hts, run_und hT hu, goInt]; done) (.int _ _)
  · rename_i k e hu; injection h with h; subst h; cases hx
    exact Snd.same hR (v' := .int .i64 0) (by simp [Builtin.len_, hts, run_und hT hu, goInt]) (.int _ _)
  · rename_i k e r hu
    split at h
    · rename_i es ck ro hg
      injection h with h; subst h
      cases hx with
      | map hp =>
        obtain ⟨es', a, b, c⟩ := map_at hR hp hg
        have := run_getObj (P := P) a (fun _ _ _ h => by cases h)
        exact Snd.same hR (v' := .int .i64 es.length) (by simp [Builtin.len_, hts, run_und hT hu, this, goInt, b]) (.int _ _)
    · cases h
  · cases h

def aMin (P : Program) (mx : Bool) (xs : List Value) : Option Value :=
  if xs.all (flat 0) then prun P (if mx then Builtin.max_ #[] 0 xs.toArray else Builtin.min_ #[] 0 xs.toArray) else none

/-! ### Interfaces, functions -/
def aIface (T : Tb) (t : TypeId) (x : Value) : Option Value :=
  match T.und t with
  | some (.interface _) => none
  | some _ => some (.iface t x)
  | none => none
theorem aIface_ok (hT : TbOK P T) (hR : Rel G μ H w) {t : TypeId} {x x' v : Value} (hx : VRel μ x x') (h : aIface T t x = some v) : Snd P G μ H w (Instr.makeInterface t x') (v, H) := by
  unfold aIface at h
  split at h
  · cases h
  · rename_i d hd hu
    injection h with h
    subst h
    refine Snd.same hR (v' := .iface t x') ?_ (.iface t hx)
    simp only [Instr.makeInterface, Sem.run_bind, run_und hT hu, Result.andThen_ok]
    cases d <;> first | rfl | exact absurd rfl (hd _)
  · cases h

def aArrAt (T : Tb) (t : TypeId) (x : Value) : Option Value :=
  match T.und t, x with
  | some (.array n _), .slice (some a) len c => if n ≤ len ∧ c ≠ empt then some (.pointer (some a)) else none
  | _, _ => none
theorem aArrAt_ok (hT : TbOK P T) (hR : Rel G μ H w) {t : TypeId} {x x' v : Value} (hx : VRel μ x x') (h : aArrAt T t x = some v) : Snd P G μ H w (Instr.arrayAt t x') (v, H) := by
  unfold aArrAt at h
  split at h
  · rename_i n e a len c hu
    split at h
    · rename_i hl
      injection h with h
      subst h
      cases hx with
      | slice hp hcap =>
        refine Snd.same hR ?_ (.ptr hp)
        simp [Instr.arrayAt, run_und hT hu, show ¬ (len < n) by omega]
      | empty => exact absurd rfl hl.2
    · cases h
  · cases h

end
end Go.Eng
