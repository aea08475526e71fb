/- The engine, part 18: what is wanted of code, as a proposition over abstract states with open values; laid out so that simp goes through it in the run's own order. -/
import Derived.Test.YtkjclebafpomhaaDoorEngQ
set_option linter.unusedVariables false
set_option linter.unusedSimpArgs false
namespace Go.Eng
open Go

/-! ### Going on with a result -/
def bindV (r : Option Value) (k : Value → Prop) : Prop := match r with | some v => k v | none => False
def bindR (r : Option (Value × AHeap)) (k : Value → AHeap → Prop) : Prop := match r with | some (v, H) => k v H | none => False
def bindH (r : Option AHeap) (k : AHeap → Prop) : Prop := match r with | some H => k H | none => False
def bindL (r : Option (List Value)) (k : List Value → Prop) : Prop := match r with | some v => k v | none => False
def bindP (r : Option (List (Nat × Value))) (k : List (Nat × Value) → Prop) : Prop := match r with | some v => k v | none => False
def bindO (r : Option (Option Value)) (k : Option Value → Prop) : Prop := match r with | some v => k v | none => False
def bindS (r : Option St) (k : Tmps → AHeap → Prop) : Prop := match r with | some s => k s.1 s.2 | none => False
/-- A truth that is looked at. -/
def ifW (r : Option Value) (p q : Prop) : Prop := match r with | some (.bool b) => (b = true → p) ∧ (b = false → q) | _ => False
def gdW (r : Option Value) (want : Bool) (p q : Prop) : Prop := match r with | some (.bool b) => (b = want → p) ∧ (b = !want → q) | some (.tuple _) => q | _ => False
theorem bindV_some (v : Value) (k : Value → Prop) : bindV (some v) k = k v := id rfl
theorem bindR_some (v : Value) (H : AHeap) (k : Value → AHeap → Prop) : bindR (some (v, H)) k = k v H := id rfl
theorem bindH_some (H : AHeap) (k : AHeap → Prop) : bindH (some H) k = k H := id rfl
theorem bindL_some (v : List Value) (k : List Value → Prop) : bindL (some v) k = k v := id rfl
theorem bindP_some (v : List (Nat × Value)) (k : List (Nat × Value) → Prop) : bindP (some v) k = k v := id rfl
theorem bindO_some (v : Option Value) (k : Option Value → Prop) : bindO (some v) k = k v := id rfl
theorem ifW_bool (b : Bool) (p q : Prop) : ifW (some (.bool b)) p q = ((b = true → p) ∧ (b = false → q)) := id rfl
theorem ifW_true (p q : Prop) : ifW (some (.bool true)) p q = p := by simp [ifW]
theorem ifW_false (p q : Prop) : ifW (some (.bool false)) p q = q := by simp [ifW]
theorem gdW_bool (b w : Bool) (p q : Prop) : gdW (some (.bool b)) w p q = ((b = w → p) ∧ (b = !w → q)) := id rfl
theorem gdW_yes (w : Bool) (p q : Prop) : gdW (some (.bool w)) w p q = p := by cases w <;> simp [gdW]
theorem gdW_tf (p q : Prop) : gdW (some (.bool true)) false p q = q := by simp [gdW]
theorem gdW_ft (p q : Prop) : gdW (some (.bool false)) true p q = q := by simp [gdW]
theorem gdW_undef (w : Bool) (p q : Prop) : gdW (some undef) w p q = q := id rfl
@[congr] theorem bindV_congr {r r' : Option Value} {k : Value → Prop} (h : r = r') : bindV r k = bindV r' k := by rw [h]
@[congr] theorem bindR_congr {r r' : Option (Value × AHeap)} {k : Value → AHeap → Prop} (h : r = r') : bindR r k = bindR r' k := by rw [h]
@[congr] theorem bindH_congr {r r' : Option AHeap} {k : AHeap → Prop} (h : r = r') : bindH r k = bindH r' k := by rw [h]
@[congr] theorem bindL_congr {r r' : Option (List Value)} {k : List Value → Prop} (h : r = r') : bindL r k = bindL r' k := by rw [h]
@[congr] theorem bindP_congr {r r' : Option (List (Nat × Value))} {k : List (Nat × Value) → Prop} (h : r = r') : bindP r k = bindP r' k := by rw [h]
@[congr] theorem bindO_congr {r r' : Option (Option Value)} {k : Option Value → Prop} (h : r = r') : bindO r k = bindO r' k := by rw [h]
@[congr] theorem ifW_congr {r r' : Option Value} {p q : Prop} (h : r = r') : ifW r p q = ifW r' p q := by rw [h]
@[congr] theorem gdW_congr {r r' : Option Value} {w : Bool} {p q : Prop} (h : r = r') : gdW r w p q = gdW r' w p q := by rw [h]

/-- A call of whatever function: with a Go body, by its contract; without, by its answer. -/
def CallsX (cx : Cx) (g : FuncId) (vs : List Value) (H : AHeap) (K : Value → AHeap → Prop) : Prop :=
  (∃ fn, cx.P.funcs[g]? = some fn ∧ fn.body.isSome = true ∧ (fn.name == "runtime.NumGoroutine") = false ∧ ACalls cx.P cx.G g vs H K) ∨
  (∃ v, vs.all (flat 0) = true ∧ prun cx.P (callFunc g vs.toArray) = some (.value v) ∧ flat 1 v = true ∧ K v H)
@[congr] theorem CallsX_congr {cx : Cx} {g : FuncId} {vs vs' : List Value} {H H' : AHeap} {K : Value → AHeap → Prop} (h1 : vs = vs') (h2 : H = H') : CallsX cx g vs H K = CallsX cx g vs' H' K := by rw [h1, h2]
/-- The same, with what goes on out of simp's way. -/
def KU (K : Value → AHeap → Prop) : Type := Unit
def CallsXu (cx : Cx) (g : FuncId) (vs : List Value) (H : AHeap) (K : Value → AHeap → Prop) (u : KU K) : Prop := CallsX cx g vs H K
/-- A function that is known by what it reckons. -/
def spW (cx : Cx) (g : FuncId) (F : Option (List Value → AHeap → Option (Value × AHeap))) (vs : List Value) (H : AHeap) (K : Value → AHeap → Prop) : Prop := match F with
  | some F => (∃ fn, cx.fn g = some fn) ∧ bindR (F vs H) K
  | none => CallsX cx g vs H K
@[congr] theorem spW_congr {cx : Cx} {g : FuncId} {F F' : Option (List Value → AHeap → Option (Value × AHeap))} {vs vs' : List Value} {H H' : AHeap} {K : Value → AHeap → Prop} (h0 : F = F') (h1 : vs = vs') (h2 : H = H') : spW cx g F vs H K = spW cx g F' vs' H' K := by rw [h0, h1, h2]
def callW (cx : Cx) (f : Value) (vs : List Value) (H : AHeap) (K : Value → AHeap → Prop) : Prop := match f with
  | .func (.func g) first cap => spW cx g (cx.sp g) (first.toList ++ vs ++ cap.toList) H K
  | _ => False
@[congr] theorem callW_congr {cx : Cx} {f f' : Value} {vs vs' : List Value} {H H' : AHeap} {K : Value → AHeap → Prop} (h0 : f = f') (h1 : vs = vs') (h2 : H = H') : callW cx f vs H K = callW cx f' vs' H' K := by rw [h0, h1, h2]
theorem callW_plain (cx : Cx) (g : FuncId) (vs : List Value) (H : AHeap) (K : Value → AHeap → Prop) : callW cx (.func (.func g) #[] #[]) vs H K = spW cx g (cx.sp g) vs H K := by simp [callW]

/-- An operation that is wanted. -/
def opW (cx : Cx) (op : Op) (τ : Tmps) (H : AHeap) (K : Value → AHeap → Prop) : Prop := match op with
  | .call { callee := .value f, args, .. } => bindV (aeval cx.G τ f) fun fv => bindL (aevals cx.G τ args.toList) fun vs => callW cx fv vs H K
  | op => bindR (aop cx.P cx.T cx.G τ op H) K
def opsW (cx : Cx) (N : Nat) (ops : Array Oper) (K : Tmps → AHeap → Prop) : List Oper → Tmps → AHeap → Prop
  | [], τ, H => K τ H
  | o :: l, τ, H =>
    let yes := opW cx o.op τ H fun v H' => match o.dst with
      | none => opsW cx N ops K l τ H'
      | some d => d < N ∧ opsW cx N ops K l (τ.put d (some v)) H'
    let no := match o.dst with
      | none => opsW cx N ops K l τ H
      | some d => d < N ∧ opsW cx N ops K l (τ.put d (some undef)) H
    match o.guard with
    | none => yes
    | some (j, want) => gdW (((ops[j]?).bind (·.dst)).map (tget τ)) want yes no
/-- The operation that a guard names. -/
def dstV (ops : List Oper) (j : Nat) (τ : Tmps) : Option Value := ((ops[j]?).bind (·.dst)).map (tget τ)
theorem dstV_succ (o : Oper) (l : List Oper) (j : Nat) (τ : Tmps) : dstV (o :: l) (j + 1) τ = dstV l j τ := by simp [dstV]
theorem dstV_zero (l : List Oper) (τ : Tmps) (d : Nat) (op : Op) (ty : TypeId) (ps : String) (af : Array Edge) (g : Option (Nat × Bool)) : dstV ({ dst := some d, op := op, type := ty, pos := ps, after := af, guard := g } :: l) 0 τ = some (tget τ d) := id rfl
/-- A region's operations from one on. -/
def opsL (cx : Cx) (N : Nat) (ops : List Oper) (K : Tmps → AHeap → Prop) (l : List Oper) (τ : Tmps) (H : AHeap) : Prop := opsW cx N ops.toArray K l τ H
@[congr] theorem opsL_congr {cx : Cx} {N : Nat} {ops : List Oper} {K : Tmps → AHeap → Prop} {l : List Oper} {τ τ' : Tmps} {H H' : AHeap} (h1 : τ = τ') (h2 : H = H') : opsL cx N ops K l τ H = opsL cx N ops K l τ' H' := by rw [h1, h2]
theorem opsW_nil (cx : Cx) (N : Nat) (ops : List Oper) (K : Tmps → AHeap → Prop) (τ : Tmps) (H : AHeap) : opsL cx N ops K [] τ H = K τ H := id rfl
theorem opsW_d (cx : Cx) (N : Nat) (ops : List Oper) (K : Tmps → AHeap → Prop) (l : List Oper) (τ : Tmps) (H : AHeap) (d : Nat) (op : Op) (ty : TypeId) (ps : String) (af : Array Edge) :
    opsL cx N ops K ({ dst := some d, op := op, type := ty, pos := ps, after := af, guard := none } :: l) τ H = opW cx op τ H fun v H' => d < N ∧ opsL cx N ops K l (τ.put d (some v)) H' := id rfl
theorem opsW_0 (cx : Cx) (N : Nat) (ops : List Oper) (K : Tmps → AHeap → Prop) (l : List Oper) (τ : Tmps) (H : AHeap) (op : Op) (ty : TypeId) (ps : String) (af : Array Edge) :
    opsL cx N ops K ({ dst := none, op := op, type := ty, pos := ps, after := af, guard := none } :: l) τ H = opW cx op τ H fun v H' => opsL cx N ops K l τ H' := id rfl
theorem opsW_gd (cx : Cx) (N : Nat) (ops : List Oper) (K : Tmps → AHeap → Prop) (l : List Oper) (τ : Tmps) (H : AHeap) (d j : Nat) (w : Bool) (op : Op) (ty : TypeId) (ps : String) (af : Array Edge) :
    opsL cx N ops K ({ dst := some d, op := op, type := ty, pos := ps, after := af, guard := some (j, w) } :: l) τ H = gdW (dstV ops j τ) w (opW cx op τ H fun v H' => d < N ∧ opsL cx N ops K l (τ.put d (some v)) H') (d < N ∧ opsL cx N ops K l (τ.put d (some undef)) H) := by
  unfold opsL; simp only [opsW, dstV, List.getElem?_toArray]
theorem opsW_g0 (cx : Cx) (N : Nat) (ops : List Oper) (K : Tmps → AHeap → Prop) (l : List Oper) (τ : Tmps) (H : AHeap) (j : Nat) (w : Bool) (op : Op) (ty : TypeId) (ps : String) (af : Array Edge) :
    opsL cx N ops K ({ dst := none, op := op, type := ty, pos := ps, after := af, guard := some (j, w) } :: l) τ H = gdW (dstV ops j τ) w (opW cx op τ H fun v H' => opsL cx N ops K l τ H') (opsL cx N ops K l τ H) := by
  unfold opsL; simp only [opsW, dstV, List.getElem?_toArray]
@[congr] theorem opW_congr {cx : Cx} {op : Op} {K : Value → AHeap → Prop} {τ τ' : Tmps} {H H' : AHeap} (h1 : τ = τ') (h2 : H = H') : opW cx op τ H K = opW cx op τ' H' K := by rw [h1, h2]

/-- Calls by what is known of the functions. -/
def callS (cx : Cx) : Calling := fun g vs H => match cx.fn g, cx.sp g with
  | some _, some F => F vs H
  | _, _ => none

abbrev PostW := Exit → Tmps → AHeap → Prop
def seqW (K : Tmps → AHeap → Prop) (Q : PostW) : PostW := fun e τ H => match e with
  | .normal => K τ H
  | e => Q e τ H
def blkW (id : Nat) (Q : PostW) : PostW := fun e τ H => match e with
  | .exit i => if i = id then Q .normal τ H else Q (.exit i) τ H
  | e => Q e τ H
def codeW (cx : Cx) (N : Nat) : Code → PostW → Tmps → AHeap → Prop
  | .skip, Q, τ, H => Q .normal τ H
  | .label _, Q, τ, H => Q .normal τ H
  | .ret, Q, τ, H => Q .ret τ H
  | .exit i, Q, τ, H => Q (.exit i) τ H
  | .seq a b, Q, τ, H => codeW cx N a (seqW (codeW cx N b Q) Q) τ H
  | .cond c a b, Q, τ, H => ifW (aeval cx.G τ c) (codeW cx N a Q τ H) (codeW cx N b Q τ H)
  | .block i c, Q, τ, H => codeW cx N c (blkW i Q) τ H
  | .loop c, Q, τ, H => ∃ (I : Nat → Tmps → AHeap → Prop) (n : Nat), I n τ H ∧ ∀ n τ H, I n τ H → codeW cx N c (seqW (fun τ' H' => ∃ m, m < n ∧ I m τ' H') Q) τ H
  | .region id ops d, Q, τ, H => bif d then ACode cx.P cx.G N (.region id ops true) Q τ H else opsW cx N ops (Q .normal) ops.toList τ H
  | _, _, _, _ => False
@[congr] theorem codeW_congr {cx : Cx} {N : Nat} {c : Code} {Q : PostW} {τ τ' : Tmps} {H H' : AHeap} (h1 : τ = τ') (h2 : H = H') : codeW cx N c Q τ H = codeW cx N c Q τ' H' := by rw [h1, h2]
@[congr] theorem seqW_congr {K : Tmps → AHeap → Prop} {Q : PostW} {e : Exit} {τ τ' : Tmps} {H H' : AHeap} (h1 : τ = τ') (h2 : H = H') : seqW K Q e τ H = seqW K Q e τ' H' := by rw [h1, h2]
@[congr] theorem blkW_congr {i : Nat} {Q : PostW} {e : Exit} {τ τ' : Tmps} {H H' : AHeap} (h1 : τ = τ') (h2 : H = H') : blkW i Q e τ H = blkW i Q e τ' H' := by rw [h1, h2]
section
variable (cx : Cx) (N : Nat) (Q : PostW) (τ : Tmps) (H : AHeap)
theorem codeW_skip : codeW cx N .skip Q τ H = Q .normal τ H := id rfl
theorem codeW_label (i : Nat) : codeW cx N (.label i) Q τ H = Q .normal τ H := id rfl
theorem codeW_ret : codeW cx N .ret Q τ H = Q .ret τ H := id rfl
theorem codeW_exit (i : Nat) : codeW cx N (.exit i) Q τ H = Q (.exit i) τ H := id rfl
theorem codeW_seq (a b : Code) : codeW cx N (.seq a b) Q τ H = codeW cx N a (seqW (codeW cx N b Q) Q) τ H := id rfl
theorem codeW_cond (c : Operand) (a b : Code) : codeW cx N (.cond c a b) Q τ H = ifW (aeval cx.G τ c) (codeW cx N a Q τ H) (codeW cx N b Q τ H) := id rfl
theorem codeW_block (i : Nat) (c : Code) : codeW cx N (.block i c) Q τ H = codeW cx N c (blkW i Q) τ H := id rfl
theorem codeW_region (i : Nat) (ops : List Oper) : codeW cx N (.region i ops.toArray false) Q τ H = opsL cx N ops (Q .normal) ops τ H := id rfl
theorem codeW_draws (i : Nat) (ops : Array Oper) : codeW cx N (.region i ops true) Q τ H = ACode cx.P cx.G N (.region i ops true) Q τ H := id rfl
theorem seqW_normal (K : Tmps → AHeap → Prop) : seqW K Q .normal τ H = K τ H := id rfl
theorem seqW_ret (K : Tmps → AHeap → Prop) : seqW K Q .ret τ H = Q .ret τ H := id rfl
theorem seqW_exit (K : Tmps → AHeap → Prop) (i : Nat) : seqW K Q (.exit i) τ H = Q (.exit i) τ H := id rfl
theorem blkW_normal (i : Nat) : blkW i Q .normal τ H = Q .normal τ H := id rfl
theorem blkW_ret (i : Nat) : blkW i Q .ret τ H = Q .ret τ H := id rfl
theorem blkW_exit (i j : Nat) : blkW i Q (.exit j) τ H = if j = i then Q .normal τ H else Q (.exit j) τ H := id rfl
theorem blkW_here (i : Nat) : blkW i Q (.exit i) τ H = Q .normal τ H := by simp [blkW]
end
/-- A loop. -/
theorem codeW_loop {cx : Cx} {N : Nat} {c : Code} {Q : PostW} {τ : Tmps} {H : AHeap} (I : Nat → Tmps → AHeap → Prop) {n : Nat} (h : I n τ H) (round : ∀ n τ H, I n τ H → codeW cx N c (seqW (fun τ' H' => ∃ m, m < n ∧ I m τ' H') Q) τ H) : codeW cx N (.loop c) Q τ H :=
  ⟨I, n, h, round⟩

section
variable {cx : Cx} {N : Nat}

theorem callS_ok (hc : CxOK cx) : CallOK cx (callS cx) := by
  intro g vs H v H' h
  unfold callS at h
  split at h
  · rename_i fn F hf hF
    obtain ⟨e1, e2⟩ := hc.sp g fn F hf hF
    exact ⟨fn, hf, .inl ⟨e1, e2 vs H v H' h⟩⟩
  · cases h

theorem opsW_ok (hc : CxOK cx) {ops : Array Oper} {Q : Post} : ∀ (l : List Oper) (τ : Tmps) (H : AHeap), opsW cx N ops (Q .normal) l τ H → AOps cx.P cx.G N ops Q l τ H := by
  intro l
  induction l with
  | nil => intro τ H h; exact aops_nil h
  | cons o l ih =>
    intro τ H h
    have put : ∀ (τ : Tmps) (v : Value) (H' : AHeap), (match o.dst with
        | none => opsW cx N ops (Q .normal) l τ H'
        | some d => d < N ∧ opsW cx N ops (Q .normal) l (τ.put d (some v)) H') → ∃ τ', aput N o.dst v τ = some τ' ∧ AOps cx.P cx.G N ops Q l τ' H' := by
      intro τ v H' h
      split at h
      · rename_i hd; exact ⟨τ, by rw [hd]; rfl, ih _ _ h⟩
      · rename_i d hd; exact ⟨_, by rw [hd]; unfold aput; simp [h.1], ih _ _ h.2⟩
    have skip : (match o.dst with
        | none => opsW cx N ops (Q .normal) l τ H
        | some d => d < N ∧ opsW cx N ops (Q .normal) l (τ.put d (some undef)) H) → awanted ops τ o = some false → AOps cx.P cx.G N ops Q (o :: l) τ H := by
      intro hp hw
      obtain ⟨τ', h1, h2⟩ := put _ _ _ hp
      exact aops_skip hw h1 h2
    have go : (opW cx o.op τ H fun v H' => match o.dst with
        | none => opsW cx N ops (Q .normal) l τ H'
        | some d => d < N ∧ opsW cx N ops (Q .normal) l (τ.put d (some v)) H') → awanted ops τ o = some true → AOps cx.P cx.G N ops Q (o :: l) τ H := by
      intro hp hw
      unfold opW at hp
      split at hp
      · rename_i f args ts sp hop
        unfold bindV bindL at hp
        split at hp
        · rename_i fv hf
          split at hp
          · rename_i vs hvs
            unfold callW at hp
            split at hp
            · rename_i g first cap
              have hg : acallee cx.G τ o.op = some (g, first.toList ++ vs ++ cap.toList) := by unfold acallee; rw [hop]; simp only [hf, hvs]
              unfold spW at hp
              split at hp
              · rename_i F hF
                obtain ⟨⟨fn, hfn⟩, hp⟩ := hp
                unfold bindR at hp
                split at hp
                · rename_i v H' hr
                  obtain ⟨e1, e2⟩ := hc.sp g fn F hfn hF
                  refine aops_call hw hg (hc.fn g fn hfn).1 e1 (hc.fn g fn hfn).2 (e2 _ _ _ _ hr) ?_
                  rintro v1 H1 ⟨rfl, rfl⟩
                  exact put _ _ _ hp
                · cases hp
              · rcases hp with ⟨fn, f1, f2, f3, f4⟩ | ⟨v, f1, f2, f3, f4⟩
                · exact aops_call hw hg f1 f2 f3 f4 fun v H' hk => put _ _ _ hk
                · obtain ⟨τ', h1, h2⟩ := put _ _ _ f4
                  exact aops_ext hw hg f1 f2 f3 h1 h2
            · cases hp
          · cases hp
        · cases hp
      · rename_i hop
        unfold bindR at hp
        split at hp
        · rename_i v H' ho
          obtain ⟨τ', h1, h2⟩ := put _ _ _ hp
          exact aops_op hc.tb hw ho h1 h2
        · cases hp
    simp only [opsW] at h
    split at h
    · rename_i hg
      exact go h (by unfold awanted; rw [hg])
    · rename_i j want hg
      unfold gdW at h
      split at h
      · rename_i b hb
        obtain ⟨d, hd, hv⟩ := Option.map_eq_some_iff.1 hb
        by_cases e : b = want
        · exact go (h.1 e) (by unfold awanted; rw [hg]; simp only [hd, hv, e, beq_self_eq_true])
        · have e' : b = !want := by cases b <;> cases want <;> simp_all
          exact skip (h.2 e') (by unfold awanted; rw [hg]; simp only [hd, hv, e']; cases want <;> rfl)
      · rename_i c hb
        obtain ⟨d, hd, hv⟩ := Option.map_eq_some_iff.1 hb
        exact skip h (by unfold awanted; rw [hg]; simp only [hd, hv])
      · cases h

theorem codeW_ok (hc : CxOK cx) : ∀ (c : Code) (Q : Post) (τ : Tmps) (H : AHeap), codeW cx N c Q τ H → ACode cx.P cx.G N c Q τ H := by
  intro c
  induction c with
  | skip => intro Q τ H h; exact acode_skip h
  | label l => intro Q τ H h; exact acode_label h
  | ret => intro Q τ H h; exact acode_ret h
  | exit i => intro Q τ H h; exact acode_exit h
  | seq a b iha ihb =>
    intro Q τ H h
    refine acode_seq ((iha _ τ H h).mono ?_)
    intro e τ' H' h'
    cases e with
    | normal => exact ihb Q τ' H' h'
    | _ => exact h'
  | cond c a b iha ihb =>
    intro Q τ H h
    simp only [codeW] at h
    unfold ifW at h
    split at h
    · rename_i v hv
      cases v with
      | true => exact acode_cond hv (iha Q τ H (h.1 rfl))
      | false => exact acode_cond hv (ihb Q τ H (h.2 rfl))
    · cases h
  | block i c ih =>
    intro Q τ H h
    refine acode_block ((ih _ τ H h).mono ?_)
    intro e τ' H' h'
    cases e with
    | exit k => exact h'
    | _ => exact h'
  | loop c ih =>
    intro Q τ H h
    obtain ⟨I, n, h1, h2⟩ := h
    refine acode_loop I (fun n τ H hI => ?_) h1
    refine (ih _ τ H (h2 n τ H hI)).mono ?_
    intro e τ' H' h'
    cases e with
    | normal => exact h'
    | _ => exact h'
  | region id ops d =>
    intro Q τ H h
    cases d with
    | false => exact acode_region (opsW_ok hc _ τ H h)
    | true => exact h
  | _ => intro Q τ H h; cases h

/-- Results. -/
def resW (cx : Cx) (rs : List ResultVar) (Q : Value → AHeap → Prop) : PostW := fun e τ H => (e = .normal ∨ e = .ret) ∧ bindL (aresults cx.T τ H rs) fun vs => Q (wrapR vs) H
theorem acalls_w (hc : CxOK cx) {f : FuncId} {fn : Func} {c : Code} {args : List Value} {H : AHeap} {Q : Value → AHeap → Prop} (hf : cx.fn f = some fn) (hb : fn.body = some c) (hN : args.length ≤ fn.ntmps)
    (h : codeW cx fn.ntmps c (resW cx fn.results.toList Q) (initT 0 args) H) : ACalls cx.P cx.G f args H Q :=
  acalls_of hc.tb (hc.fn f fn hf).1 hb hN ((codeW_ok hc _ _ _ _ h).mono fun e τ H' h => by
    obtain ⟨h1, h2⟩ := h
    unfold bindL at h2
    split at h2
    · rename_i vs hvs; exact ⟨h1, vs, hvs, h2⟩
    · cases h2)
theorem callsx_of (hc : CxOK cx) {g : FuncId} {fn : Func} {vs : List Value} {H : AHeap} {K K' : Value → AHeap → Prop} (hf : cx.fn g = some fn) (hb : fn.body.isSome = true) (h : ACalls cx.P cx.G g vs H K') (hk : ∀ v H', K' v H' → K v H') : CallsXu cx g vs H K () :=
  .inl ⟨fn, (hc.fn g fn hf).1, hb, (hc.fn g fn hf).2, h.mono hk⟩
end
end Go.Eng
