/- The engine, part 11: code: what holds behind it, over the abstract states. -/
import Derived.Test.YtkjclebafpomhaaDoorEngJ
set_option linter.unusedVariables false
set_option linter.unusedSimpArgs false
namespace Go.Eng
open Go

/-- A state of a function: its places, the heap. -/
abbrev Post := Exit → Tmps → AHeap → Prop

section
variable {P : Program} {G : Nat} {T : Tb} {N : Nat}

/-- From (μ, H, w) on: a state later, of which Q holds. -/
def Lift (G : Nat) (N : Nat) (μ : Mu) (H : AHeap) (w : World) (Q : Post) : Exit → Act → World → Prop := fun e a' w' =>
  ∃ τ' H' μ', Rel G μ' H' w' ∧ TRel μ' N τ' a'.tmps ∧ a'.defers = [] ∧ Tn μ H w μ' H' w' ∧ Q e τ' H'

/-- Whatever world says the same: behind the code Q holds. -/
def ACode (P : Program) (G N : Nat) (c : Code) (Q : Post) (τ : Tmps) (H : AHeap) : Prop :=
  ∀ μ a w, Rel G μ H w → TRel μ N τ a.tmps → a.defers = [] → c.wp P (Lift G N μ H w Q) a w

def ACalls (P : Program) (G : Nat) (f : FuncId) (args : List Value) (H : AHeap) (Q : Value → AHeap → Prop) : Prop :=
  ∀ μ w (args' : Array Value), Rel G μ H w → LRel μ args args'.toList → Calls P f args' w fun e w' =>
    ∃ v v' H' μ', e = .returned v' ∧ VRel μ' v v' ∧ Rel G μ' H' w' ∧ Tn μ H w μ' H' w' ∧ Q v H'

theorem ACalls.mono {f : FuncId} {args : List Value} {H : AHeap} {Q Q' : Value → AHeap → Prop} (h : ACalls P G f args H Q) (hq : ∀ v H', Q v H' → Q' v H') : ACalls P G f args H Q' :=
  fun μ w args' hR hA => (h μ w args' hR hA).mono fun _ _ ⟨v, v', H', μ', e1, e2, e3, e4, e5⟩ => ⟨v, v', H', μ', e1, e2, e3, e4, hq _ _ e5⟩

theorem ACode.mono {c : Code} {Q Q' : Post} {τ : Tmps} {H : AHeap} (h : ACode P G N c Q τ H) (hq : ∀ e τ H, Q e τ H → Q' e τ H) : ACode P G N c Q' τ H :=
  fun μ a w hR hT hd => wp_mono (h μ a w hR hT hd) fun _ _ _ ⟨τ', H', μ', e1, e2, e3, e4, e5⟩ => ⟨τ', H', μ', e1, e2, e3, e4, hq _ _ _ e5⟩

theorem Lift.of {Q : Post} {e : Exit} {τ : Tmps} {H : AHeap} {μ : Mu} {a : Act} {w : World} (hR : Rel G μ H w) (hT : TRel μ N τ a.tmps) (hd : a.defers = []) (h : Q e τ H) : Lift G N μ H w Q e a w :=
  ⟨τ, H, μ, hR, hT, hd, Tn.refl hR, h⟩
theorem Lift.later {Q : Post} {e : Exit} {μ μ1 : Mu} {H H1 : AHeap} {w w1 w2 : World} {a2 : Act} (t : Tn μ H w μ1 H1 w1) (h : Lift G N μ1 H1 w1 Q e a2 w2) : Lift G N μ H w Q e a2 w2 := by
  obtain ⟨τ', H', μ', e1, e2, e3, e4, e5⟩ := h
  exact ⟨τ', H', μ', e1, e2, e3, t.trans e4, e5⟩

theorem acode_skip {Q : Post} {τ : Tmps} {H : AHeap} (h : Q .normal τ H) : ACode P G N .skip Q τ H := fun μ a w hR hT hd => wp_skip (Lift.of hR hT hd h)
theorem acode_label {Q : Post} {τ : Tmps} {H : AHeap} {l : Nat} (h : Q .normal τ H) : ACode P G N (.label l) Q τ H := fun μ a w hR hT hd => wp_label (Lift.of hR hT hd h)
theorem acode_exit {Q : Post} {τ : Tmps} {H : AHeap} {id : Nat} (h : Q (.exit id) τ H) : ACode P G N (.exit id) Q τ H := fun μ a w hR hT hd => wp_exit (Lift.of hR hT hd h)
theorem acode_ret {Q : Post} {τ : Tmps} {H : AHeap} (h : Q .ret τ H) : ACode P G N .ret Q τ H := fun μ a w hR hT hd => wp_ret (Lift.of hR hT hd h)

/-- What goes on where the first part ends as it should. -/
def thenQ (K : Tmps → AHeap → Prop) (Q : Post) : Post
  | .normal, τ, H => K τ H
  | e, τ, H => Q e τ H
theorem acode_seq {x y : Code} {Q : Post} {τ : Tmps} {H : AHeap} (h : ACode P G N x (thenQ (ACode P G N y Q) Q) τ H) : ACode P G N (.seq x y) Q τ H := fun μ a w hR hT hd => by
  refine wp_seq (wp_mono (h μ a w hR hT hd) ?_)
  rintro e a' w' ⟨τ', H', μ', e1, e2, e3, e4, e5⟩
  cases e with
  | normal => exact wp_mono (e5 μ' a' w' e1 e2 e3) fun _ _ _ h => h.later e4
  | _ => exact ⟨τ', H', μ', e1, e2, e3, e4, e5⟩

theorem acode_cond {c : Operand} {x y : Code} {b : Bool} {Q : Post} {τ : Tmps} {H : AHeap} (hc : aeval G τ c = some (.bool b)) (h : ACode P G N (if b then x else y) Q τ H) : ACode P G N (.cond c x y) Q τ H := fun μ a w hR hT hd => by
  have := flat_eq (aeval_ok hR hT hc) 0 rfl
  exact wp_cond this (h μ a w hR hT hd)

def blockQ (id : Nat) (Q : Post) : Post
  | .exit i, τ, H => if i = id then Q .normal τ H else Q (.exit i) τ H
  | e, τ, H => Q e τ H
theorem acode_block {id : Nat} {c : Code} {Q : Post} {τ : Tmps} {H : AHeap} (h : ACode P G N c (blockQ id Q) τ H) : ACode P G N (.block id c) Q τ H := fun μ a w hR hT hd => by
  refine wp_block (wp_mono (h μ a w hR hT hd) ?_)
  rintro e a' w' ⟨τ', H', μ', e1, e2, e3, e4, e5⟩
  cases e with
  | exit i =>
    simp only [Exit.inBlock]
    simp only [blockQ] at e5
    split
    · rename_i hi; rw [if_pos hi] at e5; exact ⟨τ', H', μ', e1, e2, e3, e4, e5⟩
    · rename_i hi; rw [if_neg hi] at e5; exact ⟨τ', H', μ', e1, e2, e3, e4, e5⟩
  | _ => exact ⟨τ', H', μ', e1, e2, e3, e4, e5⟩

/-- A loop: a relation with a number that every round lowers. -/
theorem acode_loop {c : Code} {Q : Post} (I : Nat → Tmps → AHeap → Prop) (round : ∀ n τ H, I n τ H → ACode P G N c (thenQ (fun τ' H' => ∃ m, m < n ∧ I m τ' H') Q) τ H) {n : Nat} {τ : Tmps} {H : AHeap} (h : I n τ H) :
    ACode P G N (.loop c) Q τ H := fun μ a w hR hT hd => by
  intro b k cs
  have key : ∀ n μ a w τ1 H1, I n τ1 H1 → Rel G μ H1 w → TRel μ N τ1 a.tmps → a.defers = [] →
      ∃ e a' w', Lift G N μ H1 w Q e a' w' ∧ Arrives P (lone (b.at a (.code c :: .inLoop c :: k)) cs w) b k cs e a' w' := by
    intro n
    induction n using Nat.strongRecOn with
    | _ n ih =>
      intro μ a w τ1 H1 hI hR hT hd
      obtain ⟨e, a₁, w₁, ⟨τ', H', μ', e1, e2, e3, e4, e5⟩, harr⟩ := round n τ1 H1 hI μ a w hR hT hd b (.inLoop c :: k) cs
      cases e with
      | normal =>
        obtain ⟨m, hm, hI'⟩ := e5
        obtain ⟨e₂, a₂, w₂, hq₂, harr₂⟩ := ih m hm μ' a₁ w₁ τ' H' hI' e1 e2 e3
        exact ⟨e₂, a₂, w₂, hq₂.later e4, .of_steps (Steps.trans harr (.one step_inLoop)) harr₂⟩
      | exit id => exact ⟨_, a₁, w₁, ⟨τ', H', μ', e1, e2, e3, e4, e5⟩, .pass (x := .inLoop c) rfl (fun _ _ => .inl (by simp)) harr⟩
      | goto l => exact ⟨_, a₁, w₁, ⟨τ', H', μ', e1, e2, e3, e4, e5⟩, .pass (x := .inLoop c) rfl (fun _ _ => .inl (by simp)) harr⟩
      | ret => exact ⟨_, a₁, w₁, ⟨τ', H', μ', e1, e2, e3, e4, e5⟩, .pass (x := .inLoop c) rfl (fun _ _ => .inl (by simp)) harr⟩
      | panic ch => exact ⟨_, a₁, w₁, ⟨τ', H', μ', e1, e2, e3, e4, e5⟩, .pass (x := .inLoop c) rfl (fun _ _ => .inl (by simp)) harr⟩
      | outgrown => exact ⟨_, a₁, w₁, ⟨τ', H', μ', e1, e2, e3, e4, e5⟩, .pass (x := .inLoop c) rfl (fun _ _ => .inl (by simp)) harr⟩
  obtain ⟨e, a', w', hq, harr⟩ := key n μ a w τ H h hR hT hd
  exact ⟨e, a', w', hq, .of_steps (.one step_loop) harr⟩

/-! ### Operations in a row -/
def awanted (ops : Array Oper) (τ : Tmps) (o : Oper) : Option Bool :=
  match o.guard with
  | none => some true
  | some (j, want) => match (ops[j]?).bind (·.dst) with
    | some d => match tget τ d with
      | .bool b => some (b == want)
      | .tuple _ => some false
      | _ => none
    | none => none
theorem awanted_ok {ops : Array Oper} {τ : Tmps} {o : Oper} {b : Bool} {μ : Mu} {tmps : Array Value} (hT : TRel μ N τ tmps) (h : awanted ops τ o = some b) : Region.wanted o (yielded ops tmps) = b := by
  unfold awanted at h
  unfold Region.wanted
  split at h
  · rename_i hg; injection h with h; subst h; simp [hg]
  · rename_i j want hg
    rw [hg]
    simp only
    split at h
    · rename_i d hd
      split at h
      · rename_i c hc
        injection h with h
        subst h
        have hr := hT.at_ d
        rw [hc] at hr
        have e := flat_eq hr 0 rfl
        have hlt : d < tmps.size := by
          rcases Nat.lt_or_ge d tmps.size with h | h
          · exact h
          · have : tmps.getD d undef = undef := by simp [Array.getD, Nat.not_lt.2 h]
            rw [this] at e
            cases e
        have e2 : tmps[d]? = some (.bool c) := by rw [getD_some hlt, e]
        simp [yielded, hd, e2]
      · rename_i cs hc
        injection h with h
        subst h
        have hr := hT.at_ d
        rw [hc] at hr
        cases hd2 : tmps[d]? with
        | none => simp [yielded, hd, hd2]
        | some u =>
          have : tmps.getD d undef = u := by simp [Array.getD_eq_getD_getElem?, hd2]
          rw [this] at hr
          cases hr with
          | tuple _ _ => simp [yielded, hd, hd2]
      · cases h
    · cases h

def aput (N : Nat) (dst : Option Tmp) (v : Value) (τ : Tmps) : Option Tmps :=
  match dst with
  | none => some τ
  | some d => if d < N then some (τ.put d (some v)) else none
theorem tget_put (τ : Tmps) (d t : Nat) (v : Value) : tget (τ.put d (some v)) t = if t = d then v else tget τ t := by
  unfold tget; rw [Tr.get_put]; split <;> rfl
theorem aput_ok {dst : Option Tmp} {v v' : Value} {τ τ' : Tmps} {μ : Mu} {a : Act} (hT : TRel μ N τ a.tmps) (hv : VRel μ v v') (h : aput N dst v τ = some τ') : TRel μ N τ' (a.put dst v').tmps := by
  unfold aput at h
  split at h
  · injection h with h; subst h; exact hT
  · rename_i d
    split at h
    · rename_i hd
      injection h with h
      subst h
      refine ⟨by simp [Act.put, hT.size], fun t => ?_⟩
      rw [tget_put]
      have hlt : d < a.tmps.size := by rw [hT.size]; exact hd
      split
      · rename_i e
        subst e
        simpa [Act.put, Array.getD_eq_getD_getElem?, hlt] using hv
      · rename_i e
        have := hT.at_ t
        simpa [Act.put, Array.getD_eq_getD_getElem?, Array.getElem?_setIfInBounds_ne (Ne.symm e)] using this
    · cases h
theorem put_defers (a : Act) (dst : Option Tmp) (v : Value) : (a.put dst v).defers = a.defers := by cases dst <;> rfl

/-- Behind the rest of a region. -/
def AOps (P : Program) (G N : Nat) (ops : Array Oper) (Q : Post) (l : List Oper) (τ : Tmps) (H : AHeap) : Prop :=
  ∀ μ a w, Rel G μ H w → TRel μ N τ a.tmps → a.defers = [] → wpList P ops (Lift G N μ H w Q) l a w

theorem wpList_mono {ops : Array Oper} {Q Q' : Exit → Act → World → Prop} (hq : ∀ e a w, Q e a w → Q' e a w) : ∀ (l : List Oper) (a : Act) (w : World), wpList P ops Q l a w → wpList P ops Q' l a w := by
  intro l
  induction l with
  | nil => intro a w h; exact hq _ _ _ h
  | cons o l ih =>
    intro a w h
    unfold wpList at h ⊢
    split
    · rename_i hw
      rw [if_pos hw] at h
      rcases h with h | ⟨h1, a1, w1, h2⟩
      · left
        unfold Oper.wp at *
        generalize (execOp a.eval o).run P w = r at *
        cases r with
        | ok n w' =>
          cases n <;> simp only [Oper.upon] at h ⊢ <;>
            first
              | exact ih _ _ h
              | (refine Calls.mono h fun e w'' he => ?_; cases e <;> first | exact ih _ _ he | exact hq _ _ _ he | (obtain ⟨a1, w1, h2⟩ := he; exact ⟨a1, w1, hq _ _ _ h2⟩))
              | exact Rows.mono h fun _ _ he => ih _ _ he
        | halt x w' => cases x <;> simp only [Oper.upon] at h ⊢ <;> exact hq _ _ _ h
      · exact .inr ⟨h1, a1, w1, hq _ _ _ h2⟩
    · rename_i hw
      rw [if_neg hw] at h
      exact ih _ _ h

theorem acode_region {id : Nat} {ops : Array Oper} {Q : Post} {τ : Tmps} {H : AHeap} (h : AOps P G N ops Q ops.toList τ H) : ACode P G N (.region id ops false) Q τ H := fun μ a w hR hT hd =>
  wp_region_list (h μ a w hR hT hd)
theorem aops_nil {ops : Array Oper} {Q : Post} {τ : Tmps} {H : AHeap} (h : Q .normal τ H) : AOps P G N ops Q [] τ H := fun μ a w hR hT hd => Lift.of hR hT hd h

theorem aops_skip {ops : Array Oper} {Q : Post} {o : Oper} {l : List Oper} {τ τ' : Tmps} {H : AHeap} (hw : awanted ops τ o = some false) (hp : aput N o.dst undef τ = some τ') (h : AOps P G N ops Q l τ' H) : AOps P G N ops Q (o :: l) τ H :=
  fun μ a w hR hT hd => by
  unfold wpList
  rw [awanted_ok hT hw, if_neg (by simp)]
  exact h μ _ w hR (aput_ok hT (.undef μ) hp) (by rw [put_defers]; exact hd)

/-- An operation that calls nothing. -/
theorem aops_op (hTb : TbOK P T) {ops : Array Oper} {Q : Post} {o : Oper} {l : List Oper} {τ τ' : Tmps} {H : AHeap} {r : Value × AHeap} (hw : awanted ops τ o = some true) (ho : aop P T G τ o.op H = some r) (hp : aput N o.dst r.1 τ = some τ')
    (h : AOps P G N ops Q l τ' r.2) : AOps P G N ops Q (o :: l) τ H := fun μ a w hR hT hd => by
  unfold wpList
  rw [awanted_ok hT hw, if_pos rfl]
  left
  obtain ⟨n, w', μ', h1, h2, h3, h4⟩ := aop_ok (a := a) hTb hR hT ho
  unfold Oper.wp
  rw [h1]
  rcases h2 with ⟨v', rfl, hv⟩ | ⟨rfl, hv⟩
  · simp only [Oper.upon]
    refine wpList_mono (fun _ _ _ h => h.later h4) _ _ _ (h μ' _ w' h3 (aput_ok (hT.mono h4.le) hv hp) (by rw [put_defers]; exact hd))
  · simp only [Oper.upon]
    refine wpList_mono (fun _ _ _ h => h.later h4) _ _ _ (h μ' _ w' h3 (aput_ok (hT.mono h4.le) (by rw [hv]; exact .undef μ') hp) (by rw [put_defers]; exact hd))

/-- What is called, and with what. -/
def acallee (G : Nat) (τ : Tmps) : Op → Option (FuncId × List Value)
  | .call { callee := .value f, args, .. } =>
    match aeval G τ f, aevals G τ args.toList with
    | some (.func (.func g) first cap), some vs => some (g, first.toList ++ vs ++ cap.toList)
    | _, _ => none
  | _ => none

theorem acallee_ok {o : Oper} {g : FuncId} {vs : List Value} {τ : Tmps} {H : AHeap} {μ : Mu} {a : Act} {w : World} (hR : Rel G μ H w) (hT : TRel μ N τ a.tmps) (h : acallee G τ o.op = some (g, vs)) :
    ∃ vs' : Array Value, LRel μ vs vs'.toList ∧ execOp a.eval o = callFunc g vs' := by
  obtain ⟨dst, op, type, pos, after, guard⟩ := o
  simp only at h
  unfold acallee at h
  split at h
  · rename_i f args ts
    split at h
    · rename_i g' first cap us hf hus
      injection h with h
      injection h with h1 h2
      subst h1
      subst h2
      have k1 := aeval_ok hR hT hf
      have k2 := aevals_ok hR hT hus
      cases hev : a.eval f with
      | func fn f' c' =>
        rw [hev] at k1
        cases k1 with
        | func _ a1 a2 a3 a4 =>
          have e1 : (args.map a.eval).toList = args.toList.map a.eval := by simp
          refine ⟨f' ++ args.map a.eval ++ c', ?_, ?_⟩
          · have := ((ARel.list ⟨a1, a3⟩).append k2).append (ARel.list ⟨a2, a4⟩)
            simpa using this
          · simp [execOp, resolve, hev, Deferred.ofValue, invoke]
      | _ => rw [hev] at k1; cases k1
    · cases h
  · cases h

/-- A call by its contract. -/
theorem aops_call {ops : Array Oper} {Q : Post} {o : Oper} {l : List Oper} {τ : Tmps} {H : AHeap} {g : FuncId} {vs : List Value} {fn : Func} {K : Value → AHeap → Prop} (hw : awanted ops τ o = some true) (ho : acallee G τ o.op = some (g, vs))
    (hf : P.funcs[g]? = some fn) (hb : fn.body.isSome = true) (hn : (fn.name == "runtime.NumGoroutine") = false) (hc : ACalls P G g vs H K) (h : ∀ v H', K v H' → ∃ τ', aput N o.dst v τ = some τ' ∧ AOps P G N ops Q l τ' H') :
    AOps P G N ops Q (o :: l) τ H := fun μ a w hR hT hd => by
  unfold wpList
  rw [awanted_ok hT hw, if_pos rfl]
  left
  obtain ⟨vs', k1, k2⟩ := acallee_ok (a := a) hR hT ho
  unfold Oper.wp
  obtain ⟨cb, hcb⟩ := Option.isSome_iff_exists.1 hb
  have hrun : (callFunc g vs').run P w = .ok (.enter g vs') w := by
    have hn' : fn.name ≠ "runtime.NumGoroutine" := by simpa using hn
    simp [callFunc, hf, hn', hcb]
  rw [k2, hrun]
  simp only [Oper.upon]
  refine (hc μ w vs' hR k1).mono ?_
  rintro e w' ⟨v, v', H', μ', rfl, q1, q2, q3, q4⟩
  obtain ⟨τ', p1, p2⟩ := h v H' q4
  exact wpList_mono (fun _ _ _ h => h.later q3) _ _ _ (p2 μ' _ w' q2 (aput_ok (hT.mono q3.le) q1 p1) (by rw [put_defers]; exact hd))

/-- A call of a function without a Go body, that touches no memory. -/
theorem aops_ext {ops : Array Oper} {Q : Post} {o : Oper} {l : List Oper} {τ τ' : Tmps} {H : AHeap} {g : FuncId} {vs : List Value} {v : Value} (hw : awanted ops τ o = some true) (ho : acallee G τ o.op = some (g, vs)) (hfl : vs.all (flat 0) = true)
    (hx : prun P (callFunc g vs.toArray) = some (.value v)) (hv : flat 1 v = true) (hp : aput N o.dst v τ = some τ') (h : AOps P G N ops Q l τ' H) : AOps P G N ops Q (o :: l) τ H := fun μ a w hR hT hd => by
  unfold wpList
  rw [awanted_ok hT hw, if_pos rfl]
  left
  obtain ⟨vs', k1, k2⟩ := acallee_ok (a := a) hR hT ho
  have e : vs' = vs.toArray := min_flat k1 hfl
  subst e
  unfold Oper.wp
  rw [k2, prun_run P _ _ hx w]
  simp only [Oper.upon]
  exact h μ _ w hR (aput_ok hT (flat_rel 1 _ hv) hp) (by rw [put_defers]; exact hd)

/-! ### A function -/
def initT : Nat → List Value → Tmps
  | _, [] => .lf
  | k, v :: l => (initT (k + 1) l).put k (some v)
theorem initT_get : ∀ (l : List Value) (k t : Nat), tget (initT k l) t = if k ≤ t then l.getD (t - k) unk else unk := by
  intro l
  induction l with
  | nil => intro k t; simp [initT, tget, Tr.get_lf]
  | cons v l ih =>
    intro k t
    simp only [initT]
    rw [tget_put, ih]
    by_cases e : t = k
    · subst e; simp
    · rw [if_neg e]
      by_cases e2 : k ≤ t
      · rw [if_pos (by omega), if_pos e2, show t - k = (t - (k + 1)) + 1 by omega]
        simp
      · rw [if_neg (by omega), if_neg e2]

/-- The results. -/
def aresults (T : Tb) (τ : Tmps) (H : AHeap) : List ResultVar → Option (List Value)
  | [] => some []
  | .tmp t :: l => (aresults T τ H l).map (tget τ t :: ·)
  | .cell a t :: l => match aLoad T t (tget τ a) H, aresults T τ H l with
    | some (v, _), some vs => some (v :: vs)
    | _, _ => none
def wrapR : List Value → Value
  | [v] => v
  | vs => .tuple vs.toArray

theorem wrapR_rel {μ : Mu} {vs vs' : List Value} (h : LRel μ vs vs') : VRel μ (wrapR vs) (wrapR vs') := by
  unfold wrapR
  split
  · obtain ⟨x', rfl, hx⟩ := h.one_inv
    exact hx
  · rename_i hne
    split
    · rename_i v
      obtain ⟨u, rfl⟩ : ∃ u, vs = [u] := List.length_eq_one_iff.1 (by rw [h.1]; rfl)
      exact absurd rfl (hne u)
    · exact .tuple h.arr.1 h.arr.2
theorem wrapR_eq (vs : List Value) : (if h : vs.toArray.size = 1 then vs.toArray[0] else .tuple vs.toArray) = wrapR vs := by
  match vs with
  | [] => rfl
  | [v] => rfl
  | _ :: _ :: _ => simp [wrapR]
def resF (tmps : Array Value) : ResultVar → Sem Value
  | .tmp t => pure (tmps.getD t undef)
  | .cell a t => do loadVar t (← asAddr (tmps.getD a undef))
theorem results_eq (fn : Func) (tmps : Array Value) : results fn tmps = (do
    let vs ← fn.results.mapM (resF tmps)
    pure (if h : vs.size = 1 then vs[0] else .tuple vs)) := by
  have key : ∀ F : ResultVar → Sem Value, (∀ x, F x = resF tmps x) → (do
      let vs ← fn.results.mapM F
      pure (if h : vs.size = 1 then vs[0] else .tuple vs) : Sem Value) = (do
      let vs ← fn.results.mapM (resF tmps)
      pure (if h : vs.size = 1 then vs[0] else .tuple vs)) := fun F h => by rw [funext h]
  exact key _ fun x => by cases x <;> rfl
theorem results_ok (hTb : TbOK P T) {τ : Tmps} {H : AHeap} {μ : Mu} {w : World} {tmps : Array Value} (hR : Rel G μ H w) (hT : TRel μ N τ tmps) : ∀ (l : List ResultVar) (vs : List Value), aresults T τ H l = some vs →
    ∃ vs', LRel μ vs vs' ∧ (l.mapM (resF tmps)).run P w = .ok vs' w := by
  intro l
  induction l with
  | nil => intro vs h; injection h with h; subst h; exact ⟨[], LRel.nil, rfl⟩
  | cons x l ih =>
    intro vs h
    cases x with
    | tmp t =>
      simp only [aresults] at h
      obtain ⟨us, hu, rfl⟩ := Option.map_eq_some_iff.1 h
      obtain ⟨vs', k1, k2⟩ := ih us hu
      exact ⟨_ :: vs', LRel.cons (hT.at_ t) k1, by simp only [List.mapM_cons, resF, Sem.run_bind, Sem.run_pure, Result.andThen_ok, k2]⟩
    | cell a t =>
      simp only [aresults] at h
      split at h
      · rename_i v H0 us hv hu
        injection h with h
        subst h
        obtain ⟨vs', k1, k2⟩ := ih us hu
        obtain ⟨v1, v', q1, q2, q3, b, q4⟩ := aLoad_same (P := P) hTb hR (hT.at_ a) hv
        injection q1 with q1 _
        subst q1
        have q5 : (do loadVar t (← asAddr (tmps.getD a undef)) : Sem Value).run P w = .ok v' w := by
          rw [q4] at q3 ⊢
          exact q3
        exact ⟨v' :: vs', LRel.cons q2 k1, by simp only [List.mapM_cons, resF, Sem.run_bind (x := (do loadVar t (← asAddr (tmps.getD a undef)) : Sem Value)), q5, Sem.run_bind, Sem.run_pure, Result.andThen_ok, k2]⟩
      · cases h

theorem acalls_of (hTb : TbOK P T) {f : FuncId} {fn : Func} {c : Code} {args : List Value} {H : AHeap} {Q : Value → AHeap → Prop} (hf : P.funcs[f]? = some fn) (hb : fn.body = some c) (hN : args.length ≤ fn.ntmps)
    (h : ACode P G fn.ntmps c (fun e τ H' => (e = .normal ∨ e = .ret) ∧ ∃ vs, aresults T τ H' fn.results.toList = some vs ∧ Q (wrapR vs) H') (initT 0 args) H) : ACalls P G f args H Q := fun μ w args' hR hA => by
  refine calls_of_wp hf hb (wp_mono (h μ { tmps := args' ++ Array.replicate (fn.ntmps - args'.size) undef, defers := [] } w hR ?_ rfl) ?_)
  · have hs : args.length = args'.size := by have := hA.1; simpa using this
    refine ⟨by simp; omega, fun t => ?_⟩
    rw [initT_get, if_pos (Nat.zero_le _), Nat.sub_zero]
    by_cases e : t < args.length
    · have := hA.2 t e
      have e0 : args.getD t unk = args.getD t undef := by simp [List.getD_eq_getElem?_getD, e]
      rw [e0]
      simpa [Array.getD_eq_getD_getElem?, List.getD_eq_getElem?_getD, Array.getElem?_append, show t < args'.size by omega] using this
    · have e1 : args.getD t unk = unk := by simp [List.getD_eq_getElem?_getD, List.getElem?_eq_none (Nat.le_of_not_lt e)]
      rw [e1]
      exact .any _
  · rintro e a' w' ⟨τ', H', μ', e1, e2, e3, e4, e5, vs, e6, e7⟩
    obtain ⟨vs', k1, k2⟩ := results_ok (P := P) hTb e1 e2 _ vs e6
    have hres : ∃ v', (results fn a'.tmps).run P w' = .ok v' w' ∧ VRel μ' (wrapR vs) v' := by
      refine ⟨wrapR vs', ?_, wrapR_rel k1⟩
      rw [results_eq, Array.mapM_eq_mapM_toList]
      simp only [Sem.run_bind, Sem.run_map, k2, Result.andThen_ok, Sem.run_pure, wrapR_eq]
    obtain ⟨v', r1, r2⟩ := hres
    have : a'.defers = [] ∧ ∃ v, (results fn a'.tmps).run P w' = .ok v w' ∧ (∃ v0 v' H' μ', Ending.returned v = .returned v' ∧ VRel μ' v0 v' ∧ Rel G μ' H' w' ∧ Tn μ H w μ' H' w' ∧ Q v0 H') :=
      ⟨e3, v', r1, wrapR vs, v', H', μ', rfl, r2, e1, e4, e7⟩
    rcases e5 with rfl | rfl <;> exact this

end
end Go.Eng
