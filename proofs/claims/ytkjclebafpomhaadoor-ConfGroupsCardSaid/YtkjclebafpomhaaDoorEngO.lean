/- The engine, part 15: a function's run, reckoned, is the model's run. -/
import Derived.Test.YtkjclebafpomhaaDoorEngN
set_option linter.unusedVariables false
set_option linter.unusedSimpArgs false
namespace Go.Eng
open Go

/-- What a reckoned run rests on. -/
structure CxOK (cx : Cx) : Prop where
  tb : TbOK cx.P cx.T
  fn : ∀ f fn, cx.fn f = some fn → cx.P.funcs[f]? = some fn ∧ (fn.name == "runtime.NumGoroutine") = false
  ext : ∀ f fn vs v, cx.fn f = some fn → fn.body = none → cx.ext f vs = some v → vs.all (flat 0) = true ∧ prun cx.P (callFunc f vs.toArray) = some (.value v) ∧ flat 1 v = true
  mix : cx.P.follows .mixedOrders = true
  sp : ∀ f fn g, cx.fn f = some fn → cx.sp f = some g → fn.body.isSome = true ∧ ∀ vs H v H', g vs H = some (v, H') → ACalls cx.P cx.G f vs H fun v1 H1 => v1 = v ∧ H1 = H'
def CallOK (cx : Cx) (call : Calling) : Prop := ∀ g vs H v H', call g vs H = some (v, H') → ∃ fn, cx.fn g = some fn ∧
  ((fn.body.isSome = true ∧ ACalls cx.P cx.G g vs H fun v1 H1 => v1 = v ∧ H1 = H') ∨ (fn.body = none ∧ vs.all (flat 0) = true ∧ prun cx.P (callFunc g vs.toArray) = some (.value v) ∧ flat 1 v = true ∧ H' = H))

/-! ### What an operation looks at, what it writes -/
def vids : Nat → Value → List Nat
  | _, .pointer (some a) => [a.block]
  | _, .slice (some a) _ _ => [a.block]
  | _, .map (some i) => [i]
  | d + 1, .iface _ v => vids d v
  | d + 1, .agg c => c.toList.flatMap (vids d)
  | _, _ => []
def isPure : Op → Bool
  | .move _ | .assign _ | .pick .. | .binOp .. | .unOp .. | .field .. | .extract .. | .fieldAddr .. | .indexAddr .. | .index .. | .nilCheck _ | .makeInterface .. | .makeFunc .. => true
  | _ => false
def opIds (G : Nat) (τ : Tmps) (x : Operand) : List Nat := match aeval G τ x with
  | some v => vids 2 v
  | none => []
def rIds (G : Nat) (τ : Tmps) (o : Op) : List Nat := if isPure o then [] else o.operands.toList.flatMap (opIds G τ)
def wRoots (G : Nat) (τ : Tmps) : Op → List Nat
  | .store _ a _ => opIds G τ a
  | .mapUpdate _ m _ _ | .insert _ m _ _ | .mapEntry _ m _ | .entryStore _ m _ _ => opIds G τ m
  | .next x _ => opIds G τ x
  | .call { callee := .builtin .append, args, .. } | .call { callee := .builtin .copy, args, .. } | .call { callee := .builtin .delete, args, .. } => match args[0]? with
    | some x => opIds G τ x
    | none => []
  | _ => []
def wIds (G : Nat) (H : AHeap) (τ : Tmps) (o : Op) : List Nat := (wRoots G τ o).flatMap fun i => match H.get i with
  | some ob => i :: ob.par
  | none => []
def okW (H : AHeap) (W : List Nat) : Bool := W.all fun i => Nat.blt i H.next && match H.get i with
  | some o => !o.alive || o.par.all (inL W)
  | none => true
def isLoud (M : List Nat) (j : Nat) : List Oper → Nat → Bool
  | [], _ => true
  | p :: l, k => (Nat.beq k j || isPure p.op || (M.getD j 0).testBit k || (M.getD k 0).testBit j) && isLoud M j l (k + 1)
def exOf (M : List Nat) (j : Nat) : List (Nat × Stp) → List (List Nat × Nat × Nat)
  | [] => []
  | (k, t) :: l => if (M.getD j 0).testBit k then exOf M j l else match t.wr with
    | none => exOf M j l
    | some W => if W.isEmpty && Nat.beq t.h.next t.R.next then exOf M j l else (W, t.h.next, t.R.next) :: exOf M j l

def skipStp (o : Oper) (rd : List Nat) (s : St) : Stp := ⟨s.1, s.2, viewL [] [] s.2, viewL [] [] s.2, undef, .ids [], some [], rd, o⟩
def stepReg (cx : Cx) (N : Nat) (call : Calling) (ops : Array Oper) (M : List Nat) (j : Nat) (o : Oper) (prev : List (Nat × Stp)) (s : St) : Option (Stp × St) :=
  match awanted ops (restr s.1 (o.looksAt ops)) o with
  | some false => (aput N o.dst undef s.1).map fun τ' => (skipStp o (o.looksAt ops) s, (τ', s.2))
  | some true =>
    match acallee cx.G (restr s.1 (o.looksAt ops)) o.op with
    | some (g, vs) =>
      if isLoud M j ops.toList 0 then
        match call g vs s.2 with
        | some (v, R) => if Nat.ble s.2.next R.next then (aput N o.dst v s.1).map fun τ' => (⟨s.1, s.2, s.2, R, v, .but [], none, o.looksAt ops, o⟩, (τ', R)) else none
        | none => none
      else
        match call g vs (viewQ (.but (exOf M j prev)) s.2) with
        | some (v, R) => if Nat.ble s.2.next R.next then (aput N o.dst v s.1).map fun τ' => (⟨s.1, s.2, viewQ (.but (exOf M j prev)) s.2, R, v, .but (exOf M j prev), some [], o.looksAt ops, o⟩, (τ', layIn [] s.2 R)) else none
        | none => none
    | none =>
      match wIds cx.G s.2 (restr s.1 (o.looksAt ops)) o.op with
      | W =>
        match W ++ rIds cx.G (restr s.1 (o.looksAt ops)) o.op with
        | F =>
          if okW s.2 W then
            match aop cx.P cx.T cx.G (restr s.1 (o.looksAt ops)) o.op (viewL W F s.2) with
            | some (v, R) => if Nat.ble s.2.next R.next then (aput N o.dst v s.1).map fun τ' => (⟨s.1, s.2, viewL W F s.2, R, v, .ids F, some W, o.looksAt ops, o⟩, (τ', layIn W s.2 R)) else none
            | none => none
          else none
  | none => none

def goReg (cx : Cx) (N : Nat) (call : Calling) (ops : Array Oper) (M : List Nat) : List Oper → Nat → List (Nat × Stp) → St → Option (List Stp × St)
  | [], _, _, s => some ([], s)
  | o :: l, j, prev, s => match stepReg cx N call ops M j o prev s with
    | some (p, s') => match goReg cx N call ops M l (j + 1) ((j, p) :: prev) s' with
      | some (ps, f) => some (p :: ps, f)
      | none => none
    | none => none
def runReg (cx : Cx) (N : Nat) (call : Calling) (ops : Array Oper) (s : St) : Option St :=
  match masksGo ops.toList [] with
  | M => if Nat.beq M.length ops.size && ordOkGo M ops.toList 0 then
      match goReg cx N call ops M ops.toList 0 [] s with
      | some (ps, f) => if pairsOk M ps 0 then some f else none
      | none => none
    else none

section
variable {cx : Cx} {N : Nat} {call : Calling} {ops : Array Oper}

/-- What a step of a region is, in the model. -/
structure SOK (cx : Cx) (NT : Nat) (ops : Array Oper) (j : Nat) (sp : Stp) (st : St) : Prop where
  sound : ∀ Q μ a w K, Rel cx.G μ sp.V w → TRel μ NT (restr sp.τ sp.rd) a.tmps → a.defers = [] →
    (∀ μ' w' v', VRel μ' sp.v v' → Rel cx.G μ' sp.R w' → Tn μ sp.V w μ' sp.R w' → K (a.put sp.o.dst v') w') → wpOp cx.P ops Q j K a w
  dst : ∀ d, sp.o.dst = some d → d < NT
  tau : ∀ t, tget st.1 t = if sp.o.dst = some t then sp.v else tget sp.τ t
  heap : ∀ i, ((sp.W i ∨ (sp.h.next ≤ i ∧ i < sp.R.next)) → st.2.get i = sp.R.get i) ∧ (¬ (sp.W i ∨ (sp.h.next ≤ i ∧ i < sp.R.next)) → st.2.get i = sp.h.get i)
  next : st.2.next = sp.R.next ∧ sp.h.next ≤ sp.R.next
  vnext : sp.V.next = sp.h.next
  sub : ∀ i o', sp.V.get i = some o' → (sp.foot.has i = true ∧ i < sp.h.next) ∧ ∃ o, sp.h.get i = some o ∧ (o' = o ∨ o.shut = some o')
  alive : ∀ i o, sp.V.get i = some o → o.alive = true → sp.W i
  par : ∀ k o i, sp.V.get k = some o → o.alive = true → i ∈ o.par → i < sp.h.next → sp.W i
  wf : ∀ i, sp.W i → (sp.foot.has i = true ∧ i < sp.h.next) ∧ sp.V.get i = sp.h.get i

theorem aput_dst {N : Nat} {dst : Option Tmp} {v : Value} {τ τ' : Tmps} (h : aput N dst v τ = some τ') : (∀ d, dst = some d → d < N) ∧ ∀ t, tget τ' t = if dst = some t then v else tget τ t := by
  unfold aput at h
  split at h
  · injection h with h; subst h
    exact ⟨fun d e => (by cases e), fun t => (by simp)⟩
  · rename_i d
    split at h
    · rename_i hd
      injection h with h
      subst h
      refine ⟨fun d' e => by injection e with e; subst e; exact hd, fun t => ?_⟩
      rw [tget_put]
      by_cases e : t = d
      · subst e; simp
      · rw [if_neg e, if_neg]; intro h; injection h with h; exact e h.symm
    · cases h

theorem wpOp_skip {j : Nat} {o : Oper} {τ : Tmps} {μ : Mu} {a : Act} {w : World} {Q : Exit → Act → World → Prop} {K : Act → World → Prop} (hj : ops[j]? = some o) (hw : awanted ops τ o = some false) (hT : TRel μ N τ a.tmps) (h : K (a.put o.dst undef) w) : wpOp cx.P ops Q j K a w := by
  unfold wpOp
  rw [hj]
  simp only
  rw [awanted_ok hT hw, if_neg (by simp)]
  exact h
theorem wpOp_aop (hc : CxOK cx) {j : Nat} {o : Oper} {τ : Tmps} {μ : Mu} {a : Act} {w : World} {V : AHeap} {r : Value × AHeap} {Q : Exit → Act → World → Prop} {K : Act → World → Prop} (hj : ops[j]? = some o) (hw : awanted ops τ o = some true)
    (ho : aop cx.P cx.T cx.G τ o.op V = some r) (hR : Rel cx.G μ V w) (hT : TRel μ N τ a.tmps) (h : ∀ μ' w' v', VRel μ' r.1 v' → Rel cx.G μ' r.2 w' → Tn μ V w μ' r.2 w' → K (a.put o.dst v') w') : wpOp cx.P ops Q j K a w := by
  unfold wpOp
  rw [hj]
  simp only
  rw [awanted_ok hT hw, if_pos rfl]
  left
  obtain ⟨n, w', μ', h1, h2, h3, h4⟩ := aop_ok (a := a) hc.tb hR hT ho
  unfold Oper.wp
  rw [h1]
  rcases h2 with ⟨v', rfl, hv⟩ | ⟨rfl, hv⟩
  · exact h μ' w' v' hv h3 h4
  · exact h μ' w' undef (by rw [hv]; exact .undef μ') h3 h4
theorem wpOp_call (hc : CxOK cx) (hcall : CallOK cx call) {j : Nat} {o : Oper} {τ : Tmps} {μ : Mu} {a : Act} {w : World} {V R : AHeap} {g : FuncId} {vs : List Value} {v : Value} {Q : Exit → Act → World → Prop} {K : Act → World → Prop} (hj : ops[j]? = some o) (hw : awanted ops τ o = some true)
    (ho : acallee cx.G τ o.op = some (g, vs)) (hr : call g vs V = some (v, R)) (hR : Rel cx.G μ V w) (hT : TRel μ N τ a.tmps) (h : ∀ μ' w' v', VRel μ' v v' → Rel cx.G μ' R w' → Tn μ V w μ' R w' → K (a.put o.dst v') w') : wpOp cx.P ops Q j K a w := by
  unfold wpOp
  rw [hj]
  simp only
  rw [awanted_ok hT hw, if_pos rfl]
  left
  obtain ⟨vs', k1, k2⟩ := acallee_ok (a := a) hR hT ho
  obtain ⟨fn, f1, f2⟩ := hcall g vs V v R hr
  obtain ⟨f3, f4⟩ := hc.fn g fn f1
  unfold Oper.wp
  rcases f2 with ⟨hb, hA⟩ | ⟨hb, hfl, hx, hv, rfl⟩
  · obtain ⟨cb, hcb⟩ := Option.isSome_iff_exists.1 hb
    have hrun : (callFunc g vs').run cx.P w = .ok (.enter g vs') w := by
      have hn' : fn.name ≠ "runtime.NumGoroutine" := by simpa using f4
      simp [callFunc, f3, hn', hcb]
    rw [k2, hrun]
    simp only [Oper.upon]
    refine (hA μ w vs' hR k1).mono ?_
    rintro e w' ⟨v1, v', H', μ', rfl, q1, q2, q3, rfl, rfl⟩
    exact h μ' w' v' q1 q2 q3
  · have e : vs' = vs.toArray := min_flat k1 hfl
    subst e
    rw [k2, prun_run cx.P _ _ hx w]
    simp only [Oper.upon]
    exact h μ w v (flat_rel 1 _ hv) hR (Tn.refl hR)

theorem view_facts {H : AHeap} {W : List Nat} {F : List Nat} (hW : okW H W = true) (hF : ∀ i ∈ W, i ∈ F) :
    (∀ i o', (viewL W F H).get i = some o' → (Foot.has (.ids F) i = true ∧ i < H.next) ∧ ∃ o, H.get i = some o ∧ (o' = o ∨ o.shut = some o')) ∧
    (∀ i o, (viewL W F H).get i = some o → o.alive = true → i ∈ W) ∧ (∀ k o i, (viewL W F H).get k = some o → o.alive = true → i ∈ o.par → i < H.next → i ∈ W) ∧
    (∀ i, i ∈ W → (Foot.has (.ids F) i = true ∧ i < H.next) ∧ (viewL W F H).get i = H.get i) := by
  have alive : ∀ i o, (viewL W F H).get i = some o → o.alive = true → i ∈ W ∧ H.get i = some o := by
    intro i o h ha
    rw [get_viewL] at h
    split at h
    · rename_i hi; exact ⟨inL_iff.1 hi, h⟩
    · split at h
      · obtain ⟨o1, h1, h2⟩ := Option.bind_eq_some_iff.1 h
        have := (shut_par h2).2.2
        rw [ha] at this; cases this
      · cases h
  refine ⟨fun i o' h => ?_, fun i o h ha => (alive i o h ha).1, fun k o i h ha hp _ => ?_, fun i hi => ?_⟩
  · rw [get_viewL] at h
    split at h
    · rename_i hi
      exact ⟨⟨inL_iff.2 (hF i (inL_iff.1 hi)), AHeap.get_lt h⟩, o', h, .inl rfl⟩
    · split at h
      · rename_i hi
        obtain ⟨o1, h1, h2⟩ := Option.bind_eq_some_iff.1 h
        exact ⟨⟨hi, AHeap.get_lt h1⟩, o1, h1, .inr h2⟩
      · cases h
  · obtain ⟨h1, h2⟩ := alive k o h ha
    have := List.all_eq_true.1 hW k h1
    rw [h2] at this
    simp only [ha, Bool.and_eq_true, Bool.not_true, Bool.false_or] at this
    exact inL_iff.1 (List.all_eq_true.1 this.2 i hp)
  · have := List.all_eq_true.1 hW i hi
    simp only [Bool.and_eq_true] at this
    refine ⟨⟨inL_iff.2 (hF i hi), by simpa [Nat.blt_eq] using this.1⟩, ?_⟩
    rw [get_viewL, if_pos (inL_iff.2 hi)]
theorem viewQ_facts {H : AHeap} {f : Foot} : ∀ i o', (viewQ f H).get i = some o' → (f.has i = true ∧ i < H.next) ∧ o'.alive = false ∧ ∃ o, H.get i = some o ∧ (o' = o ∨ o.shut = some o') := by
  intro i o' h
  rw [get_viewQ] at h
  split at h
  · rename_i hi
    obtain ⟨o1, h1, h2⟩ := Option.bind_eq_some_iff.1 h
    exact ⟨⟨hi, AHeap.get_lt h1⟩, (shut_par h2).2.2, o1, h1, .inr h2⟩
  · cases h

theorem stepReg_ok (hc : CxOK cx) (hcall : CallOK cx call) {M : List Nat} {j : Nat} {o : Oper} {prev : List (Nat × Stp)} {s st : St} {sp : Stp} (hj : ops[j]? = some o) (h : stepReg cx N call ops M j o prev s = some (sp, st)) :
    sp.o = o ∧ sp.τ = s.1 ∧ sp.h = s.2 ∧ SOK cx N ops j sp st := by
  unfold stepReg at h
  split at h
  · rename_i hw
    obtain ⟨τ', hp, h⟩ := Option.map_eq_some_iff.1 h
    injection h with h1 h2
    subst h1; subst h2
    obtain ⟨d1, d2⟩ := aput_dst hp
    have vf := view_facts (H := s.2) (W := []) (F := []) rfl (fun _ h => h)
    refine ⟨rfl, rfl, rfl, ⟨fun Q μ a w K hR hT hd hK => wpOp_skip hj hw hT (hK μ w undef (.undef μ) hR (Tn.refl hR)), d1, d2, fun i => ⟨?_, fun _ => rfl⟩, ⟨rfl, Nat.le_refl _⟩, rfl, vf.1, vf.2.1, vf.2.2.1, vf.2.2.2⟩⟩
    rintro (hi | hi)
    · cases hi
    · exact absurd (show s.2.next ≤ i ∧ i < s.2.next from hi) (by omega)
  · rename_i hw
    split at h
    · rename_i g vs hg
      split at h
      · split at h
        · rename_i v R hr
          split at h
          · rename_i hn
            rw [Nat.ble_eq] at hn
            obtain ⟨τ', hp, h⟩ := Option.map_eq_some_iff.1 h
            injection h with h1 h2
            subst h1; subst h2
            obtain ⟨d1, d2⟩ := aput_dst hp
            refine ⟨rfl, rfl, rfl, ⟨fun Q μ a w K hR hT hd hK => wpOp_call hc hcall hj hw hg hr hR hT hK, d1, d2, fun i => ⟨fun _ => rfl, fun hi => ?_⟩, ⟨rfl, hn⟩, rfl, fun i o' hi => ⟨⟨rfl, AHeap.get_lt hi⟩, o', hi, .inl rfl⟩, fun i o hi _ => AHeap.get_lt hi,
              fun k ok i hk ha hi h => h, fun i hi => ⟨⟨rfl, hi⟩, rfl⟩⟩⟩
            · have h1 : ¬ i < s.2.next := fun h => hi (.inl h)
              have h2 : ¬ i < R.next := fun h => hi (.inr ⟨Nat.le_of_not_lt h1, h⟩)
              show R.get i = s.2.get i
              rw [AHeap.get_out (Nat.le_of_not_lt h1), AHeap.get_out (Nat.le_of_not_lt h2)]
          · cases h
        · cases h
      · split at h
        · rename_i v R hr
          split at h
          · rename_i hn
            rw [Nat.ble_eq] at hn
            obtain ⟨τ', hp, h⟩ := Option.map_eq_some_iff.1 h
            injection h with h1 h2
            subst h1; subst h2
            obtain ⟨d1, d2⟩ := aput_dst hp
            have vf := viewQ_facts (H := s.2) (f := .but (exOf M j prev))
            refine ⟨rfl, rfl, rfl, ⟨fun Q μ a w K hR hT hd hK => wpOp_call hc hcall hj hw hg hr hR hT hK, d1, d2, fun i => ?_, ⟨layIn_next _ _ _, hn⟩, rfl, fun i o' hi => ⟨(vf i o' hi).1, (vf i o' hi).2.2⟩, fun i o hi ha => ?_, fun k ok i hk ha hi _ => ?_, fun i hi => by cases hi⟩⟩
            · have := get_layIn (W := []) (H := s.2) (R := R) hn (fun _ h => by cases h) i
              exact ⟨fun h => this.trans (if_pos h), fun h => this.trans (if_neg h)⟩
            · rw [(vf i o hi).2.1] at ha; cases ha
            · rw [(vf k ok hk).2.1] at ha; cases ha
          · cases h
        · cases h
    · simp only at h
      split at h
      · rename_i hW
        split at h
        · rename_i v R hr
          split at h
          · rename_i hn
            rw [Nat.ble_eq] at hn
            obtain ⟨τ', hp, h⟩ := Option.map_eq_some_iff.1 h
            injection h with h1 h2
            subst h1; subst h2
            obtain ⟨d1, d2⟩ := aput_dst hp
            have vf := view_facts (F := wIds cx.G s.2 (restr s.1 (o.looksAt ops)) o.op ++ rIds cx.G (restr s.1 (o.looksAt ops)) o.op) hW (fun i hi => List.mem_append_left _ hi)
            refine ⟨rfl, rfl, rfl, ⟨fun Q μ a w K hR hT hd hK => wpOp_aop hc hj hw hr hR hT hK, d1, d2, fun i => ?_, ⟨layIn_next _ _ _, hn⟩, rfl, vf.1, vf.2.1, vf.2.2.1, vf.2.2.2⟩⟩
            have := get_layIn (H := s.2) (R := R) hn (fun i hi => (vf.2.2.2 i hi).1.2) i
            exact ⟨fun h => this.trans (if_pos h), fun h => this.trans (if_neg h)⟩
          · cases h
        · cases h
      · cases h
  · cases h


/-! ### The region's steps -/
def stAt (ps : List Stp) (f : St) (j : Nat) : St := match ps[j]? with
  | some p => (p.τ, p.h)
  | none => f

theorem goReg_ok (hc : CxOK cx) (hcall : CallOK cx call) {M : List Nat} : ∀ (l : List Oper) (j : Nat) (prev : List (Nat × Stp)) (s : St) (ps : List Stp) (f : St), (∀ i o, l[i]? = some o → ops[j + i]? = some o) → goReg cx N call ops M l j prev s = some (ps, f) →
    ps.length = l.length ∧ stAt ps f 0 = s ∧ stAt ps f ps.length = f ∧ ∀ i o, l[i]? = some o → ∃ sp, ps[i]? = some sp ∧ sp.o = o ∧ SOK cx N ops (j + i) sp (stAt ps f (i + 1)) := by
  intro l
  induction l with
  | nil =>
    intro j prev s ps f _ h
    injection h with h
    injection h with h1 h2
    subst h1; subst h2
    exact ⟨rfl, rfl, rfl, fun i o h => by simp at h⟩
  | cons o l ih =>
    intro j prev s ps f hat h
    simp only [goReg] at h
    split at h
    · rename_i p s' hp
      split at h
      · rename_i ps' f' hg
        injection h with h
        injection h with h1 h2
        subst h1; subst h2
        obtain ⟨k1, k2, k3, k4⟩ := stepReg_ok hc hcall (hat 0 o rfl) hp
        obtain ⟨i1, i2, i3, i4⟩ := ih (j + 1) _ s' ps' f' (fun i o' h => by rw [show j + 1 + i = j + (i + 1) by omega]; exact hat (i + 1) o' (by simpa using h)) hg
        refine ⟨by simp [i1], by simp [stAt, k2, k3], by simp [stAt], fun i o' hi => ?_⟩
        cases i with
        | zero =>
          simp at hi
          subst hi
          refine ⟨p, rfl, k1, ?_⟩
          have : stAt (p :: ps') f' (0 + 1) = s' := by rw [← i2]; simp [stAt]
          rw [this]
          exact k4
        | succ i =>
          obtain ⟨sp, m1, m2, m3⟩ := i4 i o' (by simpa using hi)
          refine ⟨sp, by simpa using m1, m2, ?_⟩
          have : stAt (p :: ps') f' (i + 1 + 1) = stAt ps' f' (i + 1) := by simp [stAt]
          rw [this, show j + (i + 1) = j + 1 + i by omega]
          exact m3
      · cases h
    · cases h

/-- A region of which every step is known. -/
theorem steps_ok (hc : CxOK cx) {M : List Nat} {id : Nat} {s f : St} {ps : List Stp} (hO : ROrd ops (befB M)) (hlen : ps.length = ops.size) (k2 : stAt ps f 0 = s) (k3 : stAt ps f ps.length = f)
    (at_ : ∀ j o, ops[j]? = some o → ∃ sp, ps[j]? = some sp ∧ sp.o = o ∧ SOK cx N ops j sp (stAt ps f (j + 1)))
    (hP : ∀ a b s t, a < b → ps[a]? = some s → ps[b]? = some t → befB M a b = true ∨ pairOk s t = true) : ACode cx.P cx.G N (.region id ops true) (fun e τ H => e = .normal ∧ τ = f.1 ∧ H = f.2) s.1 s.2 := by
  let dflt : Stp := ⟨f.1, f.2, f.2, f.2, undef, .ids [], none, [], default⟩
  have gd : ∀ j sp, ps[j]? = some sp → ps.getD j dflt = sp := fun j sp h => by simp [List.getD_eq_getElem?_getD, h]
  have sd : ∀ j sp, ps[j]? = some sp → stAt ps f j = (sp.τ, sp.h) := fun j sp h => by simp [stAt, h]
  have hS : ∀ j o, ops[j]? = some o → RStep cx.P cx.G N ops (befB M) (fun j => (stAt ps f j).1) (fun j => (stAt ps f j).2) (fun j => (ps.getD j dflt).V) (fun j => (ps.getD j dflt).R)
      (fun j i => (ps.getD j dflt).foot.has i = true ∧ i < (ps.getD j dflt).h.next) (fun j i => (ps.getD j dflt).W i) (fun j => (ps.getD j dflt).v) (fun j => (ps.getD j dflt).rd) j o := by
    intro j o hj
    obtain ⟨sp, e1, e2, S⟩ := at_ j o hj
    subst e2
    have e3 := gd j sp e1
    have e4 := sd j sp e1
    have pair : ∀ k ok, ops[k]? = some ok → k ≠ j → ∃ sk, ps[k]? = some sk ∧ sk.o = ok ∧ SOK cx N ops k sk (stAt ps f (k + 1)) ∧ (befB M k j = true ∨ befB M j k = true ∨ (noclash sp.foot sp.h.next sk = true ∧ noT sp sk = true)) := by
      intro k ok hk hne
      obtain ⟨sk, m1, m2, m3⟩ := at_ k ok hk
      refine ⟨sk, m1, m2, m3, ?_⟩
      rcases Nat.lt_or_ge j k with h1 | h1
      · have := hP j k sp sk h1 e1 m1
        simp only [pairOk, Bool.and_eq_true] at this
        rcases this with h | h
        · exact .inr (.inl h)
        · exact .inr (.inr ⟨h.1.1.1, h.1.2⟩)
      · have := hP k j sk sp (by omega) m1 e1
        simp only [pairOk, Bool.and_eq_true] at this
        rcases this with h | h
        · exact .inl h
        · exact .inr (.inr ⟨h.1.1.2, h.2⟩)
    have wr : ∀ k sk, ps[k]? = some sk → SOK cx N ops k sk (stAt ps f (k + 1)) → ∀ i, Wr (fun j => (stAt ps f j).2) (fun j i => (ps.getD j dflt).W i) k i ↔ (sk.W i ∨ (sk.h.next ≤ i ∧ i < sk.R.next)) := by
      intro k sk m1 m3 i
      unfold Wr
      simp only [gd k sk m1, sd k sk m1, m3.next.1]
    refine ⟨?_, S.dst, ?_, ?_, ?_, ?_, ?_, ?_, ?_, ?_, ?_, ?_, ?_⟩
    · simp only [e3, e4]; exact S.sound
    · simp only [e3, e4]; exact S.tau
    · intro i
      rw [wr j sp e1 S i]
      simp only [e3, e4]
      exact S.heap i
    · simp only [e4, S.next.1]; exact S.next.2
    · simp only [e3, S.next.1]; exact Nat.le_refl _
    · simp only [e3, e4]; exact S.vnext
    · simp only [e3, e4]; exact S.sub
    · simp only [e3]; exact S.alive
    · simp only [e3, e4]; exact S.par
    · simp only [e3, e4]
      intro i hi
      have := S.wf i hi
      exact ⟨this.1, this.1.2, this.2⟩
    · intro i k hk hne hF hW
      simp only [e3] at hF
      obtain ⟨sk, m1, m2, m3, m4⟩ := pair k _ (Array.getElem?_eq_getElem hk) hne
      rw [wr k sk m1 m3 i] at hW
      rcases m4 with m4 | m4 | m4
      · exact .inl m4
      · exact .inr m4
      · exact absurd hW (noclash_ok m4.1 hF.1 hF.2)
    · intro t k ok hne ht hk hd
      simp only [e3] at ht
      obtain ⟨sk, m1, m2, m3, m4⟩ := pair k ok hk hne
      rcases m4 with m4 | m4 | m4
      · exact .inl m4
      · exact .inr m4
      · exact absurd (by rw [m2]; exact hd) (noT_ok m4.2 ht)
  have e0 : stAt ps f 0 = s := k2
  have eN : stAt ps f ops.size = f := by rw [← hlen]; exact k3
  have := acode_region_any (G := cx.G) (NT := N) hS hc.mix hO (id := id) (Q := fun e τ H => e = .normal ∧ τ = f.1 ∧ H = f.2) ⟨rfl, by rw [eN], by rw [eN]⟩
  simp only [e0] at this
  exact this

theorem runReg_ok (hc : CxOK cx) (hcall : CallOK cx call) {id : Nat} {s st : St} (h : runReg cx N call ops s = some st) : ACode cx.P cx.G N (.region id ops true) (fun e τ H => e = .normal ∧ τ = st.1 ∧ H = st.2) s.1 s.2 := by
  unfold runReg at h
  simp only at h
  split at h
  · rename_i hM
    simp only [Bool.and_eq_true] at hM
    split at h
    · rename_i ps f hg
      split at h
      · rename_i hP
        injection h with h
        subst h
        have hO := ord_ok (Nat.eq_of_beq_eq_true hM.1) hM.2
        obtain ⟨k1, k2, k3, k4⟩ := goReg_ok hc hcall ops.toList 0 [] s ps f (fun i o h => by simpa using h) hg
        have hlen : ps.length = ops.size := by simpa using k1
        have at_ : ∀ j o, ops[j]? = some o → ∃ sp, ps[j]? = some sp ∧ sp.o = o ∧ SOK cx N ops j sp (stAt ps f (j + 1)) := fun j o hj => by
          have := k4 j o (by simpa using hj)
          simpa using this
        exact steps_ok hc hO hlen k2 k3 at_ fun a b x y hab ha hb => by
          have := pairsOk_at ps 0 hP a b x y hab ha hb
          simpa using this
      · cases h
    · cases h
  · cases h


/-! ### Code, functions -/
theorem runOps_ok (hc : CxOK cx) (hcall : CallOK cx call) : ∀ (l : List Oper) (s st : St), runOps cx N call ops l s = some st → AOps cx.P cx.G N ops (fun e τ H => e = .normal ∧ τ = st.1 ∧ H = st.2) l s.1 s.2 := by
  intro l
  induction l with
  | nil => intro s st h; injection h with h; subst h; exact aops_nil ⟨rfl, rfl, rfl⟩
  | cons o l ih =>
    intro s st h
    simp only [runOps] at h
    split at h
    · rename_i s' hs
      have hrest := ih s' st h
      unfold stepOp at hs
      split at hs
      · rename_i hw
        split at hs
        · rename_i g vs hg
          split at hs
          · rename_i v H' hr
            obtain ⟨τ', hp, rfl⟩ := Option.map_eq_some_iff.1 hs
            obtain ⟨fn, f1, f2⟩ := hcall g vs s.2 v H' hr
            obtain ⟨f3, f4⟩ := hc.fn g fn f1
            rcases f2 with ⟨hb, hA⟩ | ⟨hb, hfl, hx, hv, rfl⟩
            · exact aops_call hw hg f3 hb f4 hA (fun v1 H1 ⟨e1, e2⟩ => ⟨τ', by rw [e1]; exact hp, by rw [e2]; exact hrest⟩)
            · exact aops_ext hw hg hfl hx hv hp hrest
          · cases hs
        · split at hs
          · rename_i v H' hr
            obtain ⟨τ', hp, rfl⟩ := Option.map_eq_some_iff.1 hs
            exact aops_op hc.tb hw hr hp hrest
          · cases hs
      · rename_i hw
        obtain ⟨τ', hp, rfl⟩ := Option.map_eq_some_iff.1 hs
        exact aops_skip hw hp hrest
      · cases hs
    · cases h

/-- As before, with regions in whatever order. -/
def runD (cx : Cx) (N : Nat) (call : Calling) (lf : Nat) : Code → St → Option (Exit × St)
  | .skip, s => some (.normal, s)
  | .label _, s => some (.normal, s)
  | .ret, s => some (.ret, s)
  | .exit i, s => some (.exit i, s)
  | .seq a b, s => match runD cx N call lf a s with
    | some (.normal, s') => runD cx N call lf b s'
    | r => r
  | .cond c a b, s => match aeval cx.G s.1 c with
    | some (.bool true) => runD cx N call lf a s
    | some (.bool false) => runD cx N call lf b s
    | _ => none
  | .block i c, s => match runD cx N call lf c s with
    | some (.exit j, s') => if j = i then some (.normal, s') else some (.exit j, s')
    | r => r
  | .loop c, s => loopN (runD cx N call lf c) lf s
  | .region _ ops false, s => match runOps cx N call ops ops.toList s with
    | some s' => some (.normal, s')
    | none => none
  | .region _ ops true, s => match runReg cx N call ops s with
    | some s' => some (.normal, s')
    | none => none
  | _, _ => none

def At (r : Exit × St) : Post := fun e τ H => e = r.1 ∧ τ = r.2.1 ∧ H = r.2.2
theorem loop_ok {c : Code} {f : St → Option (Exit × St)} (hf : ∀ s r, f s = some r → ACode cx.P cx.G N c (At r) s.1 s.2) : ∀ (n : Nat) (s : St) (r : Exit × St), loopN f n s = some r → ACode cx.P cx.G N (.loop c) (At r) s.1 s.2 := by
  intro n s r h
  refine acode_loop (fun k τ H => ∃ m, m ≤ k ∧ loopN f m (τ, H) = some r) ?_ (n := n) ⟨n, Nat.le_refl _, h⟩
  rintro k τ H ⟨m, hm, hl⟩
  cases m with
  | zero => cases hl
  | succ m =>
    simp only [loopN] at hl
    cases hq : f (τ, H) with
    | none => rw [hq] at hl; cases hl
    | some q =>
      obtain ⟨e, s'⟩ := q
      rw [hq] at hl
      refine (hf (τ, H) _ hq).mono ?_
      rintro e1 τ1 H1 ⟨h1, h2, h3⟩
      simp only at h1 h2 h3
      subst h1; subst h2; subst h3
      cases e1 with
      | normal => exact ⟨m, by omega, m, Nat.le_refl _, hl⟩
      | _ => (injection hl with hl; subst hl; exact ⟨rfl, rfl, rfl⟩)

theorem runD_ok (hc : CxOK cx) (hcall : CallOK cx call) {lf : Nat} : ∀ (c : Code) (s : St) (r : Exit × St), runD cx N call lf c s = some r → ACode cx.P cx.G N c (At r) s.1 s.2 := by
  intro c
  induction c with
  | skip => intro s r h; injection h with h; subst h; exact acode_skip ⟨rfl, rfl, rfl⟩
  | label l => intro s r h; injection h with h; subst h; exact acode_label ⟨rfl, rfl, rfl⟩
  | ret => intro s r h; injection h with h; subst h; exact acode_ret ⟨rfl, rfl, rfl⟩
  | exit i => intro s r h; injection h with h; subst h; exact acode_exit ⟨rfl, rfl, rfl⟩
  | seq a b iha ihb =>
    intro s r h
    simp only [runD] at h
    refine acode_seq ?_
    cases hq : runD cx N call lf a s with
    | none => rw [hq] at h; cases h
    | some q =>
      obtain ⟨e, s'⟩ := q
      rw [hq] at h
      refine (iha s _ hq).mono ?_
      rintro e1 τ1 H1 ⟨h1, h2, h3⟩
      simp only at h1 h2 h3
      subst h1; subst h2; subst h3
      cases e1 with
      | normal => exact ihb s' r h
      | _ => (injection h with h; subst h; exact ⟨rfl, rfl, rfl⟩)
  | cond c a b iha ihb =>
    intro s r h
    simp only [runD] at h
    split at h
    · rename_i hv; exact acode_cond hv (iha s r h)
    · rename_i hv; exact acode_cond hv (ihb s r h)
    · cases h
  | block i c ih =>
    intro s r h
    simp only [runD] at h
    refine acode_block ?_
    cases hq : runD cx N call lf c s with
    | none => rw [hq] at h; cases h
    | some q =>
      obtain ⟨e, s'⟩ := q
      rw [hq] at h
      refine (ih s _ hq).mono ?_
      rintro e1 τ1 H1 ⟨h1, h2, h3⟩
      simp only at h1 h2 h3
      subst h1; subst h2; subst h3
      cases e1 with
      | exit k =>
        simp only [blockQ]
        simp only at h
        split at h
        · rename_i e; rw [if_pos e]; injection h with h; subst h; exact ⟨rfl, rfl, rfl⟩
        · rename_i e; rw [if_neg e]; injection h with h; subst h; exact ⟨rfl, rfl, rfl⟩
      | _ => (injection h with h; subst h; exact ⟨rfl, rfl, rfl⟩)
  | loop c ih => intro s r h; exact loop_ok (fun s r => ih s r) lf s r h
  | region id ops d =>
    intro s r h
    cases d with
    | false =>
      simp only [runD] at h
      split at h
      · rename_i s' hs
        injection h with h
        subst h
        exact acode_region (runOps_ok hc hcall _ s s' hs)
      · cases h
    | true =>
      simp only [runD] at h
      split at h
      · rename_i s' hs
        injection h with h
        subst h
        exact runReg_ok hc hcall hs
      · cases h
  | _ => intros; rename_i h; cases h

def callD (cx : Cx) (lf : Nat) : Nat → Calling
  | 0, _, _, _ => none
  | k + 1, f, args, H =>
    match cx.fn f with
    | some fn =>
      match cx.sp f with
      | some g => g args H
      | none =>
      match fn.body with
      | some c =>
        if Nat.ble args.length fn.ntmps then
          match runD cx fn.ntmps (callD cx lf k) lf c (initT 0 args, H) with
          | some (.normal, τ, H') | some (.ret, τ, H') => (aresults cx.T τ H' fn.results.toList).map fun vs => (wrapR vs, H')
          | _ => none
        else none
      | none => (cx.ext f args).map (·, H)
    | none => none

theorem callD_ok (hc : CxOK cx) {lf : Nat} : ∀ k, CallOK cx (callD cx lf k) := by
  intro k
  induction k with
  | zero => intro g vs H v H' h; cases h
  | succ k ih =>
    intro g vs H v H' h
    simp only [callD] at h
    split at h
    · rename_i fn hf
      refine ⟨fn, hf, ?_⟩
      split at h
      · rename_i g' hg'
        obtain ⟨e1, e2⟩ := hc.sp g fn g' hf hg'
        exact .inl ⟨e1, e2 vs H v H' h⟩
      split at h
      · rename_i c hb
        left
        refine ⟨by rw [hb]; rfl, ?_⟩
        split at h
        · rename_i hlen
          rw [Nat.ble_eq] at hlen
          have key : ∀ e τ H1, runD cx fn.ntmps (callD cx lf k) lf c (initT 0 vs, H) = some (e, τ, H1) → (e = .normal ∨ e = .ret) → (aresults cx.T τ H1 fn.results.toList).map (fun us => (wrapR us, H1)) = some (v, H') →
              ACalls cx.P cx.G g vs H fun v1 H2 => v1 = v ∧ H2 = H' := by
            intro e τ H1 hr he hm
            obtain ⟨us, hu, hm⟩ := Option.map_eq_some_iff.1 hm
            injection hm with hm1 hm2
            subst hm1; subst hm2
            refine acalls_of hc.tb (hc.fn g fn hf).1 hb hlen ((runD_ok hc ih c _ _ hr).mono ?_)
            rintro e1 τ1 H1' ⟨h1, h2, h3⟩
            simp only at h1 h2 h3
            subst h1; subst h2; subst h3
            exact ⟨he, us, hu, rfl, rfl⟩
          split at h
          · rename_i τ H1 hr; exact key _ τ H1 hr (.inl rfl) h
          · rename_i τ H1 hr; exact key _ τ H1 hr (.inr rfl) h
          · cases h
        · cases h
      · rename_i hb
        right
        obtain ⟨u, hu, h⟩ := Option.map_eq_some_iff.1 h
        injection h with h1 h2
        subst h1; subst h2
        obtain ⟨e1, e2, e3⟩ := hc.ext g fn vs u hf hb hu
        exact ⟨hb, e1, e2, e3, rfl⟩
    · cases h

end
end Go.Eng
