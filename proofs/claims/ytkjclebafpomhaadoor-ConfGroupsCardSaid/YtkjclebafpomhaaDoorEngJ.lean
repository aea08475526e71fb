/- The engine, part 10: one operation. -/
import Derived.Test.YtkjclebafpomhaaDoorEngI
set_option linter.unusedVariables false
set_option linter.unusedSimpArgs false
namespace Go.Eng
open Go

abbrev Tmps := Tr Value
def tget (τ : Tmps) (t : Nat) : Value := (τ.get t).getD unk

def aeval (G : Nat) (τ : Tmps) : Operand → Option Value
  | .tmp t => some (tget τ t)
  | .const v => if flat 1 v then some v else none
  | .global g => if g < G then some (.pointer (some ⟨g, 0, none⟩)) else none
  | .func f => some (.func (.func f) #[] #[])
def aevals (G : Nat) (τ : Tmps) : List Operand → Option (List Value)
  | [] => some []
  | x :: l => match aeval G τ x, aevals G τ l with
    | some v, some vs => some (v :: vs)
    | _, _ => none
def aparts (G : Nat) (τ : Tmps) : List (Nat × Operand) → Option (List (Nat × Value))
  | [] => some []
  | (i, x) :: l => match aeval G τ x, aparts G τ l with
    | some v, some vs => some ((i, v) :: vs)
    | _, _ => none
def aopt (G : Nat) (τ : Tmps) : Option Operand → Option (Option Value)
  | none => some none
  | some x => (aeval G τ x).map some

/-- The frame's places. -/
structure TRel (μ : Mu) (N : Nat) (τ : Tmps) (tmps : Array Value) : Prop where
  size : tmps.size = N
  at_ : ∀ t, VRel μ (tget τ t) (tmps.getD t undef)

section
variable {P : Program} {G : Nat} {μ : Mu} {H : AHeap} {w : World} {T : Tb} {N : Nat} {τ : Tmps} {a : Act}

theorem TRel.mono {μ' : Mu} (h : μ.le μ') (k : TRel μ N τ a.tmps) : TRel μ' N τ a.tmps := ⟨k.size, fun t => (k.at_ t).mono h⟩

theorem aeval_ok (hR : Rel G μ H w) (hN : TRel μ N τ a.tmps) {x : Operand} {v : Value} (h : aeval G τ x = some v) : VRel μ v (a.eval x) := by
  cases x with
  | tmp t => injection h with h; subst h; exact hN.at_ t
  | const c =>
    simp only [aeval] at h
    split at h
    · rename_i hf; injection h with h; subst h; exact flat_rel 1 _ hf
    · cases h
  | global g =>
    simp only [aeval] at h
    split at h
    · rename_i hg
      injection h with h
      subst h
      obtain ⟨p, hp, hb, hs⟩ := hR.glob g hg
      have := VRel.ptr (o := 0) hp
      simpa [Act.eval, hb, hs] using this
    · cases h
  | func f => injection h with h; subst h; exact flat_rel 0 _ rfl

theorem aevals_ok (hR : Rel G μ H w) (hN : TRel μ N τ a.tmps) : ∀ {l : List Operand} {vs : List Value}, aevals G τ l = some vs → LRel μ vs (l.map a.eval) := by
  intro l
  induction l with
  | nil => intro vs h; injection h with h; subst h; exact LRel.nil
  | cons x l ih =>
    intro vs h
    simp only [aevals] at h
    split at h
    · rename_i v us hv hus
      injection h with h
      subst h
      exact LRel.cons (aeval_ok hR hN hv) (ih hus)
    · cases h
theorem aparts_ok (hR : Rel G μ H w) (hN : TRel μ N τ a.tmps) : ∀ {l : List (Nat × Operand)} {vs : List (Nat × Value)}, aparts G τ l = some vs → PRel μ vs (l.map fun (i, x) => (i, a.eval x)) := by
  intro l
  induction l with
  | nil => intro vs h; injection h with h; subst h; exact .nil
  | cons x l ih =>
    intro vs h
    obtain ⟨i, x⟩ := x
    simp only [aparts] at h
    split at h
    · rename_i v us hv hus
      injection h with h
      subst h
      exact .cons i (aeval_ok hR hN hv) (ih hus)
    · cases h
theorem aopt_ok (hR : Rel G μ H w) (hN : TRel μ N τ a.tmps) {x : Option Operand} {v : Option Value} (h : aopt G τ x = some v) : ORel μ v (x.map a.eval) := by
  cases x with
  | none => injection h with h; subst h; exact .none
  | some x =>
    simp only [aopt] at h
    obtain ⟨u, hu, rfl⟩ := Option.map_eq_some_iff.1 h
    exact .some (aeval_ok hR hN hu)

def okFlat (v : Option Value) (H : AHeap) : Option (Value × AHeap) := v.bind fun v => if flat 1 v then some (v, H) else none

def aBuiltin (P : Program) (T : Tb) (b : Builtin) (ts : Array TypeId) (xs : List Value) (H : AHeap) : Option (Value × AHeap) :=
  match b, ts.toList, xs with
  | .len, t :: _, [x] => (aLen T t x H).map (·, H)
  | .append, [t, xt], [s, x] => aAppend T t xt s x H
  | .copy, [t, xt], [d, x] => aCopy T t d x H
  | .delete, [t, kt], [m, k] => (aDelete P T t m k H).map (.tuple #[], ·)
  | .min, _, x :: xs => if (x :: xs).all (flat 0) then okFlat (prun P (Builtin.min_ #[] 0 (x :: xs).toArray)) H else none
  | .max, _, x :: xs => if (x :: xs).all (flat 0) then okFlat (prun P (Builtin.max_ #[] 0 (x :: xs).toArray)) H else none
  | _, _, _ => none

/-- One operation that calls no Go function. -/
def aop (P : Program) (T : Tb) (G : Nat) (τ : Tmps) (o : Op) (H : AHeap) : Option (Value × AHeap) :=
  match o with
  | .move x | .assign x => (aeval G τ x).map (·, H)
  | .pick c x y => match aeval G τ c with
    | some (.bool true) => (aeval G τ x).map (·, H)
    | some (.bool false) => (aeval G τ y).map (·, H)
    | _ => none
  | .alloc t => aAlloc T t H
  | .box _ x => (aeval G τ x).bind fun v => aBox v H
  | .build t ps => (aparts G τ ps.toList).bind fun vs => (aBuild T t vs).map (·, H)
  | .buildSlice t n ps => (aparts G τ ps.toList).bind fun vs => aBuildSlice T t n vs H
  | .load t x => (aeval G τ x).bind fun v => aLoad T t v H
  | .store t x y => (aeval G τ x).bind fun v => (aeval G τ y).bind fun u => (aStore T t v u H).map (undef, ·)
  | .nilCheck x => match aeval G τ x with
    | some (.pointer (some p)) => some (.pointer (some p), H)
    | some (.iface t v) => some (.iface t v, H)
    | some (.func (.func f) a b) => some (.func (.func f) a b, H)
    | _ => none
  | .binOp op t x y _ => (aeval G τ x).bind fun v => (aeval G τ y).bind fun u => okFlat (aBin P T op t x y v u H) H
  | .unOp op _ x => (aeval G τ x).bind fun v => okFlat (aUn P op v) H
  | .convert s d x => (aeval G τ x).bind fun v => aConv T s d v H
  | .sliceToArrayPointer t x => (aeval G τ x).bind fun v => (aArrAt T t v).map (·, H)
  | .makeInterface t x => (aeval G τ x).bind fun v => (aIface T t v).map (·, H)
  | .makeFunc fn f c => (aevals G τ f.toList).bind fun fs => (aevals G τ c.toList).map fun cs => (.func fn fs.toArray cs.toArray, H)
  | .makeMap t r => (aopt G τ r).bind fun v => (match T.und t with | some (.map _ _) => aMakeMap v H | _ => none)
  | .makeSlice t l c => (aeval G τ l).bind fun v => (aeval G τ c).bind fun u => aMakeSlice T t v u H
  | .slice t x lo hi mx => (aeval G τ x).bind fun v => (aopt G τ lo).bind fun l => (aopt G τ hi).bind fun h => (aopt G τ mx).bind fun m => (aSlice T t v l h m H).map (·, H)
  | .fieldAddr t x f => (aeval G τ x).bind fun v => (aFieldAddr T t v f).map (·, H)
  | .field t x f => (aeval G τ x).bind fun v => (aField T t v f).map (·, H)
  | .indexAddr t x i => (aeval G τ x).bind fun v => (aeval G τ i).bind fun u => (aIndexAddr T t v u).map (·, H)
  | .index t x i => (aeval G τ x).bind fun v => (aeval G τ i).bind fun u => (aIndex T t v u).map (·, H)
  | .lookup t x i ok => (aeval G τ x).bind fun v => (aeval G τ i).bind fun u => (aLookup P T t v u ok H).map (·, H)
  | .mapUpdate t m k x | .insert t m k x => (aeval G τ m).bind fun v => (aeval G τ k).bind fun u => (aeval G τ x).bind fun y => (aMapUpdate P T t v u y H).map (undef, ·)
  | .mapEntry t m k => (aeval G τ m).bind fun v => (aeval G τ k).bind fun u => aMapEntry P T t v u H
  | .entryStore _ m s x => (aeval G τ m).bind fun v => (aeval G τ s).bind fun u => (aeval G τ x).bind fun y => (aEntryStore v u y H).map (undef, ·)
  | .range t x => (aeval G τ x).bind fun v => aRange T t v H
  | .next x s => (aeval G τ x).bind fun v => aNext v s H
  | .extract x i => (aeval G τ x).bind fun v => (aExtract v i).map (·, H)
  | .call { callee := .builtin b, args, argTypes } => (aevals G τ args.toList).bind fun vs => aBuiltin P T b argTypes vs H
  | _ => none

/-- What an operation comes to in the world. -/
def OpOK (P : Program) (G : Nat) (μ : Mu) (H : AHeap) (w : World) (s : Sem Next) (r : Value × AHeap) : Prop :=
  ∃ n w' μ', s.run P w = .ok n w' ∧ ((∃ v', n = .value v' ∧ VRel μ' r.1 v') ∨ (n = .skip ∧ r.1 = undef)) ∧ Rel G μ' r.2 w' ∧ Tn μ H w μ' r.2 w'

theorem OpOK.of {s : Sem Value} {r : Value × AHeap} (h : Snd P G μ H w s r) : OpOK P G μ H w (do pure (.value (← s))) r := by
  obtain ⟨v', w', μ', h1, h2, h3, h4⟩ := h
  exact ⟨.value v', w', μ', by simp [h1], .inl ⟨v', rfl, h2⟩, h3, h4⟩
theorem OpOK.pure {v v' : Value} (hR : Rel G μ H w) (h : VRel μ v v') : OpOK P G μ H w (Pure.pure (.value v')) (v, H) :=
  ⟨_, w, μ, rfl, .inl ⟨v', rfl, h⟩, hR, Tn.refl hR⟩
theorem OpOK.unit {s : Sem Unit} {H' : AHeap} (h : SndU P G μ H w s H') : OpOK P G μ H w (do s; Pure.pure .skip) (undef, H') := by
  obtain ⟨w', μ', h1, h2, h3⟩ := h
  exact ⟨.skip, w', μ', by simp [h1], .inr ⟨rfl, rfl⟩, h2, h3⟩

theorem okFlat_inv {v : Option Value} {r : Value × AHeap} (h : okFlat v H = some r) : ∃ u, v = some u ∧ flat 1 u = true ∧ r = (u, H) := by
  unfold okFlat at h
  obtain ⟨u, hu, h⟩ := Option.bind_eq_some_iff.1 h
  split at h
  · rename_i hf; injection h with h; exact ⟨u, hu, hf, h.symm⟩
  · cases h

theorem min_flat {xs : List Value} {xs' : Array Value} (h : LRel μ xs xs'.toList) (hf : xs.all (flat 0) = true) : xs' = xs.toArray := by
  have := h.flat_eq hf
  apply Array.ext'
  simpa using this

theorem LRel.one_inv {x : Value} {l : List Value} (h : LRel μ [x] l) : ∃ x', l = [x'] ∧ VRel μ x x' := by
  obtain ⟨u, rfl⟩ : ∃ u, l = [u] := List.length_eq_one_iff.1 (by rw [← h.1]; rfl)
  exact ⟨u, rfl, h.2 0 (by simp)⟩
theorem LRel.two_inv {x y : Value} {l : List Value} (h : LRel μ [x, y] l) : ∃ x' y', l = [x', y'] ∧ VRel μ x x' ∧ VRel μ y y' := by
  match l, h with
  | [u, v], h => exact ⟨u, v, rfl, h.2 0 (by simp), h.2 1 (by simp)⟩
  | [], h => have := h.1; simp at this
  | [_], h => have := h.1; simp at this
  | _ :: _ :: _ :: _, h => have := h.1; simp at this

theorem min2_args (ts : Array TypeId) (ty : TypeId) (xs : Array Value) : Builtin.min_ ts ty xs = Builtin.min_ #[] 0 xs := rfl
theorem max2_args (ts : Array TypeId) (ty : TypeId) (xs : Array Value) : Builtin.max_ ts ty xs = Builtin.max_ #[] 0 xs := rfl

theorem aBuiltin_ok (hT : TbOK P T) (hR : Rel G μ H w) {b : Builtin} {ts : Array TypeId} {ty : TypeId} {cs : Array Bool} {vs : List Value} {ys : Array Value} {r : Value × AHeap} (hvs : LRel μ vs ys.toList)
    (h : aBuiltin P T b ts vs H = some r) : OpOK P G μ H w (Go.builtin b ts ty cs ys) r := by
  unfold aBuiltin at h
  split at h
  · rename_i t rest x hts
    obtain ⟨v, hv, rfl⟩ := Option.map_eq_some_iff.1 h
    obtain ⟨x', hx, hr⟩ := hvs.one_inv
    have hy : ys = #[x'] := by apply Array.ext'; simpa using hx
    subst hy
    have h0 : ts[0]? = some t := by
      have : ts.toList[0]? = some t := by rw [hts]; rfl
      simpa using this
    exact .of (aLen_ok hT hR hr hv h0)
  · rename_i t xt s x hts
    obtain ⟨s', x', hx, hr, hr2⟩ := hvs.two_inv
    have hy : ys = #[s', x'] := by apply Array.ext'; simpa using hx
    have ht : ts = #[t, xt] := by apply Array.ext'; simpa using hts
    subst hy; subst ht
    exact .of (aAppend_ok hT hR hr hr2 h)
  · rename_i t xt s x hts
    obtain ⟨s', x', hx, hr, hr2⟩ := hvs.two_inv
    have hy : ys = #[s', x'] := by apply Array.ext'; simpa using hx
    have ht : ts = #[t, xt] := by apply Array.ext'; simpa using hts
    subst hy; subst ht
    exact .of (aCopy_ok hT hR hr hr2 h)
  · rename_i t kt s x hts
    obtain ⟨H', hd, rfl⟩ := Option.map_eq_some_iff.1 h
    obtain ⟨s', x', hx, hr, hr2⟩ := hvs.two_inv
    have hy : ys = #[s', x'] := by apply Array.ext'; simpa using hx
    have ht : ts = #[t, kt] := by apply Array.ext'; simpa using hts
    subst hy; subst ht
    exact .of (aDelete_ok hT hR hr hr2 hd)
  · rename_i _ x xs
    split at h
    · rename_i hf
      obtain ⟨y, hy, hfl, rfl⟩ := okFlat_inv h
      have := min_flat hvs hf
      subst this
      refine .of (s := Builtin.min_ ts ty (x :: xs).toArray) (Snd.same hR ?_ (flat_rel 1 _ hfl))
      rw [min2_args]
      exact prun_run P _ _ hy w
    · cases h
  · rename_i _ x xs
    split at h
    · rename_i hf
      obtain ⟨y, hy, hfl, rfl⟩ := okFlat_inv h
      have := min_flat hvs hf
      subst this
      refine .of (s := Builtin.max_ ts ty (x :: xs).toArray) (Snd.same hR ?_ (flat_rel 1 _ hfl))
      rw [max2_args]
      exact prun_run P _ _ hy w
    · cases h
  · cases h

theorem aop_ok (hT : TbOK P T) (hR : Rel G μ H w) (hN : TRel μ N τ a.tmps) {o : Oper} {r : Value × AHeap} (h : aop P T G τ o.op H = some r) : OpOK P G μ H w (execOp a.eval o) r := by
  obtain ⟨dst, op, type, pos, after, guard⟩ := o
  simp only at h
  unfold aop at h
  unfold execOp
  split at h <;> simp only
  · obtain ⟨v, hv, rfl⟩ := Option.map_eq_some_iff.1 h
    exact .pure hR (aeval_ok hR hN hv)
  · obtain ⟨v, hv, rfl⟩ := Option.map_eq_some_iff.1 h
    exact .pure hR (aeval_ok hR hN hv)
  · rename_i c x y
    split at h
    · rename_i hc
      obtain ⟨v, hv, rfl⟩ := Option.map_eq_some_iff.1 h
      have hc' := flat_eq (aeval_ok hR hN hc) 0 rfl
      refine ⟨.value (a.eval x), w, μ, by simp [hc', asBool], .inl ⟨_, rfl, aeval_ok hR hN hv⟩, hR, Tn.refl hR⟩
    · rename_i hc
      obtain ⟨v, hv, rfl⟩ := Option.map_eq_some_iff.1 h
      have hc' := flat_eq (aeval_ok hR hN hc) 0 rfl
      refine ⟨.value (a.eval y), w, μ, by simp [hc', asBool], .inl ⟨_, rfl, aeval_ok hR hN hv⟩, hR, Tn.refl hR⟩
    · cases h
  · exact .of (aAlloc_ok hT hR h)
  · obtain ⟨v, hv, h⟩ := Option.bind_eq_some_iff.1 h
    exact .of (aBox_ok hR (aeval_ok hR hN hv) h)
  · rename_i t ps
    obtain ⟨vs, hv, h⟩ := Option.bind_eq_some_iff.1 h
    obtain ⟨v, hb, rfl⟩ := Option.map_eq_some_iff.1 h
    exact .of (aBuild_ok hT hR (by simpa using aparts_ok hR hN hv) hb)
  · rename_i t n ps
    obtain ⟨vs, hv, h⟩ := Option.bind_eq_some_iff.1 h
    exact .of (aBuildSlice_ok hT hR (by simpa using aparts_ok hR hN hv) h)
  · obtain ⟨v, hv, h⟩ := Option.bind_eq_some_iff.1 h
    exact .of (aLoad_ok hT hR (aeval_ok hR hN hv) h)
  · obtain ⟨v, hv, h⟩ := Option.bind_eq_some_iff.1 h
    obtain ⟨u, hu, h⟩ := Option.bind_eq_some_iff.1 h
    obtain ⟨H', hs, rfl⟩ := Option.map_eq_some_iff.1 h
    exact .unit (aStore_ok hT hR (aeval_ok hR hN hv) (aeval_ok hR hN hu) hs)
  · rename_i x
    split at h
    · rename_i p hv
      injection h with h
      subst h
      have := aeval_ok hR hN hv
      generalize a.eval x = u at *
      cases this with
      | ptr hp => exact .pure hR (.ptr hp)
    · rename_i t v hv
      injection h with h
      subst h
      have := aeval_ok hR hN hv
      generalize a.eval x = u at *
      cases this with
      | iface _ hp => exact .pure hR (.iface _ hp)
    · rename_i f c d hv
      injection h with h
      subst h
      have := aeval_ok hR hN hv
      generalize a.eval x = u at *
      cases this with
      | func _ h1 h2 h3 h4 => exact .pure hR (.func _ h1 h2 h3 h4)
    · cases h
  · obtain ⟨v, hv, h⟩ := Option.bind_eq_some_iff.1 h
    obtain ⟨u, hu, h⟩ := Option.bind_eq_some_iff.1 h
    obtain ⟨y, hy, hf, rfl⟩ := okFlat_inv h
    exact .of (aBin_ok hT hR (aeval_ok hR hN hv) (aeval_ok hR hN hu) hy hf)
  · obtain ⟨v, hv, h⟩ := Option.bind_eq_some_iff.1 h
    obtain ⟨y, hy, hf, rfl⟩ := okFlat_inv h
    exact .of (aUn_ok hR (aeval_ok hR hN hv) hy hf)
  · obtain ⟨v, hv, h⟩ := Option.bind_eq_some_iff.1 h
    exact .of (aConv_ok hT hR (aeval_ok hR hN hv) h)
  · obtain ⟨v, hv, h⟩ := Option.bind_eq_some_iff.1 h
    obtain ⟨y, hy, rfl⟩ := Option.map_eq_some_iff.1 h
    exact .of (aArrAt_ok hT hR (aeval_ok hR hN hv) hy)
  · obtain ⟨v, hv, h⟩ := Option.bind_eq_some_iff.1 h
    obtain ⟨y, hy, rfl⟩ := Option.map_eq_some_iff.1 h
    exact .of (aIface_ok hT hR (aeval_ok hR hN hv) hy)
  · rename_i fn f c
    obtain ⟨fs, hf, h⟩ := Option.bind_eq_some_iff.1 h
    obtain ⟨cs, hc, rfl⟩ := Option.map_eq_some_iff.1 h
    have k1 := (aevals_ok hR hN hf).arr
    have k2 := (aevals_ok hR hN hc).arr
    have e1 : (f.toList.map a.eval).toArray = f.map a.eval := by apply Array.ext'; simp
    have e2 : (c.toList.map a.eval).toArray = c.map a.eval := by apply Array.ext'; simp
    rw [e1] at k1
    rw [e2] at k2
    refine .of (s := Instr.makeFunc fn (f.map a.eval) (c.map a.eval)) (Snd.same hR rfl (.func fn k1.1 k2.1 k1.2 k2.2))
  · obtain ⟨v, hv, h⟩ := Option.bind_eq_some_iff.1 h
    split at h
    · rename_i k e hu
      exact .of (aMakeMap_ok hT hR hu (aopt_ok hR hN hv) h)
    · cases h
  · obtain ⟨v, hv, h⟩ := Option.bind_eq_some_iff.1 h
    obtain ⟨u, hu, h⟩ := Option.bind_eq_some_iff.1 h
    exact .of (aMakeSlice_ok hT hR (aeval_ok hR hN hv) (aeval_ok hR hN hu) h)
  · obtain ⟨v, hv, h⟩ := Option.bind_eq_some_iff.1 h
    obtain ⟨l, hl, h⟩ := Option.bind_eq_some_iff.1 h
    obtain ⟨g, hg, h⟩ := Option.bind_eq_some_iff.1 h
    obtain ⟨m, hm, h⟩ := Option.bind_eq_some_iff.1 h
    obtain ⟨y, hy, rfl⟩ := Option.map_eq_some_iff.1 h
    exact .of (aSlice_ok hT hR (aeval_ok hR hN hv) (aopt_ok hR hN hl) (aopt_ok hR hN hg) (aopt_ok hR hN hm) hy)
  · obtain ⟨v, hv, h⟩ := Option.bind_eq_some_iff.1 h
    obtain ⟨y, hy, rfl⟩ := Option.map_eq_some_iff.1 h
    exact .of (aFieldAddr_ok hT hR (aeval_ok hR hN hv) hy)
  · obtain ⟨v, hv, h⟩ := Option.bind_eq_some_iff.1 h
    obtain ⟨y, hy, rfl⟩ := Option.map_eq_some_iff.1 h
    exact .of (aField_ok hT hR (aeval_ok hR hN hv) hy)
  · obtain ⟨v, hv, h⟩ := Option.bind_eq_some_iff.1 h
    obtain ⟨u, hu, h⟩ := Option.bind_eq_some_iff.1 h
    obtain ⟨y, hy, rfl⟩ := Option.map_eq_some_iff.1 h
    exact .of (aIndexAddr_ok hT hR (aeval_ok hR hN hv) (aeval_ok hR hN hu) hy)
  · obtain ⟨v, hv, h⟩ := Option.bind_eq_some_iff.1 h
    obtain ⟨u, hu, h⟩ := Option.bind_eq_some_iff.1 h
    obtain ⟨y, hy, rfl⟩ := Option.map_eq_some_iff.1 h
    exact .of (aIndex_ok hT hR (aeval_ok hR hN hv) (aeval_ok hR hN hu) hy)
  · obtain ⟨v, hv, h⟩ := Option.bind_eq_some_iff.1 h
    obtain ⟨u, hu, h⟩ := Option.bind_eq_some_iff.1 h
    obtain ⟨y, hy, rfl⟩ := Option.map_eq_some_iff.1 h
    exact .of (aLookup_ok hT hR (aeval_ok hR hN hv) (aeval_ok hR hN hu) hy)
  · obtain ⟨v, hv, h⟩ := Option.bind_eq_some_iff.1 h
    obtain ⟨u, hu, h⟩ := Option.bind_eq_some_iff.1 h
    obtain ⟨y, hy, h⟩ := Option.bind_eq_some_iff.1 h
    obtain ⟨H', hs, rfl⟩ := Option.map_eq_some_iff.1 h
    exact .unit (aMapUpdate_ok hT hR (aeval_ok hR hN hv) (aeval_ok hR hN hu) (aeval_ok hR hN hy) hs)
  · obtain ⟨v, hv, h⟩ := Option.bind_eq_some_iff.1 h
    obtain ⟨u, hu, h⟩ := Option.bind_eq_some_iff.1 h
    obtain ⟨y, hy, h⟩ := Option.bind_eq_some_iff.1 h
    obtain ⟨H', hs, rfl⟩ := Option.map_eq_some_iff.1 h
    exact .unit (aMapUpdate_ok hT hR (aeval_ok hR hN hv) (aeval_ok hR hN hu) (aeval_ok hR hN hy) hs)
  · obtain ⟨v, hv, h⟩ := Option.bind_eq_some_iff.1 h
    obtain ⟨u, hu, h⟩ := Option.bind_eq_some_iff.1 h
    exact .of (aMapEntry_ok hT hR (aeval_ok hR hN hv) (aeval_ok hR hN hu) h)
  · obtain ⟨v, hv, h⟩ := Option.bind_eq_some_iff.1 h
    obtain ⟨u, hu, h⟩ := Option.bind_eq_some_iff.1 h
    obtain ⟨y, hy, h⟩ := Option.bind_eq_some_iff.1 h
    obtain ⟨H', hs, rfl⟩ := Option.map_eq_some_iff.1 h
    exact .unit (aEntryStore_ok hR (aeval_ok hR hN hv) (aeval_ok hR hN hu) (aeval_ok hR hN hy) hs)
  · obtain ⟨v, hv, h⟩ := Option.bind_eq_some_iff.1 h
    exact .of (aRange_ok hT hR (aeval_ok hR hN hv) h)
  · obtain ⟨v, hv, h⟩ := Option.bind_eq_some_iff.1 h
    exact .of (aNext_ok hR (aeval_ok hR hN hv) h)
  · obtain ⟨v, hv, h⟩ := Option.bind_eq_some_iff.1 h
    obtain ⟨y, hy, rfl⟩ := Option.map_eq_some_iff.1 h
    exact .of (aExtract_ok hR (aeval_ok hR hN hv) hy)
  · rename_i b args ts
    obtain ⟨vs, hv, h⟩ := Option.bind_eq_some_iff.1 h
    have hvs := aevals_ok hR hN hv
    have e1 : (args.map a.eval).toList = args.toList.map a.eval := by simp
    rw [← e1] at hvs
    simp only [resolve, pure_bind, invoke]
    exact aBuiltin_ok hT hR hvs h
  · cases h

end
end Go.Eng
