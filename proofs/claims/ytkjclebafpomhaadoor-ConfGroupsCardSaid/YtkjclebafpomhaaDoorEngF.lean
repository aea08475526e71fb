/- The engine, part 6: append, make. -/
import Derived.Test.YtkjclebafpomhaaDoorEngE
set_option linter.unusedVariables false
set_option linter.unusedSimpArgs false
namespace Go.Eng
open Go
section
variable {P : Program} {G : Nat} {μ : Mu} {H : AHeap} {w : World} {T : Tb}

/-- A row that has grown in place: the old name is shut, a new one lies on the same block. -/
theorem Rel.grown {i o : Nat} {cs xs xs' : List Value} {par : List Nat} {gs : Nat} {p : Pl} {m : Nat} (h : Rel G μ H w) (hi : H.get i = some (.cells cs false par gs)) (hp : μ i = some p) (ho : o ≤ cs.length)
    (hx : LRel μ xs xs') (h1 : xs.all one = true) (hroom : p.s + cs.length + xs.length ≤ p.sz) :
    ∃ w', (storeCells ⟨p.b, p.s + cs.length, none⟩ xs').run P w = .ok () w' ∧
      Rel G (μ.upd H.next ⟨p.b, p.s + o, p.sz, gs⟩) ((H.set i (.cells cs true par gs)).new (.cells (cs.drop o ++ xs) false (i :: par) gs)) w' ∧
      Tn μ H w (μ.upd H.next ⟨p.b, p.s + o, p.sz, gs⟩) ((H.set i (.cells cs true par gs)).new (.cells (cs.drop o ++ xs) false (i :: par) gs)) w' := by
  obtain ⟨c, e, lo, hi', hb, a1, a2, a3, a4, a5, a6, a7⟩ := h.cells hi hp
  have hlen : xs'.length = xs.length := hx.1.symm
  obtain ⟨c', k1, k2, k3, k4, k5, k6, k7, k8⟩ := setCells_heap p.b xs' (p.s + cs.length) w c e (lo, hi') hb (by omega)
  have hfr : ∀ j, j < xs'.length → w.frozen? ⟨p.b, p.s + cs.length + 0 + j, none⟩ = false := by
    intro j hj
    have := a6 rfl (p.s + cs.length + j) (by omega) (by omega)
    simp [World.frozen?, hb]
    omega
  have hcl : ∀ j, j < xs'.length → (w.cell? ⟨p.b, p.s + cs.length + 0 + j, none⟩).isSome = true := by
    intro j hj
    rw [cell_get hb, getD_some (by omega)]
    rfl
  have hrun : (storeCells ⟨p.b, p.s + cs.length, none⟩ xs').run P w = .ok () (w.setCells p.b (p.s + cs.length) xs') := by
    have := run_storeCells_cells (P := P) p.b (p.s + cs.length) xs' 0 w hcl hfr (hx.one h1)
    simpa using this
  have hilt := h.fin i p hp
  have le := Mu.le_upd h ⟨p.b, p.s + o, p.sz, gs⟩
  have hs := (h.shut hi).1
  have ht := (h.shut hi).2
  -- who lies on the same block
  have same : ∀ j oj pj, j ≠ i → H.get j = some oj → μ j = some pj → pj.b = p.b → j ∈ par := by
    intro j oj pj hj hg hpj e
    rcases h.sep j i oj _ pj p hj hg hi hpj hp e with hh | hh
    · exact hh
    · have := h.ro i j _ oj hi hg hh
      simp [AObj.alive] at this
  have get' : ∀ j oj, ((H.set i (.cells cs true par gs)).new (.cells (cs.drop o ++ xs) false (i :: par) gs)).get j = some oj →
      (j = H.next ∧ oj = .cells (cs.drop o ++ xs) false (i :: par) gs) ∨ (j < H.next ∧ (H.set i (.cells cs true par gs)).get j = some oj) := by
    intro j oj hg
    rw [AHeap.get_new] at hg
    split at hg
    · rename_i e; injection hg with hg; exact .inl ⟨e, hg.symm⟩
    · obtain ⟨pj, xj, hpj, _, _⟩ := hs.dom j oj hg
      exact .inr ⟨h.fin j pj hpj, hg⟩
  have mu' : ∀ j pj, j < H.next → (μ.upd H.next ⟨p.b, p.s + o, p.sz, gs⟩) j = some pj → μ j = some pj := by
    intro j pj hj e
    simpa [Mu.upd, show j ≠ H.next by omega] using e
  -- what the old objects read in the new world
  have keep : ∀ j oj pj xj, (H.set i (.cells cs true par gs)).get j = some oj → μ j = some pj → w.heap[pj.b]? = some xj → ObjRel μ oj xj pj →
      ∃ xj', (w.setCells p.b (p.s + cs.length) xs').heap[pj.b]? = some xj' ∧ ObjRel μ oj xj' pj := by
    intro j oj pj xj hg hpj hxj hoj
    by_cases eb : pj.b = p.b
    · have hend : pj.s + oj.len ≤ p.s + cs.length ∧ oj.alive = false := by
        by_cases ej : j = i
        · subst ej
          rw [AHeap.get_set _ _ _ _ (AHeap.get_lt hi), if_pos rfl] at hg
          injection hg with hg
          subst hg
          rw [hp] at hpj
          injection hpj with hpj
          subst hpj
          exact ⟨Nat.le_refl _, rfl⟩
        · rw [AHeap.get_set _ _ _ _ (AHeap.get_lt hi), if_neg ej] at hg
          have hm := same j oj pj ej hg hpj eb
          exact ⟨h.pend j i oj _ pj p hg hi hm hpj hp eb, h.ro j i oj _ hg hi hm⟩
      rw [eb] at hxj ⊢
      rw [hb] at hxj
      injection hxj with hxj
      subst hxj
      refine ⟨_, k3, ?_⟩
      cases hoj with
      | cells b1 b2 b3 b4 b5 b6 b7 =>
        simp only [AObj.len, AObj.alive, Bool.not_eq_false'] at hend
        refine .cells (by omega) b2 (by omega) (fun x hx => ?_) b5 (fun e => by rw [hend.2] at e; cases e) b7
        rw [k2, if_neg (by omega)]
        exact b4 x hx
    · exact ⟨xj, by rw [k4 _ eb]; exact hxj, hoj⟩
  refine ⟨_, hrun, ⟨?_, ?_, ?_, ?_, ?_, ?_, ?_, ?_⟩, ⟨fun _ _ k => h.lt k, le, fun j hj => by simp [Mu.upd, show j ≠ H.next by omega], by simp, ⟨k6, k7, k8, by rw [k5]; exact Nat.le_refl _, ?_⟩, ?_, ?_, ?_⟩, ?_, ?_⟩
  · intro j oj hg
    rcases get' j oj hg with ⟨rfl, rfl⟩ | ⟨hlt, hg'⟩
    · refine ⟨_, _, Mu.upd_same _ _, k3, .cells (by simp; omega) rfl (by simp; omega) (fun x hx' => ?_) (fun x hx' => ?_) (fun _ x x1 x2 => a6 rfl x (by simp at x1; omega) (by omega)) a7⟩
      · refine VRel.mono le ?_
        simp only [List.length_append, List.length_drop] at hx'
        simp only
        rw [k2]
        by_cases e1 : x < cs.length - o
        · rw [if_neg (by omega)]
          have := a4 (o + x) (by omega)
          have e2 : (cs.drop o ++ xs).getD x undef = cs.getD (o + x) undef := by
            simp [List.getD_eq_getElem?_getD, List.getElem?_append_left (show x < (cs.drop o).length by simp; omega)]
          rw [e2, show p.s + o + x = p.s + (o + x) by omega]
          exact this
        · rw [if_pos (by omega)]
          have := hx.2 (x - (cs.length - o)) (by omega)
          have e2 : (cs.drop o ++ xs).getD x undef = xs.getD (x - (cs.length - o)) undef := by
            simp [List.getD_eq_getElem?_getD, List.getElem?_append_right (show (cs.drop o).length ≤ x by simp; omega)]
          rw [e2, show p.s + o + x - (p.s + cs.length) = x - (cs.length - o) by omega]
          exact this
      · simp only [List.mem_append] at hx'
        rcases hx' with hx' | hx'
        · exact a5 x (List.mem_of_mem_drop hx')
        · exact List.all_eq_true.1 h1 x hx'
    · obtain ⟨pj, xj, a, b, c⟩ := hs.dom j oj hg'
      obtain ⟨xj', q1, q2⟩ := keep j oj pj xj hg' a b c
      exact ⟨pj, xj', le _ _ a, q1, q2.mono le⟩
  · intro j pj hj
    simp only [Mu.upd] at hj
    split at hj
    · simp; omega
    · have := h.fin j pj hj; simp; omega
  · have := h.base; simp; omega
  · intro g hg
    obtain ⟨q, a, b, c⟩ := h.glob g hg
    exact ⟨q, le _ _ a, b, c⟩
  · intro j k oj ok pj pk hjk hgj hgk hpj hpk e
    rcases get' j oj hgj with ⟨rfl, rfl⟩ | ⟨b1, b2⟩
    · rcases get' k ok hgk with ⟨rfl, rfl⟩ | ⟨c1, c2⟩
      · exact absurd rfl hjk
      · rw [Mu.upd_same] at hpj
        injection hpj with hpj
        subst hpj
        have hpk' := mu' k pk c1 hpk
        right
        by_cases ek : k = i
        · subst ek; exact List.mem_cons_self ..
        · rw [AHeap.get_set _ _ _ _ (AHeap.get_lt hi), if_neg ek] at c2
          exact List.mem_cons_of_mem _ (same k ok pk ek c2 hpk' e.symm)
    · rcases get' k ok hgk with ⟨rfl, rfl⟩ | ⟨c1, c2⟩
      · rw [Mu.upd_same] at hpk
        injection hpk with hpk
        subst hpk
        have hpj' := mu' j pj b1 hpj
        left
        by_cases ek : j = i
        · subst ek; exact List.mem_cons_self ..
        · rw [AHeap.get_set _ _ _ _ (AHeap.get_lt hi), if_neg ek] at b2
          exact List.mem_cons_of_mem _ (same j oj pj ek b2 hpj' e)
      · exact hs.sep j k oj ok pj pk hjk b2 c2 (mu' j pj b1 hpj) (mu' k pk c1 hpk) e
  · intro j k oj ok hgj hgk hm
    rcases get' k ok hgk with ⟨rfl, rfl⟩ | ⟨c1, c2⟩
    · simp only [AObj.par, List.mem_cons] at hm
      rcases get' j oj hgj with ⟨rfl, rfl⟩ | ⟨b1, b2⟩
      · exfalso
        rcases hm with hm | hm
        · omega
        · obtain ⟨q, hq⟩ := h.plt i _ _ hi hm
          have := h.fin _ _ hq
          omega
      · by_cases ek : j = i
        · subst ek
          rw [AHeap.get_set _ _ _ _ (AHeap.get_lt hi), if_pos rfl] at b2
          injection b2 with b2
          subst b2
          rfl
        · rcases hm with hm | hm
          · exact absurd hm ek
          · rw [AHeap.get_set _ _ _ _ (AHeap.get_lt hi), if_neg ek] at b2
            exact h.ro j i oj _ b2 hi hm
    · rcases get' j oj hgj with ⟨rfl, rfl⟩ | ⟨b1, b2⟩
      · exfalso
        obtain ⟨q, hq⟩ := hs.plt k ok _ c2 hm
        have := h.fin _ _ hq
        omega
      · exact hs.ro j k oj ok b2 c2 hm
  · intro j oj k hgj hm
    rcases get' j oj hgj with ⟨rfl, rfl⟩ | ⟨b1, b2⟩
    · simp only [AObj.par, List.mem_cons] at hm
      rcases hm with rfl | hm
      · exact ⟨p, le _ _ hp⟩
      · obtain ⟨q, hq⟩ := h.plt i _ _ hi hm
        exact ⟨q, le _ _ hq⟩
    · obtain ⟨q, hq⟩ := hs.plt j oj k b2 hm
      exact ⟨q, le _ _ hq⟩
  · intro j k oj ok pj pk hgj hgk hm hpj hpk e
    rcases get' k ok hgk with ⟨rfl, rfl⟩ | ⟨c1, c2⟩
    · rcases get' j oj hgj with ⟨rfl, rfl⟩ | ⟨b1, b2⟩
      · simp only [AObj.par, List.mem_cons] at hm
        exfalso
        rcases hm with hm | hm
        · omega
        · obtain ⟨q, hq⟩ := h.plt i _ _ hi hm
          have := h.fin _ _ hq
          omega
      · rw [Mu.upd_same] at hpk
        injection hpk with hpk
        subst hpk
        have hpj' := mu' j pj b1 hpj
        have : pj.s + oj.len ≤ p.s + cs.length := by
          by_cases ek : j = i
          · subst ek
            rw [AHeap.get_set _ _ _ _ (AHeap.get_lt hi), if_pos rfl] at b2
            injection b2 with b2
            subst b2
            rw [hp] at hpj'
            injection hpj' with hpj'
            subst hpj'
            exact Nat.le_refl _
          · rw [AHeap.get_set _ _ _ _ (AHeap.get_lt hi), if_neg ek] at b2
            exact h.pend j i oj _ pj p b2 hi (same j oj pj ek b2 hpj' e) hpj' hp e
        have e3 : AObj.len (.cells (cs.drop o ++ xs) false (i :: par) gs) = cs.length - o + xs.length := by simp [AObj.len]
        rw [e3]
        show pj.s + oj.len ≤ p.s + o + _
        omega
    · rcases get' j oj hgj with ⟨rfl, rfl⟩ | ⟨b1, b2⟩
      · exfalso
        obtain ⟨q, hq⟩ := hs.plt k ok _ c2 hm
        have := h.fin _ _ hq
        omega
      · exact hs.pend j k oj ok pj pk b2 c2 hm (mu' j pj b1 hpj) (mu' k pk c1 hpk) e
  · intro k hk hn
    refine k4 k fun e => hn ⟨i, _, p, hi, rfl, hp, e.symm⟩
  · intro j oj pj hgj hpj hb'
    rcases get' j oj hgj with ⟨rfl, rfl⟩ | ⟨b1, b2⟩
    · rw [Mu.upd_same] at hpj
      injection hpj with hpj
      subst hpj
      exact .inl ⟨i, _, p, hi, rfl, hp, rfl⟩
    · have hpj' := mu' j pj b1 hpj
      exact ht.img j oj pj b2 hpj' hb'
  · intro j o0 o1 h0 hd h1'
    rcases get' j o1 h1' with ⟨rfl, rfl⟩ | ⟨b1, b2⟩
    · exact absurd (h.lt h0) (by omega)
    · exact ht.dead j o0 o1 h0 hd b2
  · intro j oj hlt hgj
    rcases get' j oj hgj with ⟨rfl, rfl⟩ | ⟨b1, b2⟩
    · omega
    · exact ht.dom j oj hlt b2
  · intro j oj k hgj hm hlt
    rcases get' j oj hgj with ⟨rfl, rfl⟩ | ⟨b1, b2⟩
    · simp only [AObj.par, List.mem_cons] at hm
      rcases hm with rfl | hm
      · exact .inl ⟨_, hi, rfl⟩
      · exact .inr (.inl ⟨i, _, hi, rfl, hm⟩)
    · exact ht.par j oj k b2 hm hlt
  · intro j oj hgj hd
    rcases ht.kept j oj hgj hd with h1 | h1
    · exact .inl h1
    · right
      rw [AHeap.get_new, if_neg]
      · exact h1
      · have := AHeap.get_lt h1; simp at this ⊢; omega

/-! ### append -/
/-- What is appended: how many elements, their cells. -/
def srcOf (H : AHeap) (size : Nat) (x : Value) : Option (Nat × List Value) :=
  match x with
  | .slice none _ _ => some (0, [])
  | .slice (some a) n c => if c = empt then (if n = 0 then some (0, []) else none) else (loadN H a (n * size)).map fun vs => (n, vs)
  | .string s => if size = 1 then some (s.size, s.data.toList.map fun b => .int .u8 b.toNat) else none
  | _ => none

theorem src_ok (hR : Rel G μ H w) {size : Nat} {x x' : Value} {n : Nat} {vs : List Value} (hx : VRel μ x x') (h : srcOf H size x = some (n, vs)) :
    ∃ vs', LRel μ vs vs' ∧ vs.length = n * size ∧ vs.all one = true ∧ (Builtin.lenOf x').run P w = .ok n w ∧ (∀ w1 : World, w1.heap = w.heap → (Builtin.firstCells size n x').run P w1 = .ok vs'.toArray w1) := by
  unfold srcOf at h
  split at h
  · rename_i n0 c0
    injection h with h
    injection h with h1 h2
    subst h1; subst h2
    cases hx
    exact ⟨[], LRel.nil, by simp, rfl, by simp [Builtin.lenOf], fun w1 _ => by simp [Builtin.firstCells]⟩
  · rename_i a n0 c0
    split at h
    · split at h
      · rename_i hc hn
        injection h with h
        injection h with h1 h2
        subst h1; subst h2
        subst hn
        cases hx with
        | slice hp hcap => exact ⟨[], LRel.nil, by simp, rfl, by simp [Builtin.lenOf], fun w1 _ => by simp [Builtin.firstCells, loadCells, loadCellsFrom]⟩
        | empty hc => exact ⟨[], LRel.nil, by simp, rfl, by simp [Builtin.lenOf], fun w1 _ => by simp [Builtin.firstCells, loadCells, loadCellsFrom]⟩
      · cases h
    · rename_i hc
      obtain ⟨vs0, hvs, h⟩ := Option.map_eq_some_iff.1 h
      injection h with h1 h2
      subst h1; subst h2
      cases hx with
      | slice hp hcap =>
        obtain ⟨vs', k1, k2, k3, k4, k5⟩ := load_cells (P := P) hR hp hvs
        exact ⟨vs', k1, k2, List.all_eq_true.2 k3, by simp [Builtin.lenOf], fun w1 e1 => by simp [Builtin.firstCells, k5 w1 e1]⟩
      | empty hc' => exact absurd rfl hc
  · rename_i s
    split at h
    · rename_i hs
      injection h with h
      injection h with h1 h2
      subst h1; subst h2; subst hs
      cases hx
      have hl : (s.data.toList.map fun b => Value.int .u8 b.toNat).all (flat 0) = true := List.all_eq_true.2 fun x hx => by
        obtain ⟨b, _, rfl⟩ := List.mem_map.1 hx
        rfl
      refine ⟨_, LRel.flat hl, ?_, all_one hl, by simp [Builtin.lenOf], ?_⟩
      · simp
      · intro w1 _
        have := Lib.run_firstCells_string (P := P) w1 1 s
        simpa [Lib.strCells] using this
    · cases h
  · cases h

def isInt : TypeDesc → Bool
  | .int _ => true
  | _ => false
/-- The whole of a slice's block, from the slice on; what else is known of the block. -/
def aAppend (T : Tb) (t xt : TypeId) (s x : Value) (H : AHeap) : Option (Value × AHeap) :=
  match T.und t, T.und xt with
  | some (.slice e), some d =>
    if isInt d then none else
    match T.info e, zeroT T e with
    | some i, some _ =>
      if i.size = 0 ∨ i.bytes = 0 then none else
      match srcOf H i.size x with
      | some (n, vs) =>
        match s with
        | .slice none 0 0 =>
          if n = 0 then some (s, H) else
          if n * i.bytes ≤ 140737488355328 then (aNew vs i.size H).map fun r => (.slice (some ⟨H.next, 0, none⟩) n (grow + n), r.2) else none
        | .slice (some a) l c =>
          if n = 0 then some (s, H) else
          if c < grow then
            if l + n ≤ c then (storeN H ⟨a.block, a.off + l * i.size, none⟩ vs).map fun H' => (.slice (some a) (l + n) c, H')
            else if (l + n) * i.bytes ≤ 140737488355328 then
              (loadN H a (l * i.size)).bind fun old => (aNew (old ++ vs) i.size H).map fun r => (.slice (some ⟨H.next, 0, none⟩) (l + n) (grow + (l + n)), r.2)
            else none
          else if c < empt then
            if l + n ≤ c - grow then (storeN H ⟨a.block, a.off + l * i.size, none⟩ vs).map fun H' => (.slice (some a) (l + n) c, H')
            else match H.get a.block with
              | some (.cells cs false par gs) =>
                if gs = i.size ∧ l = c - grow ∧ a.off + l * i.size = cs.length ∧ (l + n) * i.bytes ≤ 140737488355328 then
                  some (.slice (some ⟨H.next, 0, none⟩) (l + n) (grow + (l + n)), (H.set a.block (.cells cs true par gs)).new (.cells (cs.drop a.off ++ vs) false (a.block :: par) gs))
                else none
              | _ => none
          else none
        | _ => none
      | none => none
    | _, _ => none
  | _, _ => none

/-- There is room: what is appended is stored behind the slice. -/
theorem append_stays (hT : TbOK P T) {t xt e : TypeId} {d : TypeDesc} {i : TypeInfo} {base : Option Addr} {l c n : Nat} {x' : Value} {vs' : List Value} {ty : TypeId} {w' : World}
    (hu : T.und t = some (.slice e)) (hd : T.und xt = some d) (hni : isInt d = false) (hi : T.info e = some i)
    (h1 : (Builtin.lenOf x').run P w = .ok n w) (h2 : (Builtin.firstCells i.size n x').run P w = .ok vs'.toArray w) (hc : l + n ≤ c)
    (hst : (match base with | some a => storeCells (a.add (l * i.size)) vs' | none => pure () : Sem Unit).run P w = .ok () w') :
    (Builtin.append_ #[t, xt] ty #[.slice base l c, x']).run P w = .ok (.slice base (l + n) c) w' := by
  have hm : Builtin.append_.match_1 (fun _ => Bool) d (fun _ => true) (fun _ => false) = false := by cases d <;> first | rfl | simp [isInt] at hni
  cases base with
  | none =>
    injection hst with _ hst
    subst hst
    simp [Builtin.append_, run_und hT hu, run_und hT hd, run_size hT hi, h1, h2, hc, hm]
  | some a =>
    simp only at hst
    simp [Builtin.append_, run_und hT hu, run_und hT hd, run_size hT hi, h1, h2, hc, hst, hm]

/-- There is none: a new row. -/
theorem append_moves (hT : TbOK P T) {t xt e : TypeId} {d : TypeDesc} {i : TypeInfo} {z : Value} {base : Option Addr} {l c n : Nat} {x' : Value} {old' vs' : List Value} {ty : TypeId}
    (hu : T.und t = some (.slice e)) (hd : T.und xt = some d) (hni : isInt d = false) (hi : T.info e = some i) (hz : i.zero = some z) (hb : i.bytes ≠ 0)
    (h1 : (Builtin.lenOf x').run P w = .ok n w) (h2 : ∀ w1 : World, w1.heap = w.heap → (Builtin.firstCells i.size n x').run P w1 = .ok vs'.toArray w1) (hc : ¬ l + n ≤ c) (hby : (l + n) * i.bytes ≤ 140737488355328)
    (ho : ∀ w1 : World, w1.heap = w.heap → (Builtin.firstCells i.size l (.slice base l c)).run P w1 = .ok old'.toArray w1) :
    ∃ c' : Nat, l + n ≤ c' ∧ c' < grow ∧ (Builtin.append_ #[t, xt] ty #[.slice base l c, x']).run P w =
      .ok (.slice (some ⟨w.heap.size, 0, none⟩) (l + n) c') { w with drawn := w.drawn + 1, heap := w.heap.push (.cells (old'.toArray ++ vs'.toArray ++ Builtin.zeroCells z.cells (c' - (l + n))) e) } := by
  have hfit := growslice_fits (Nat.lt_of_not_le hc) hby
  have hlt : l + n < grow := by
    have := Nat.le_mul_of_pos_right (l + n) (Nat.pos_of_ne_zero hb)
    unfold grow; omega
  refine ⟨(Question.appendCap (l + n) c e).cut (w.tape w.drawn (.appendCap (l + n) c e)), ?_, ?_, ?_⟩
  · simp [Question.cut]
  · simp only [Question.cut]
    have := Nat.mod_lt (w.tape w.drawn (.appendCap (l + n) c e)) (show 0 < 2 ^ 63 - (l + n) by unfold grow at hlt; omega)
    unfold grow at *
    omega
  · have a1 := h2 w.drew rfl
    have a2 := ho w.drew rfl
    have a3 : ∀ w1 : World, (zeroValue e).run P w1 = .ok z w1 := fun w1 => run_zero hT hi hz
    have a4 : ∀ w1 : World, (typeInfo e).run P w1 = .ok i w1 := fun w1 => run_info hT hi
    have hfit' : ¬ (281474976710656 < Builtin.nextslicecap (l + n) c * i.bytes) := by omega
    have hm : Builtin.append_.match_1 (fun _ => Bool) d (fun _ => true) (fun _ => false) = false := by cases d <;> first | rfl | simp [isInt] at hni
    simp [hm, Builtin.append_, run_und hT hu, run_und hT hd, run_size hT hi, h1, hc, hb, a4, hfit', Question.forced, a1, a2, a3, newRow]
    exact congrArg (fun a => ({ w with drawn := w.drawn + 1, heap := w.heap.push (.cells a e) } : World)) (by rw [← Array.append_assoc]; simp)

theorem zeroCells_size (z : Array Value) (n : Nat) : (Builtin.zeroCells z n).size = n * z.size := by simp [Builtin.zeroCells]

/-- What append makes anew, in the abstract heap and in the world. -/
theorem moved {cs cs' : List Value} {z : Value} {n c' gs : Nat} {e : TypeId} {par : List Nat} (hR : Rel G μ H w) (hv : LRel μ cs cs') (h1 : cs.all one = true) (hl : cs.length = n * gs) (hz : z.cells.size = gs) (hn : n ≤ c') (hc : c' < grow)
    (hpar : ∀ j ∈ par, (∃ q, μ j = some q) ∧ ∀ oj, H.get j = some oj → oj.alive = false) (hgrow : grow + n < empt) :
    ∃ μ', VRel μ' (.slice (some ⟨H.next, 0, none⟩) n (grow + n)) (.slice (some ⟨w.heap.size, 0, none⟩) n c') ∧
      Rel G μ' (H.new (.cells cs false par gs)) { w with drawn := w.drawn + 1, heap := w.heap.push (.cells (cs'.toArray ++ Builtin.zeroCells z.cells (c' - n)) e) } ∧
      TnB μ H w μ' (H.new (.cells cs false par gs)) { w with drawn := w.drawn + 1, heap := w.heap.push (.cells (cs'.toArray ++ Builtin.zeroCells z.cells (c' - n)) e) } := by
  have hsz : (cs'.toArray ++ Builtin.zeroCells z.cells (c' - n)).size = c' * gs := by
    simp [zeroCells_size, ← hv.1, hl, hz, ← Nat.add_mul]
    congr 1
    omega
  have hle : n * gs ≤ c' * gs := Nat.mul_le_mul_right _ hn
  have ho : ObjRel μ (.cells cs false par gs) (.cells (cs'.toArray ++ Builtin.zeroCells z.cells (c' - n)) e (0, 0)) ⟨w.heap.size, 0, c' * gs, gs⟩ := by
    refine .cells hsz.symm rfl (by rw [hsz]; simp; omega) (fun i hi => ?_) (fun x hx => List.all_eq_true.1 h1 x hx) (fun _ j _ _ => by simp) (fun _ => ⟨rfl, rfl⟩)
    have := hv.2 i hi
    have e2 : (cs'.toArray ++ Builtin.zeroCells z.cells (c' - n)).getD (0 + i) undef = cs'.getD i undef := by
      simp [Array.getD_eq_getD_getElem?, List.getD_eq_getElem?_getD, Array.getElem?_append, show i < cs'.length by rw [← hv.1]; exact hi]
    rw [e2]
    exact this
  obtain ⟨k1, k2⟩ := hR.push (w' := { w with drawn := w.drawn + 1, heap := w.heap.push (.cells (cs'.toArray ++ Builtin.zeroCells z.cells (c' - n)) e) }) ho hpar rfl rfl rfl rfl rfl
  refine ⟨_, ?_, k1, k2⟩
  have := VRel.slice (μ := μ.upd H.next ⟨w.heap.size, 0, c' * gs, gs⟩) (o := 0) (l := n) (c := grow + n) (c' := c') (Mu.upd_same H.next _)
    ⟨hn, hc, .inr ⟨by omega, hgrow, by omega, by simp⟩⟩
  simpa using this

theorem aAppend_ok (hT : TbOK P T) (hR : Rel G μ H w) {t xt ty : TypeId} {s s' x x' : Value} {r : Value × AHeap} (hs : VRel μ s s') (hx : VRel μ x x') (h : aAppend T t xt s x H = some r) :
    Snd P G μ H w (Builtin.append_ #[t, xt] ty #[s', x']) r := by
  unfold aAppend at h
  split at h
  · rename_i e d hu hd
    split at h
    · cases h
    · rename_i hni
      have hni : isInt d = false := by simpa using hni
      split at h
      · rename_i i z hi hz
        have hzz : i.zero = some z := by simpa [zeroT, hi] using hz
        obtain ⟨f1, f2, f3⟩ := hT.zero e i z hi hzz
        split at h
        · cases h
        · rename_i hnz
          split at h
          · rename_i n vs hsrc
            obtain ⟨vs', v1, v2, v3, v4, v5⟩ := src_ok (P := P) hR hx hsrc
            split at h
            · cases hs
              split at h
              · rename_i hn
                injection h with h
                subst h
                subst hn
                have := append_stays (P := P) (w := w) (T := T) hT (base := none) (l := 0) (c := 0) (ty := ty) hu hd hni hi v4 (v5 w rfl) (by omega) (w' := w) rfl
                exact Snd.same hR this .sliceNil
              · split at h
                · rename_i hn hby
                  obtain ⟨q, hq, rfl⟩ := Option.map_eq_some_iff.1 h
                  unfold aNew at hq
                  rw [if_pos v3] at hq
                  injection hq with hq
                  subst hq
                  have hgn : grow + (0 + n) < empt := by
                    have := Nat.le_mul_of_pos_right n (Nat.pos_of_ne_zero (fun e => hnz (.inr e)))
                    unfold grow empt; omega
                  obtain ⟨c', c1, c2, c3⟩ := append_moves (P := P) (w := w) (T := T) (base := none) (l := 0) (c := 0) (old' := []) (ty := ty) hT hu hd hni hi hzz (fun e => hnz (.inr e)) v4 v5 (by omega) (by simpa using hby)
                    (fun w1 _ => by simp [Builtin.firstCells])
                  obtain ⟨μ', m1, m2, m3⟩ := moved (e := e) (n := 0 + n) (par := []) hR v1 v3 (by simpa using v2) f2 c1 c2 (fun j hj => by cases hj) hgn
                  refine ⟨_, _, μ', c3, ?_, ?_, ?_⟩
                  · simpa using m1
                  · simpa using m2
                  · exact ⟨by simpa using m3, TnP.new hR rfl, TnK.new hR⟩
                · cases h
            · rename_i a l c
              split at h
              · rename_i hn
                injection h with h
                subst h
                subst hn
                have h0 : vs' = [] := List.length_eq_zero_iff.1 (by rw [← v1.1, v2]; simp)
                subst h0
                cases hs with
                | @slice i0 o _ _ c' p hp hcap =>
                  have := append_stays (P := P) (w := w) (T := T) hT (base := some ⟨p.b, p.s + o, none⟩) (l := l) (c := c') (ty := ty) hu hd hni hi v4 (v5 w rfl) (by have := hcap.1; omega) (w' := w) rfl
                  exact Snd.same hR this (VRel.slice hp hcap)
                | @empty _ a' c' hc =>
                  have := append_stays (P := P) (w := w) (T := T) hT (base := some a') (l := 0) (c := c') (ty := ty) hu hd hni hi v4 (v5 w rfl) (by omega) (w' := w) rfl
                  exact Snd.same hR this (VRel.empty hc)
              · rename_i hn
                split at h
                · rename_i hc
                  cases hs with
                  | empty hc' => exact absurd hc (by decide)
                  | @slice i0 o _ _ c' p hp hcap =>
                    have hcc : c' = c := by rcases hcap.2.2 with h | h <;> (unfold grow at *; omega)
                    subst hcc
                    split at h
                    · rename_i hln
                      obtain ⟨H', hH, rfl⟩ := Option.map_eq_some_iff.1 h
                      obtain ⟨w', q1, q2, q3, _⟩ := store_cells (P := P) hR hp v1 hH
                      have := append_stays (P := P) (w := w) (T := T) hT (base := some ⟨p.b, p.s + o, none⟩) (l := l) (c := c') (ty := ty) hu hd hni hi v4 (v5 w rfl) hln (w' := w') (by
                        simp only [add_spot]; rw [Nat.add_assoc]; exact q1)
                      exact ⟨_, w', μ, this, VRel.slice hp ⟨hln, hcap.2.1, hcap.2.2⟩, q2, q3⟩
                    · rename_i hln
                      split at h
                      · rename_i hby
                        obtain ⟨old, ho, h⟩ := Option.bind_eq_some_iff.1 h
                        obtain ⟨q, hq, rfl⟩ := Option.map_eq_some_iff.1 h
                        obtain ⟨old', o1, o2, o3, o4, o5⟩ := load_cells (P := P) hR hp ho
                        unfold aNew at hq
                        have hall : (old ++ vs).all one = true := by simp only [List.all_append, Bool.and_eq_true]; exact ⟨List.all_eq_true.2 o3, v3⟩
                        rw [if_pos hall] at hq
                        injection hq with hq
                        subst hq
                        have hgn : grow + (l + n) < empt := by
                          have := Nat.le_mul_of_pos_right (l + n) (Nat.pos_of_ne_zero (fun e => hnz (.inr e)))
                          unfold grow empt; omega
                        obtain ⟨c2, c1, c2', c3⟩ := append_moves (P := P) (w := w) (T := T) (base := some ⟨p.b, p.s + o, none⟩) (l := l) (c := c') (old' := old') (ty := ty) hT hu hd hni hi hzz (fun e => hnz (.inr e)) v4 v5 hln hby
                          (fun w1 e1 => by simp [Builtin.firstCells, o5 w1 e1])
                        obtain ⟨μ', m1, m2, m3⟩ := moved (e := e) (n := l + n) (par := []) hR (o1.append v1) hall (by simp [o2, v2, Nat.add_mul]) f2 c1 c2' (fun j hj => by cases hj) hgn
                        refine ⟨_, _, μ', c3, m1, ?_, ?_⟩
                        · simpa using m2
                        · exact ⟨by simpa using m3, by simpa using TnP.new hR rfl, by simpa using TnK.new hR⟩
                      · cases h
                · rename_i hc
                  split at h
                  · rename_i hce
                    cases hs with
                    | empty hc' => exact absurd hce (by decide)
                    | @slice i0 o _ _ c' p hp hcap =>
                      have hk : c - grow ≤ c' ∧ p.s + o + c' * p.es ≤ p.sz := by rcases hcap.2.2 with h | h <;> (unfold grow empt at *; omega)
                      split at h
                      · rename_i hln
                        obtain ⟨H', hH, rfl⟩ := Option.map_eq_some_iff.1 h
                        obtain ⟨w', q1, q2, q3, _⟩ := store_cells (P := P) hR hp v1 hH
                        have := append_stays (P := P) (w := w) (T := T) hT (base := some ⟨p.b, p.s + o, none⟩) (l := l) (c := c') (ty := ty) hu hd hni hi v4 (v5 w rfl) (by omega) (w' := w') (by
                          simp only [add_spot]; rw [Nat.add_assoc]; exact q1)
                        exact ⟨_, w', μ, this, VRel.slice hp ⟨by omega, hcap.2.1, hcap.2.2⟩, q2, q3⟩
                      · rename_i hln
                        split at h
                        · rename_i cs par gs hg
                          split at h
                          · rename_i hq
                            obtain ⟨q1, q2, q3, hby⟩ := hq
                            injection h with h
                            subst h
                            simp only at hg q3
                            subst q1
                            have hgn : grow + (l + n) < empt := by
                              have := Nat.le_mul_of_pos_right (l + n) (Nat.pos_of_ne_zero (fun e => hnz (.inr e)))
                              unfold grow empt; omega
                            have hes : p.es = i.size := by obtain ⟨_, _, _, _, _, _, h3, _⟩ := hR.cells hg hp; exact h3
                            have hdl : (cs.drop o).length = l * i.size := by simp; omega
                            have hld : loadN H ⟨i0, o, none⟩ (l * i.size) = some (cs.drop o) := by
                              unfold loadN
                              simp only [hg]
                              rw [if_pos (by omega), ← hdl, List.take_length]
                            by_cases hroom : l + n ≤ c'
                            · obtain ⟨w', g1, g2, g3⟩ := Rel.grown (P := P) (m := 0) (o := o) hR hg hp (by omega) v1 v3 (by
                                have : (l + n) * i.size ≤ c' * i.size := Nat.mul_le_mul_right _ hroom
                                rw [Nat.add_mul] at this
                                rw [hes] at hk
                                omega)
                              have := append_stays (P := P) (w := w) (T := T) hT (base := some ⟨p.b, p.s + o, none⟩) (l := l) (c := c') (ty := ty) hu hd hni hi v4 (v5 w rfl) hroom (w' := w') (by
                                simp only [add_spot]; rw [Nat.add_assoc, q3]; exact g1)
                              refine ⟨_, w', _, this, ?_, g2, g3⟩
                              have hv := VRel.slice (μ := μ.upd H.next ⟨p.b, p.s + o, p.sz, i.size⟩) (o := 0) (l := l + n) (c := grow + (l + n)) (c' := c') (Mu.upd_same H.next _)
                                ⟨hroom, hcap.2.1, .inr ⟨by omega, hgn, by omega, by rw [hes] at hk; simpa using hk.2⟩⟩
                              simpa using hv
                            · obtain ⟨old', o1, o2, o3, o4, o5⟩ := load_cells (P := P) hR hp hld
                              have hall : (cs.drop o ++ vs).all one = true := by simp only [List.all_append, Bool.and_eq_true]; exact ⟨List.all_eq_true.2 o3, v3⟩
                              obtain ⟨c2, c1, c2', c3⟩ := append_moves (P := P) (w := w) (T := T) (base := some ⟨p.b, p.s + o, none⟩) (l := l) (c := c') (old' := old') (ty := ty) hT hu hd hni hi hzz (fun e => hnz (.inr e)) v4 v5 hroom hby
                                (fun w1 e1 => by simp [Builtin.firstCells, o5 w1 e1])
                              obtain ⟨s1, s2⟩ := hR.shut hg
                              obtain ⟨μ', m1, m2, m3⟩ := moved (e := e) (n := l + n) (par := i0 :: par) s1 (o1.append v1) hall (by simp only [List.length_append]; rw [hdl, v2, Nat.add_mul]) f2 c1 c2' (fun j hj => by
                                simp only [List.mem_cons] at hj
                                refine ⟨?_, fun oj hoj => ?_⟩
                                · rcases hj with rfl | hj
                                  · exact ⟨p, hp⟩
                                  · exact hR.plt i0 _ j hg hj
                                · rw [AHeap.get_set _ _ _ _ (AHeap.get_lt hg)] at hoj
                                  split at hoj
                                  · injection hoj with hoj; subst hoj; rfl
                                  · rename_i hji
                                    rcases hj with rfl | hj
                                    · exact absurd rfl hji
                                    · exact hR.ro j i0 oj _ hoj hg hj) hgn
                              refine ⟨_, _, μ', c3, m1, ?_, ?_⟩
                              · simpa using m2
                              · refine ⟨by simpa using s2.toTnB.trans m3, fun j oj k hgj hm _ => ?_, fun j oj hgj hd => ?_⟩
                                rotate_left
                                · rcases s2.kept j oj hgj hd with h | h
                                  · exact .inl h
                                  · rcases TnK.new s1 j oj h hd with ⟨k, ok, k1, k2, k3⟩ | h
                                    · right
                                      rw [AHeap.get_new, if_neg]
                                      · exact h
                                      · have := AHeap.get_lt h; exact Nat.ne_of_lt this
                                    · exact .inr h
                                rw [AHeap.get_new] at hgj
                                split at hgj
                                · injection hgj with hgj
                                  subst hgj
                                  simp only [AObj.par, List.mem_cons] at hm
                                  rcases hm with rfl | hm
                                  · exact .inl ⟨_, hg, rfl⟩
                                  · exact .inr (.inl ⟨i0, _, hg, rfl, hm⟩)
                                · rw [AHeap.get_set _ _ _ _ (AHeap.get_lt hg)] at hgj
                                  split at hgj
                                  · rename_i e
                                    subst e
                                    injection hgj with hgj
                                    subst hgj
                                    exact .inr (.inr ⟨_, hg, hm⟩)
                                  · exact .inr (.inr ⟨oj, hgj, hm⟩)
                          · cases h
                        · cases h
                  · cases h
            · cases h
          · cases h
      · cases h
  · cases h

end
end Go.Eng
