/- The engine, part 2: reading, writing and making memory, in the abstract heap and in the world. -/
import Derived.Test.YtkjclebafpomhaaDoorEngA
import Derived.Laws.IdiomCopy
import Derived.Laws.Append
import Derived.Laws.Entries
import Derived.ChangeKeysEq
set_option linter.unusedVariables false
set_option linter.unusedSimpArgs false
namespace Go.Eng
open Go
variable {P : Program} {G : Nat} {μ : Mu} {H : AHeap} {w : World}

theorem add_spot (b o n : Nat) : (⟨b, o, none⟩ : Addr).add n = ⟨b, o + n, none⟩ := by
  unfold Addr.add; split <;> simp_all

theorem cell_get {b : Nat} {c : Array Value} {e : TypeId} {fr : Nat × Nat} (h : w.heap[b]? = some (.cells c e fr)) (o : Nat) : w.cell? ⟨b, o, none⟩ = c[o]? := by
  simp [World.cell?, h]
theorem getD_some {c : Array Value} {i : Nat} (h : i < c.size) : c[i]? = some (c.getD i undef) := by simp [Array.getD, h]
theorem lgetD_some {c : List Value} {i : Nat} (h : i < c.length) : c[i]? = some (c.getD i undef) := by simp [h, List.getD]
theorem VRel.one {v v' : Value} (h : VRel μ v v') : one v = true → Value.oneCell' v' = true := by cases h <;> first | (intro _; rfl) | (intro h; cases h)

/-! ### The world's parts that don't matter -/
theorem Rel.world {w' : World} (h : Rel G μ H w) (e : w'.heap = w.heap) : Rel G μ H w' :=
  ⟨fun i o hi => by rw [e]; exact h.dom i o hi, h.fin, h.base, h.glob, h.sep, h.ro, h.plt, h.pend⟩
theorem Tn.world {w' : World} (hR : Rel G μ H w) (h1 : w'.os = w.os) (h2 : w'.tape = w.tape) (h3 : w'.output = w.output) (e : w'.heap = w.heap) : Tn μ H w μ H w' :=
  { Tn.refl hR with ext := ⟨h1, h2, h3, by rw [e]; exact Nat.le_refl _, fun k _ _ => by rw [e]⟩ }

/-! ### Reading -/
def loadN (H : AHeap) (a : Addr) (n : Nat) : Option (List Value) :=
  match H.get a.block with
  | some (.cells cs _ _ _) => if a.off + n ≤ cs.length then some ((cs.drop a.off).take n) else none
  | _ => none

/-- A list of values, related place by place. -/
def LRel (μ : Mu) (l l' : List Value) : Prop := l.length = l'.length ∧ ∀ i, i < l.length → VRel μ (l.getD i undef) (l'.getD i undef)
theorem LRel.mono {μ' : Mu} (h : μ.le μ') {l l' : List Value} (hv : LRel μ l l') : LRel μ' l l' := ⟨hv.1, fun i hi => (hv.2 i hi).mono h⟩
theorem LRel.arr {l l' : List Value} (h : LRel μ l l') : ARel μ l.toArray l'.toArray :=
  ⟨by simpa using h.1, fun i hi => by have := h.2 i (by simpa using hi); simpa [Array.getD_eq_getD_getElem?, List.getD_eq_getElem?_getD] using this⟩
theorem LRel.arr' {l l' : List Value} (h : LRel μ l l') : ∀ i, i < l.length → VRel μ (l.getD i undef) (l'.toArray.getD i undef) := fun i hi => by
  have := h.2 i hi; simpa [Array.getD_eq_getD_getElem?, List.getD_eq_getElem?_getD] using this
theorem ARel.list {l l' : Array Value} (h : ARel μ l l') : LRel μ l.toList l'.toList :=
  ⟨by simpa using h.1, fun i hi => by have := h.2 i (by simpa using hi); simpa [Array.getD_eq_getD_getElem?, List.getD_eq_getElem?_getD] using this⟩
theorem LRel.nil : LRel μ [] [] := ⟨rfl, fun i hi => by simp at hi⟩
theorem LRel.cons {v v' : Value} {l l' : List Value} (h : VRel μ v v') (k : LRel μ l l') : LRel μ (v :: l) (v' :: l') :=
  ⟨by simp [k.1], fun i hi => by cases i with | zero => exact h | succ i => exact k.2 i (by simpa using hi)⟩
theorem LRel.append {l l' m m' : List Value} (h : LRel μ l l') (k : LRel μ m m') : LRel μ (l ++ m) (l' ++ m') :=
  ⟨by simp [h.1, k.1], fun i hi => by
    by_cases e : i < l.length
    · have := h.2 i e
      simpa [List.getD_eq_getElem?_getD, List.getElem?_append_left e, List.getElem?_append_left (h.1 ▸ e)] using this
    · have := k.2 (i - l.length) (by simp at hi; omega)
      have e' : ¬ i < l'.length := h.1 ▸ e
      simpa [List.getD_eq_getElem?_getD, List.getElem?_append_right (Nat.le_of_not_lt e), List.getElem?_append_right (Nat.le_of_not_lt e'), h.1] using this⟩
theorem LRel.take {l l' : List Value} (h : LRel μ l l') (n : Nat) : LRel μ (l.take n) (l'.take n) :=
  ⟨by simp [h.1], fun i hi => by
    have hi' : i < n ∧ i < l.length := by simp at hi; omega
    have := h.2 i hi'.2
    simpa [List.getD_eq_getElem?_getD, List.getElem?_take_of_lt hi'.1] using this⟩
theorem LRel.drop {l l' : List Value} (h : LRel μ l l') (n : Nat) : LRel μ (l.drop n) (l'.drop n) :=
  ⟨by simp [h.1], fun i hi => by
    have := h.2 (n + i) (by simp at hi; omega)
    simpa [List.getD_eq_getElem?_getD] using this⟩
theorem LRel.one {l l' : List Value} (h : LRel μ l l') (h1 : l.all one = true) : ∀ x ∈ l', Value.oneCell' x = true := by
  intro x hx
  obtain ⟨i, hi, rfl⟩ := List.getElem_of_mem hx
  have hr := h.2 i (h.1 ▸ hi)
  have e1 : l'.getD i undef = l'[i] := by simp [List.getD_eq_getElem?_getD, hi]
  have e2 : l.getD i undef = l[i]'(h.1 ▸ hi) := by simp [List.getD_eq_getElem?_getD, h.1 ▸ hi]
  rw [← e1]
  exact hr.one (by rw [e2]; exact List.all_eq_true.1 h1 _ (List.getElem_mem _))
theorem LRel.flat {l : List Value} (h : l.all (flat 0) = true) : LRel μ l l := ⟨rfl, fun i hi => flat_rel 0 _ (by
  have e2 : l.getD i undef = l[i] := by simp [List.getD_eq_getElem?_getD, hi]
  rw [e2]; exact List.all_eq_true.1 h _ (List.getElem_mem _))⟩

theorem LRel.flat_eq {l l' : List Value} (hl : LRel μ l l') (h : l.all (Eng.flat 0) = true) : l' = l := by
  apply List.ext_getElem hl.1.symm
  intro i h1 h2
  have := hl.2 i h2
  have e1 : l'.getD i undef = l'[i] := by simp [List.getD_eq_getElem?_getD, h1]
  have e2 : l.getD i undef = l[i] := by simp [List.getD_eq_getElem?_getD, h2]
  rw [e1, e2] at this
  exact Eng.flat_eq this 0 (List.all_eq_true.1 h _ (List.getElem_mem _))

theorem ptr_inv {a : Addr} {v' : Value} (hv : VRel μ (.pointer (some a)) v') : ∃ i o p, a = ⟨i, o, none⟩ ∧ μ i = some p ∧ v' = .pointer (some ⟨p.b, p.s + o, none⟩) := by
  cases hv with
  | ptr e => exact ⟨_, _, _, rfl, e, rfl⟩

theorem Rel.cells {i : Nat} {cs : List Value} {ro : Bool} {par : List Nat} {gs : Nat} {p : Pl} (h : Rel G μ H w) (hi : H.get i = some (.cells cs ro par gs)) (hp : μ i = some p) :
    ∃ c e lo hi, w.heap[p.b]? = some (.cells c e (lo, hi)) ∧ p.sz = c.size ∧ p.es = gs ∧ p.s + cs.length ≤ c.size ∧ (∀ j, j < cs.length → VRel μ (cs.getD j undef) (c.getD (p.s + j) undef)) ∧
      (∀ x ∈ cs, one x = true) ∧ (ro = false → ∀ j, p.s ≤ j → j < c.size → ¬ (lo ≤ j ∧ j < hi)) ∧ (gs = 0 → lo = 0 ∧ hi = 0) := by
  obtain ⟨q, x, hq, hx, ho⟩ := h.dom _ _ hi
  rw [hp] at hq
  injection hq with hq
  subst hq
  cases ho with
  | cells a1 a2 a3 a4 a5 a6 a7 => exact ⟨_, _, _, _, hx, a1, a2, a3, a4, a5, a6, a7⟩

/-- What a run of cells reads as. -/
theorem load_cells {i o n : Nat} {p : Pl} {vs : List Value} (h : Rel G μ H w) (hp : μ i = some p) (hl : loadN H ⟨i, o, none⟩ n = some vs) :
    ∃ vs', LRel μ vs vs' ∧ vs.length = n ∧ (∀ x ∈ vs, one x = true) ∧ (∀ j v, vs'[j]? = some v → w.cell? ((⟨p.b, p.s + o, none⟩ : Addr).add j) = some v) ∧
      (∀ w1 : World, w1.heap = w.heap → (loadCells ⟨p.b, p.s + o, none⟩ n).run P w1 = .ok vs'.toArray w1) := by
  unfold loadN at hl
  split at hl
  · rename_i cs ro par gs hg
    simp only at hg hl
    split at hl
    · rename_i hle
      injection hl with hl
      subst hl
      obtain ⟨c, e, lo, hi, hb, h1, h2, h3, h4, h5, h6, h7⟩ := h.cells hg hp
      let vs' := (c.toList.drop (p.s + o)).take n
      have hlen : vs'.length = n := by simp [vs']; omega
      have hat : ∀ j, j < n → vs'[j]? = some (c.getD (p.s + o + j) undef) := by
        intro j hj
        have hc : p.s + o + j < c.size := by omega
        simp [vs', List.getElem?_take_of_lt hj, hc, Array.getD]
      have hrd : ∀ j v, vs'[j]? = some v → w.cell? ((⟨p.b, p.s + o, none⟩ : Addr).add j) = some v := by
        intro j v hv
        have hj : j < n := by
          rcases Nat.lt_or_ge j n with hj | hj
          · exact hj
          · rw [List.getElem?_eq_none (by omega)] at hv; cases hv
        rw [hat j hj] at hv
        injection hv with hv
        rw [add_spot, cell_get hb, getD_some (by omega), hv]
      refine ⟨vs', ⟨by simp [hlen]; omega, fun j hj => ?_⟩, by simp; omega, fun x hx => h5 x (List.mem_of_mem_drop (List.mem_of_mem_take hx)), hrd, ?_⟩
      · have hjn : j < n := by simp at hj; omega
        have e1 : ((cs.drop o).take n).getD j undef = cs.getD (o + j) undef := by simp [List.getD_eq_getElem?_getD, List.getElem?_take_of_lt hjn]
        have e2 : vs'.getD j undef = c.getD (p.s + (o + j)) undef := by rw [List.getD_eq_getElem?_getD, hat j hjn, Nat.add_assoc]; rfl
        rw [e1, e2]
        exact h4 _ (by omega)
      · intro w1 e1
        have := run_loadCells_list (P := P) w1 ⟨p.b, p.s + o, none⟩ vs' (fun j v hv => by
          have := hrd j v hv
          simpa [World.cell?, e1] using this)
        rwa [hlen] at this
    · cases hl
  · cases hl

/-! ### Writing -/
def splice (cs : List Value) (o : Nat) (vs : List Value) : List Value := cs.take o ++ vs ++ cs.drop (o + vs.length)
def storeN (H : AHeap) (a : Addr) (vs : List Value) : Option AHeap :=
  match H.get a.block with
  | some (.cells cs ro par gs) => if !ro && (a.off + vs.length ≤ cs.length) && vs.all one then some ((H.dels par).set a.block (.cells (splice cs a.off vs) false [] gs)) else none
  | _ => none

theorem splice_length {cs : List Value} {o : Nat} {vs : List Value} (h : o + vs.length ≤ cs.length) : (splice cs o vs).length = cs.length := by
  simp [splice]; omega
theorem splice_getD {cs : List Value} {o : Nat} {vs : List Value} (h : o + vs.length ≤ cs.length) (j : Nat) :
    (splice cs o vs).getD j undef = if o ≤ j ∧ j < o + vs.length then vs.getD (j - o) undef else cs.getD j undef := by
  unfold splice
  simp only [List.getD_eq_getElem?_getD, List.append_assoc, List.getElem?_append, List.length_take]
  by_cases h1 : j < o
  · rw [if_pos (by omega), if_neg (by omega), List.getElem?_take_of_lt h1]
  · rw [if_neg (by omega)]
    rw [show min o cs.length = o by omega]
    by_cases h2 : j < o + vs.length
    · rw [if_pos (by omega), if_pos (by omega)]
    · rw [if_neg (by omega), if_neg (by omega), List.getElem?_drop]
      congr 2
      omega

theorem setCells_heap (b : Nat) : ∀ (vs : List Value) (o : Nat) (w : World) (c : Array Value) (e : TypeId) (fr : Nat × Nat), w.heap[b]? = some (.cells c e fr) → o + vs.length ≤ c.size →
    ∃ c', c'.size = c.size ∧ (∀ j, c'.getD j undef = if o ≤ j ∧ j < o + vs.length then vs.getD (j - o) undef else c.getD j undef) ∧
      (w.setCells b o vs).heap[b]? = some (.cells c' e fr) ∧ (∀ k, k ≠ b → (w.setCells b o vs).heap[k]? = w.heap[k]?) ∧ (w.setCells b o vs).heap.size = w.heap.size ∧
      (w.setCells b o vs).os = w.os ∧ (w.setCells b o vs).tape = w.tape ∧ (w.setCells b o vs).output = w.output := by
  intro vs
  induction vs with
  | nil => intro o w c e fr h _; exact ⟨c, rfl, fun j => by rw [if_neg (by simp only [List.length_nil]; omega)], h, fun _ _ => rfl, rfl, rfl, rfl, rfl⟩
  | cons v vs ih =>
    intro o w c e fr h hl
    simp only [List.length_cons] at hl
    have hb : (w.setCell ⟨b, o, none⟩ v).heap[b]? = some (.cells (c.setIfInBounds o v) e fr) := by
      simp [World.setCell, Array.getElem?_modify, h]
    obtain ⟨c', h1, h2, h3, h4, h5, h6, h7, h8⟩ := ih (o + 1) (w.setCell ⟨b, o, none⟩ v) _ e fr hb (by simp; omega)
    refine ⟨c', by simpa using h1, fun j => ?_, h3, fun k hk => ?_, ?_, h6, h7, h8⟩
    · rw [h2 j]
      simp only [List.length_cons]
      by_cases e1 : j = o
      · subst e1
        rw [if_neg (by omega), if_pos (by omega)]
        simp [Array.getD_eq_getD_getElem?, show j < c.size by omega]
      · by_cases e2 : o + 1 ≤ j ∧ j < o + 1 + vs.length
        · rw [if_pos e2, if_pos (by omega)]
          rw [show j - o = (j - (o + 1)) + 1 by omega]
          simp
        · rw [if_neg e2, if_neg (by omega)]
          simp [Array.getD_eq_getD_getElem?, Array.getElem?_setIfInBounds_ne (Ne.symm e1)]
    · show ((w.setCell ⟨b, o, none⟩ v).setCells b (o + 1) vs).heap[k]? = _
      rw [h4 k hk]
      simp [World.setCell, Array.getElem?_modify, Ne.symm hk]
    · show ((w.setCell ⟨b, o, none⟩ v).setCells b (o + 1) vs).heap.size = _
      rw [h5]
      simp [World.setCell]

/-- A block that is written: nobody else's name lies on it. -/
theorem Rel.upd {i : Nat} {o o' : AObj} {p : Pl} {x' : Obj} {w' : World} (h : Rel G μ H w) (hi : H.get i = some o) (ha : o.alive = true) (hp : μ i = some p) (hx : ObjRel μ o' x' p) (hpar : o'.par = [])
    (hb : w'.heap[p.b]? = some x') (hk : ∀ k, k ≠ p.b → w'.heap[k]? = w.heap[k]?) (hsz : w'.heap.size = w.heap.size) (h1 : w'.os = w.os) (h2 : w'.tape = w.tape) (h3 : w'.output = w.output) :
    Rel G μ ((H.dels o.par).set i o') w' ∧ Tn μ H w μ ((H.dels o.par).set i o') w' := by
  have apart : ∀ j oj pj, j ≠ i → j ∉ o.par → H.get j = some oj → μ j = some pj → pj.b ≠ p.b := by
    intro j oj pj hj hnp hgj hpj e
    rcases h.sep j i oj o pj p hj hgj hi hpj hp e with hh | hh
    · exact hnp hh
    · have := h.ro i j o oj hi hgj hh
      rw [ha] at this
      cases this
  have get' : ∀ j oj, ((H.dels o.par).set i o').get j = some oj → (j = i ∧ oj = o') ∨ (j ≠ i ∧ j ∉ o.par ∧ H.get j = some oj) := by
    intro j oj hg
    rw [AHeap.get_set _ _ _ _ (by simpa using h.lt hi)] at hg
    split at hg
    · rename_i e; injection hg with hg; exact .inl ⟨e, hg.symm⟩
    · rename_i e
      rw [AHeap.get_dels] at hg
      split at hg
      · cases hg
      · rename_i e2; exact .inr ⟨e, e2, hg⟩
  refine ⟨⟨?_, fun j pj hj => by simpa using h.fin j pj hj, by simpa using h.base, h.glob, ?_, ?_, ?_, ?_⟩, ⟨fun _ _ k => h.lt k, Mu.le_refl _, fun _ _ => rfl, by simp, ⟨h1, h2, h3, by rw [hsz]; exact Nat.le_refl _, ?_⟩, ?_, ?_, ?_⟩, ?_, ?_⟩
  · intro j oj hg
    rcases get' j oj hg with ⟨rfl, rfl⟩ | ⟨e1, e2, e3⟩
    · exact ⟨p, x', hp, hb, hx⟩
    · obtain ⟨pj, xj, hpj, hxj, hoj⟩ := h.dom j oj e3
      exact ⟨pj, xj, hpj, by rw [hk _ (apart j oj pj e1 e2 e3 hpj)]; exact hxj, hoj⟩
  · intro j k oj ok pj pk hjk hgj hgk hpj hpk e
    rcases get' j oj hgj with ⟨rfl, rfl⟩ | ⟨a1, a2, a3⟩
    · rcases get' k ok hgk with ⟨rfl, rfl⟩ | ⟨b1, b2, b3⟩
      · exact absurd rfl hjk
      · rw [hp] at hpj
        injection hpj with hpj
        subst hpj
        exact absurd e.symm (apart k ok pk b1 b2 b3 hpk)
    · rcases get' k ok hgk with ⟨rfl, rfl⟩ | ⟨b1, b2, b3⟩
      · rw [hp] at hpk
        injection hpk with hpk
        subst hpk
        exact absurd e (apart j oj pj a1 a2 a3 hpj)
      · exact h.sep j k oj ok pj pk hjk a3 b3 hpj hpk e
  · intro j k oj ok hgj hgk hm
    rcases get' k ok hgk with ⟨rfl, rfl⟩ | ⟨b1, b2, b3⟩
    · rw [hpar] at hm; cases hm
    · rcases get' j oj hgj with ⟨rfl, rfl⟩ | ⟨a1, a2, a3⟩
      · have := h.ro j k o ok hi b3 hm
        rw [ha] at this
        cases this
      · exact h.ro j k oj ok a3 b3 hm
  · intro j oj k hgj hm
    rcases get' j oj hgj with ⟨rfl, rfl⟩ | ⟨a1, a2, a3⟩
    · rw [hpar] at hm; cases hm
    · exact h.plt j oj k a3 hm
  · intro j k oj ok pj pk hgj hgk hm hpj hpk e
    rcases get' k ok hgk with ⟨rfl, rfl⟩ | ⟨b1, b2, b3⟩
    · rw [hpar] at hm; cases hm
    · rcases get' j oj hgj with ⟨rfl, rfl⟩ | ⟨a1, a2, a3⟩
      · have := h.ro j k o ok hi b3 hm
        rw [ha] at this
        cases this
      · exact h.pend j k oj ok pj pk a3 b3 hm hpj hpk e
  · intro k _ hn
    refine hk k fun e => hn ⟨i, o, p, hi, ha, hp, e.symm⟩
  · intro j oj pj hgj hpj hb
    rcases get' j oj hgj with ⟨rfl, rfl⟩ | ⟨a1, a2, a3⟩
    · rw [hp] at hpj
      injection hpj with hpj
      subst hpj
      exact .inl ⟨j, o, p, hi, ha, hp, rfl⟩
    · exact Img.of a3 hpj
  · intro j o0 o1 h0 hd h1
    rcases get' j o1 h1 with ⟨rfl, rfl⟩ | ⟨a1, a2, a3⟩
    · rw [hi] at h0
      injection h0 with h0
      subst h0
      rw [ha] at hd
      cases hd
    · rw [h0] at a3
      injection a3 with a3
      exact a3.symm
  · intro j oj _ hgj
    rcases get' j oj hgj with ⟨rfl, rfl⟩ | ⟨a1, a2, a3⟩
    · exact ⟨o, hi⟩
    · exact ⟨oj, a3⟩
  · intro j oj k hgj hm _
    rcases get' j oj hgj with ⟨rfl, rfl⟩ | ⟨a1, a2, a3⟩
    · rw [hpar] at hm; cases hm
    · exact .inr (.inr ⟨oj, a3, hm⟩)
  · intro j oj hgj hd
    by_cases e : j ∈ o.par
    · exact .inl ⟨i, o, hi, ha, e⟩
    · right
      have hji : j ≠ i := fun e => by subst e; rw [hi] at hgj; injection hgj with hgj; subst hgj; rw [ha] at hd; cases hd
      rw [AHeap.get_set _ _ _ _ (by simpa using h.lt hi), if_neg hji, AHeap.get_dels, if_neg e]
      exact hgj

theorem store_cells {i o : Nat} {p : Pl} {vs vs' : List Value} {H' : AHeap} (h : Rel G μ H w) (hp : μ i = some p) (hl : LRel μ vs vs') (hs : storeN H ⟨i, o, none⟩ vs = some H') :
    ∃ w', (storeCells ⟨p.b, p.s + o, none⟩ vs').run P w = .ok () w' ∧ Rel G μ H' w' ∧ Tn μ H w μ H' w' ∧ w'.heap.size = w.heap.size := by
  unfold storeN at hs
  split at hs
  · rename_i cs ro par gs hg
    simp only at hg hs
    split at hs
    · rename_i hc
      injection hs with hs
      subst hs
      simp only [Bool.and_eq_true, Bool.not_eq_true', decide_eq_true_eq] at hc
      obtain ⟨⟨hro, hle⟩, hone⟩ := hc
      obtain ⟨c, e, lo, hi, hb, h1, h2, h3, h4, h5, h6, h7⟩ := h.cells hg hp
      obtain ⟨c', k1, k2, k3, k4, k5, k6, k7, k8⟩ := setCells_heap p.b vs' (p.s + o) w c e (lo, hi) hb (by rw [← hl.1]; omega)
      have hfr : ∀ j, j < vs'.length → w.frozen? ⟨p.b, p.s + o + 0 + j, none⟩ = false := by
        intro j hj
        have := h6 hro (p.s + o + j) (by omega) (by rw [← hl.1] at hj; omega)
        simp [World.frozen?, hb]
        omega
      have hcl : ∀ j, j < vs'.length → (w.cell? ⟨p.b, p.s + o + 0 + j, none⟩).isSome = true := by
        intro j hj
        rw [cell_get hb, getD_some (by rw [← hl.1] at hj; omega)]
        rfl
      refine ⟨w.setCells p.b (p.s + o + 0) vs', run_storeCells_cells p.b (p.s + o) vs' 0 w hcl hfr (hl.one hone), ?_⟩
      simp only [Nat.add_zero]
      have key := h.upd (o' := .cells (splice cs o vs) false [] gs) hg (by simp [AObj.alive, hro]) hp (x' := .cells c' e (lo, hi)) ?_ rfl k3 k4 k5 k6 k7 k8
      · exact ⟨key.1, key.2, k5⟩
      · refine .cells (by omega) h2 (by rw [splice_length hle]; omega) (fun j hj => ?_) (fun x hx => ?_) (fun _ j j1 j2 => h6 hro j j1 (by omega)) h7
        · rw [splice_length hle] at hj
          rw [splice_getD hle, k2]
          by_cases e1 : o ≤ j ∧ j < o + vs.length
          · rw [if_pos e1, if_pos (by rw [← hl.1]; omega), show p.s + j - (p.s + o) = j - o by omega]
            exact hl.2 _ (by omega)
          · rw [if_neg e1, if_neg (by rw [← hl.1]; omega)]
            exact h4 j hj
        · simp only [splice, List.mem_append] at hx
          rcases hx with (hx | hx) | hx
          · exact h5 x (List.mem_of_mem_take hx)
          · exact List.all_eq_true.1 hone x hx
          · exact h5 x (List.mem_of_mem_drop hx)
    · cases hs
  · cases hs

/-! ### New blocks -/
def Mu.upd (μ : Mu) (i : Nat) (p : Pl) : Mu := fun j => if j = i then some p else μ j
theorem Mu.upd_same (i : Nat) (p : Pl) : (μ.upd i p) i = some p := by simp [Mu.upd]
theorem Mu.le_upd (h : Rel G μ H w) (p : Pl) : μ.le (μ.upd H.next p) := by
  intro i q hq
  have := h.fin i q hq
  simp only [Mu.upd]
  rw [if_neg (by omega)]
  exact hq

theorem ObjRel.mono {μ' : Mu} (h : μ.le μ') {o : AObj} {x : Obj} {p : Pl} (k : ObjRel μ o x p) : ObjRel μ' o x p := by
  cases k with
  | cells a1 a2 a3 a4 a5 a6 a7 => exact .cells a1 a2 a3 (fun i hi => (a4 i hi).mono h) a5 a6 a7
  | map a1 a2 => exact .map a1 fun i hi => ⟨(a2 i hi).1.mono h, (a2 i hi).2.1.mono h, (a2 i hi).2.2⟩
  | iter s pos a => exact .iter s pos a

/-- A new block at the heap's end. -/
theorem Rel.push {o : AObj} {x : Obj} {p : Pl} {w' : World} (h : Rel G μ H w) (hx : ObjRel μ o x p) (hpar : ∀ j ∈ o.par, (∃ q, μ j = some q) ∧ ∀ oj, H.get j = some oj → oj.alive = false) (hpb : p.b = w.heap.size) (hw : w'.heap = w.heap.push x)
    (h1 : w'.os = w.os) (h2 : w'.tape = w.tape) (h3 : w'.output = w.output) :
    Rel G (μ.upd H.next p) (H.new o) w' ∧ TnB μ H w (μ.upd H.next p) (H.new o) w' := by
  have le := Mu.le_upd h p
  have old : ∀ j oj, H.get j = some oj → ∃ pj xj, μ j = some pj ∧ w.heap[pj.b]? = some xj ∧ ObjRel μ oj xj pj ∧ j < H.next ∧ pj.b < w.heap.size := by
    intro j oj hj
    obtain ⟨pj, xj, a, b, c⟩ := h.dom j oj hj
    exact ⟨pj, xj, a, b, c, h.fin j pj a, (Array.getElem?_eq_some_iff.1 b).1⟩
  have keep : ∀ k, k < w.heap.size → w'.heap[k]? = w.heap[k]? := by
    intro k hk
    rw [hw, Array.getElem?_push, if_neg (by omega)]
  have get' : ∀ j oj, (H.new o).get j = some oj → (j = H.next ∧ oj = o) ∨ (j < H.next ∧ H.get j = some oj) := by
    intro j oj hg
    rw [AHeap.get_new] at hg
    split at hg
    · rename_i e; injection hg with hg; exact .inl ⟨e, hg.symm⟩
    · obtain ⟨pj, xj, _, _, _, hlt, _⟩ := old j oj hg
      exact .inr ⟨hlt, hg⟩
  have mu' : ∀ j pj, j < H.next → (μ.upd H.next p) j = some pj → μ j = some pj := by
    intro j pj hj e
    simpa [Mu.upd, show j ≠ H.next by omega] using e
  have parlt : ∀ j ∈ o.par, ∃ q, μ j = some q ∧ j < H.next := by
    intro j hj
    obtain ⟨q, h6⟩ := (hpar j hj).1
    exact ⟨q, h6, h.fin j q h6⟩
  refine ⟨⟨?_, ?_, ?_, ?_, ?_, ?_, ?_, ?_⟩, fun _ _ k => h.lt k, le, fun i hi => by simp [Mu.upd, show i ≠ H.next by omega], by simp, ⟨h1, h2, h3, by rw [hw]; simp, fun k hk _ => keep k hk⟩, ?_, ?_, ?_⟩
  · intro j oj hg
    rcases get' j oj hg with ⟨rfl, rfl⟩ | ⟨hlt, hg'⟩
    · exact ⟨p, x, Mu.upd_same _ _, by rw [hw, hpb]; simp, hx.mono le⟩
    · obtain ⟨pj, xj, a, b, c, d, e⟩ := old j oj hg'
      exact ⟨pj, xj, le _ _ a, by rw [keep _ e]; exact b, c.mono le⟩
  · intro j pj hj
    simp only [Mu.upd] at hj
    split at hj
    · simp; omega
    · have := h.fin j pj hj; simp; omega
  · have := h.base; simp; omega
  · intro g hg
    obtain ⟨q, a, b, c⟩ := h.glob g hg
    exact ⟨q, le _ _ a, b, c⟩
  · intro j k oj ok pj pk hjk hgj hgk hpj hpk e
    rcases get' j oj hgj with ⟨rfl, rfl⟩ | ⟨a1, a2⟩
    · rcases get' k ok hgk with ⟨rfl, rfl⟩ | ⟨b1, b2⟩
      · exact absurd rfl hjk
      · exfalso
        rw [Mu.upd_same] at hpj
        injection hpj with hpj
        subst hpj
        obtain ⟨q, _, hq, _, _, _, hlt⟩ := old k ok b2
        have := mu' k pk b1 hpk
        rw [this] at hq
        injection hq with hq
        subst hq
        omega
    · rcases get' k ok hgk with ⟨rfl, rfl⟩ | ⟨b1, b2⟩
      · exfalso
        rw [Mu.upd_same] at hpk
        injection hpk with hpk
        subst hpk
        obtain ⟨q, _, hq, _, _, _, hlt⟩ := old j oj a2
        have := mu' j pj a1 hpj
        rw [this] at hq
        injection hq with hq
        subst hq
        omega
      · exact h.sep j k oj ok pj pk hjk a2 b2 (mu' j pj a1 hpj) (mu' k pk b1 hpk) e
  · intro j k oj ok hgj hgk hm
    rcases get' k ok hgk with ⟨rfl, rfl⟩ | ⟨b1, b2⟩
    · rcases get' j oj hgj with ⟨rfl, rfl⟩ | ⟨a1, a2⟩
      · exact absurd (parlt _ hm).choose_spec.2 (by omega)
      · exact (hpar _ hm).2 oj a2
    · rcases get' j oj hgj with ⟨rfl, rfl⟩ | ⟨a1, a2⟩
      · exfalso
        obtain ⟨q, hq⟩ := h.plt k ok _ b2 hm
        have := h.fin _ _ hq
        omega
      · exact h.ro j k oj ok a2 b2 hm
  · intro j oj k hgj hm
    rcases get' j oj hgj with ⟨rfl, rfl⟩ | ⟨a1, a2⟩
    · obtain ⟨q, hq, _⟩ := parlt _ hm
      exact ⟨q, le _ _ hq⟩
    · obtain ⟨q, hq⟩ := h.plt j oj k a2 hm
      exact ⟨q, le _ _ hq⟩
  · intro j k oj ok pj pk hgj hgk hm hpj hpk e
    rcases get' k ok hgk with ⟨rfl, rfl⟩ | ⟨b1, b2⟩
    · rcases get' j oj hgj with ⟨rfl, rfl⟩ | ⟨a1, a2⟩
      · exact absurd (parlt _ hm).choose_spec.2 (by omega)
      · exfalso
        rw [Mu.upd_same] at hpk
        injection hpk with hpk
        subst hpk
        obtain ⟨q, _, hq, _, _, _, hlt⟩ := old j oj a2
        have := mu' j pj a1 hpj
        rw [this] at hq
        injection hq with hq
        subst hq
        omega
    · rcases get' j oj hgj with ⟨rfl, rfl⟩ | ⟨a1, a2⟩
      · exfalso
        obtain ⟨q, hq⟩ := h.plt k ok _ b2 hm
        have := h.fin _ _ hq
        omega
      · exact h.pend j k oj ok pj pk a2 b2 hm (mu' j pj a1 hpj) (mu' k pk b1 hpk) e
  · intro j oj pj hgj hpj hb
    rcases get' j oj hgj with ⟨rfl, rfl⟩ | ⟨a1, a2⟩
    · rw [Mu.upd_same] at hpj
      injection hpj with hpj
      subst hpj
      omega
    · exact Img.of a2 (mu' j pj a1 hpj)
  · intro j o0 o1 h0 hd h1
    rcases get' j o1 h1 with ⟨rfl, rfl⟩ | ⟨a1, a2⟩
    · exact absurd (h.lt h0) (by omega)
    · rw [h0] at a2
      injection a2 with a2
      exact a2.symm
  · intro j oj hlt hgj
    rcases get' j oj hgj with ⟨rfl, rfl⟩ | ⟨a1, a2⟩
    · omega
    · exact ⟨oj, a2⟩
/-- A new row without ancestors. -/
theorem TnP.new {o : AObj} (hR : Rel G μ H w) (hpar : o.par = []) : TnP H (H.new o) := by
  intro j oj k hgj hm _
  rw [AHeap.get_new] at hgj
  split at hgj
  · injection hgj with hgj
    subst hgj
    rw [hpar] at hm
    cases hm
  · exact .inr (.inr ⟨oj, hgj, hm⟩)
theorem TnK.new {o : AObj} (hR : Rel G μ H w) : TnK H (H.new o) := by
  intro i oi hi _
  right
  rw [AHeap.get_new, if_neg]
  · exact hi
  · have := AHeap.get_lt hi; omega
theorem Rel.push0 {o : AObj} {x : Obj} {p : Pl} {w' : World} (h : Rel G μ H w) (hx : ObjRel μ o x p) (hpar : o.par = []) (hpb : p.b = w.heap.size) (hw : w'.heap = w.heap.push x)
    (h1 : w'.os = w.os) (h2 : w'.tape = w.tape) (h3 : w'.output = w.output) :
    Rel G (μ.upd H.next p) (H.new o) w' ∧ Tn μ H w (μ.upd H.next p) (H.new o) w' := by
  obtain ⟨a, b⟩ := h.push hx (fun j hj => by rw [hpar] at hj; cases hj) hpb hw h1 h2 h3
  exact ⟨a, b, TnP.new h hpar, TnK.new h⟩

/-- A row that isn't written any more. -/
theorem Rel.shut {i : Nat} {cs : List Value} {ro : Bool} {par : List Nat} {gs : Nat} (h : Rel G μ H w) (hi : H.get i = some (.cells cs ro par gs)) :
    Rel G μ (H.set i (.cells cs true par gs)) w ∧ Tn μ H w μ (H.set i (.cells cs true par gs)) w := by
  have get' : ∀ j oj, (H.set i (.cells cs true par gs)).get j = some oj → ∃ o0, H.get j = some o0 ∧ oj.par = o0.par ∧ oj.len = o0.len ∧ (o0.alive = false → oj.alive = false) ∧ (oj.alive = true → o0.alive = true) ∧
      ∀ x p, ObjRel μ o0 x p → ObjRel μ oj x p := by
    intro j oj hg
    rw [AHeap.get_set _ _ _ _ (h.lt hi)] at hg
    split at hg
    · rename_i e
      subst e
      injection hg with hg
      subst hg
      refine ⟨_, hi, rfl, rfl, fun _ => rfl, (fun e => by simp [AObj.alive] at e), fun x p hx => ?_⟩
      cases hx with
      | cells a1 a2 a3 a4 a5 a6 a7 => exact .cells a1 a2 a3 a4 a5 (fun e => by cases e) a7
    · exact ⟨oj, hg, rfl, rfl, fun h => h, fun h => h, fun _ _ h => h⟩
  refine ⟨⟨?_, fun j p hj => by simpa using h.fin j p hj, by simpa using h.base, h.glob, ?_, ?_, ?_, ?_⟩, ⟨fun _ _ k => h.lt k, Mu.le_refl _, fun _ _ => rfl, by simp, Ext.refl _ _, ?_, ?_, ?_⟩, ?_, ?_⟩
  · intro j oj hg
    obtain ⟨o0, g0, _, _, _, _, k⟩ := get' j oj hg
    obtain ⟨p, x, a, b, c⟩ := h.dom j o0 g0
    exact ⟨p, x, a, b, k x p c⟩
  · intro j k oj ok pj pk hjk hgj hgk hpj hpk e
    obtain ⟨o0, g0, e0, _⟩ := get' j oj hgj
    obtain ⟨o1, g1, e1, _⟩ := get' k ok hgk
    rw [e0, e1]
    exact h.sep j k o0 o1 pj pk hjk g0 g1 hpj hpk e
  · intro j k oj ok hgj hgk hm
    obtain ⟨o0, g0, e0, _, f0, _⟩ := get' j oj hgj
    obtain ⟨o1, g1, e1, _⟩ := get' k ok hgk
    exact f0 (h.ro j k o0 o1 g0 g1 (by rw [← e1]; exact hm))
  · intro j oj k hgj hm
    obtain ⟨o0, g0, e0, _⟩ := get' j oj hgj
    exact h.plt j o0 k g0 (by rw [← e0]; exact hm)
  · intro j k oj ok pj pk hgj hgk hm hpj hpk e
    obtain ⟨o0, g0, e0, l0, _⟩ := get' j oj hgj
    obtain ⟨o1, g1, e1, l1, _⟩ := get' k ok hgk
    rw [l0, l1]
    exact h.pend j k o0 o1 pj pk g0 g1 (by rw [← e1]; exact hm) hpj hpk e
  · intro j oj pj hgj hpj hb
    obtain ⟨o0, g0, e0, _, _, k0, _⟩ := get' j oj hgj
    rcases Img.of g0 hpj with h1 | ⟨h1, _⟩
    · exact .inl h1
    · cases ha : oj.alive with
      | true => rw [k0 ha] at h1; cases h1
      | false => exact .inr ⟨rfl, o0, g0, hpj⟩
  · intro j o0 o1 h0 hd h1
    rw [AHeap.get_set _ _ _ _ (h.lt hi)] at h1
    split at h1
    · rename_i e
      subst e
      injection h1 with h1
      rw [hi] at h0
      injection h0 with h0
      subst h0
      subst h1
      cases ro with
      | true => rfl
      | false => cases hd
    · rw [h0] at h1
      injection h1 with h1
      exact h1.symm
  · intro j oj _ hgj
    obtain ⟨o0, g0, _⟩ := get' j oj hgj
    exact ⟨o0, g0⟩
  · intro j oj k hgj hm _
    obtain ⟨o0, g0, e0, _⟩ := get' j oj hgj
    exact .inr (.inr ⟨o0, g0, by rw [← e0]; exact hm⟩)
  · intro j oj hgj hd
    right
    rw [AHeap.get_set _ _ _ _ (h.lt hi)]
    split
    · rename_i e
      subst e
      rw [hi] at hgj
      injection hgj with hgj
      subst hgj
      cases ro with
      | true => rfl
      | false => cases hd
    · exact hgj

end Go.Eng
