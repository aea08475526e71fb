/- The engine, part 12: a step on a part of the heap is a step on the whole. -/
import Derived.Test.YtkjclebafpomhaaDoorEngK
set_option linter.unusedVariables false
set_option linter.unusedSimpArgs false
namespace Go.Eng
open Go

def AObj.shut : AObj → Option AObj
  | .cells cs _ par gs => some (.cells cs true par gs)
  | .map es k _ => some (.map es k true)
  | .iter _ _ => none
def Mu.upto (μ : Mu) (n : Nat) : Mu := fun i => if i < n then μ i else none

theorem shut_par {o o' : AObj} (h : o.shut = some o') : o'.par = o.par ∧ o'.len = o.len ∧ o'.alive = false := by
  cases o <;> simp [AObj.shut] at h <;> subst h <;> exact ⟨rfl, rfl, rfl⟩
theorem shut_obj {o o' : AObj} {μ : Mu} {x : Obj} {p : Pl} (h : o.shut = some o') (k : ObjRel μ o x p) : ObjRel μ o' x p := by
  cases k with
  | cells a1 a2 a3 a4 a5 a6 a7 => simp [AObj.shut] at h; subst h; exact .cells a1 a2 a3 a4 a5 (fun e => by cases e) a7
  | map a b => simp [AObj.shut] at h; subst h; exact .map a b
  | iter _ _ _ => cases h

/-- A part of a heap: its objects as they are, or shut. -/
structure View (H V : AHeap) (n : Nat) : Prop where
  next : V.next = n
  sub : ∀ i o', V.get i = some o' → ∃ o, H.get i = some o ∧ (o' = o ∨ o.shut = some o')
  closed : ∀ k o i, V.get k = some o → o.alive = true → i ∈ o.par → ∀ oi, H.get i = some oi → V.get i = some oi

section
variable {P : Program} {G : Nat} {μ0 μ μ' : Mu} {H0 H V R H' : AHeap} {w0 w w' : World} {n m : Nat}

/-- What holds of the heap behind a step on the part. -/
structure Over (H V R H' : AHeap) (n m : Nat) : Prop where
  next : H'.next = H.next
  same : ∀ i o, V.get i = some o → H.get i = some o → H'.get i = R.get i
  shut : ∀ i o o', V.get i = some o' → H.get i = some o → o' ≠ o → H'.get i = some o
  new : ∀ i, V.get i = none → n ≤ i → i < m → H'.get i = R.get i
  rest : ∀ i, V.get i = none → ¬ (n ≤ i ∧ i < m) → H'.get i = H.get i

def Mu.over (μ μ' : Mu) (n m : Nat) : Mu := fun i => if n ≤ i ∧ i < m then μ' i else μ i

theorem over_ok (t0 : Tn μ0 H0 w0 μ H w) (hR : Rel G μ H w) (hn : H0.next ≤ n) (hnm : n ≤ m) (hm : m ≤ H.next) (hfree : ∀ i, n ≤ i → i < m → μ i = none) (hv : View H V n)
    (hRV : Rel G (μ.upto n) V w) (hRR : Rel G μ' R w') (t : Tn (μ.upto n) V w μ' R w') (hRn : R.next ≤ m) (ho : Over H V R H' n m) :
    Rel G (μ.over μ' n m) H' w' ∧ Tn μ0 H0 w0 (μ.over μ' n m) H' w' ∧ μ.le (μ.over μ' n m) ∧ μ'.le (μ.over μ' n m) ∧ (∀ i, i < n → (μ.over μ' n m) i = μ i) ∧ (∀ i, m ≤ i → (μ.over μ' n m) i = μ i) := by
  have lo : ∀ i, i < n → (μ.over μ' n m) i = μ i := fun i hi => by simp only [Mu.over]; rw [if_neg (by omega)]
  have hi' : ∀ i, m ≤ i → (μ.over μ' n m) i = μ i := fun i hi => by simp only [Mu.over]; rw [if_neg (by omega)]
  have mid : ∀ i, n ≤ i → i < m → (μ.over μ' n m) i = μ' i := fun i h1 h2 => by simp only [Mu.over]; rw [if_pos ⟨h1, h2⟩]
  have le1 : μ.le (μ.over μ' n m) := by
    intro i p hp
    by_cases h1 : n ≤ i ∧ i < m
    · rw [hfree i h1.1 h1.2] at hp; cases hp
    · simp only [Mu.over]; rw [if_neg h1]; exact hp
  have old' : ∀ i, i < n → μ' i = μ i := fun i hi => by
    rw [t.old i (by rw [hv.next]; exact hi)]
    simp only [Mu.upto]; rw [if_pos hi]
  have le2 : μ'.le (μ.over μ' n m) := by
    intro i p hp
    have hlt := hRR.fin i p hp
    by_cases h1 : i < n
    · rw [lo i h1, ← old' i h1]; exact hp
    · rw [mid i (by omega) (by omega)]; exact hp
  -- where an object of the new heap comes from
  have src : ∀ i o, H'.get i = some o → (R.get i = some o ∧ ((∃ o0, V.get i = some o0 ∧ H.get i = some o0) ∨ (V.get i = none ∧ n ≤ i ∧ i < m))) ∨
      (H.get i = some o ∧ ((∃ o', V.get i = some o' ∧ o' ≠ o ∧ o.shut = some o') ∨ V.get i = none)) := by
    intro i o h
    cases hV : V.get i with
    | some o' =>
      obtain ⟨o1, h1, h2⟩ := hv.sub i o' hV
      by_cases e : o' = o1
      · subst e
        rw [ho.same i o' hV h1] at h
        exact .inl ⟨h, .inl ⟨o', rfl, h1⟩⟩
      · rw [ho.shut i o1 o' hV h1 e] at h
        injection h with h
        subst h
        exact .inr ⟨h1, .inl ⟨o', rfl, e, h2.resolve_left e⟩⟩
    | none =>
      by_cases h1 : n ≤ i ∧ i < m
      · rw [ho.new i hV h1.1 h1.2] at h
        exact .inl ⟨h, .inr ⟨rfl, h1⟩⟩
      · rw [ho.rest i hV h1] at h
        exact .inr ⟨h, .inr rfl⟩
  have Hlt : ∀ i o, H.get i = some o → ∃ p, μ i = some p ∧ p.b < w.heap.size := by
    intro i o h
    obtain ⟨p, x, h1, h2, _⟩ := hR.dom i o h
    exact ⟨p, h1, (Array.getElem?_eq_some_iff.1 h2).1⟩
  -- an object of H that V hasn't as it is: its block is not one that the step may write
  have noImg : ∀ i o p, H.get i = some o → μ i = some p → ((∃ o', V.get i = some o' ∧ o' ≠ o ∧ o.shut = some o') ∨ V.get i = none) → ¬ Img (μ.upto n) V p.b := by
    rintro i o p hi hp hnot ⟨k, ok, pk, hk, hak, hpk, e⟩
    have hkn : k < n ∧ μ k = some pk := by
      simp only [Mu.upto] at hpk
      split at hpk
      · rename_i hlt; exact ⟨hlt, hpk⟩
      · cases hpk
    obtain ⟨ok', hk', hor⟩ := hv.sub k ok hk
    have hok : ok = ok' := by
      rcases hor with h | h
      · exact h
      · have := (shut_par h).2.2; rw [hak] at this; cases this
    subst hok
    by_cases eik : i = k
    · subst eik
      rcases hnot with ⟨o', h1, h2, h3⟩ | h1
      · rw [hk] at h1
        injection h1 with h1
        subst h1
        rw [hi] at hk'
        injection hk' with hk'
        exact h2 hk'.symm
      · rw [hk] at h1; cases h1
    · rcases hR.sep i k o ok p pk eik hi hk' hp hkn.2 e.symm with hh | hh
      · have hVi := hv.closed k ok i hk hak hh o hi
        rcases hnot with ⟨o', h1, h2, _⟩ | h1
        · rw [hVi] at h1; injection h1 with h1; exact h2 h1.symm
        · rw [hVi] at h1; cases h1
      · have := hR.ro k i ok o hk' hi hh
        rw [hak] at this
        cases this
  have keep : ∀ i o p x, H.get i = some o → μ i = some p → w.heap[p.b]? = some x → ((∃ o', V.get i = some o' ∧ o' ≠ o ∧ o.shut = some o') ∨ V.get i = none) → w'.heap[p.b]? = some x := by
    intro i o p x hi hp hx hnot
    rw [t.ext.block p.b (Array.getElem?_eq_some_iff.1 hx).1 (noImg i o p hi hp hnot)]
    exact hx
  have upto' : ∀ i p, (μ.upto n) i = some p → i < n ∧ μ i = some p := by
    intro i p hp
    simp only [Mu.upto] at hp
    split at hp
    · rename_i hlt; exact ⟨hlt, hp⟩
    · cases hp
  -- an object that the step's end has, on an old block
  have onOld : ∀ i o p, R.get i = some o → μ' i = some p → p.b < w.heap.size → Img (μ.upto n) V p.b ∨ (o.alive = false ∧ i < n ∧ μ i = some p ∧ ∃ o0, V.get i = some o0) := by
    intro i o p h1 h2 h3
    rcases t.img i o p h1 h2 h3 with h | ⟨h4, o0, h5, h6⟩
    · exact .inl h
    · exact .inr ⟨h4, (upto' i p h6).1, (upto' i p h6).2, o0, h5⟩
  have RltV : ∀ i o, R.get i = some o → ∃ p, μ' i = some p ∧ i < m := by
    intro i o h
    obtain ⟨p, x, h1, _⟩ := hRR.dom i o h
    have := hRR.fin i p h1
    exact ⟨p, h1, by omega⟩
  have hidden : ∀ i o, H.get i = some o → ((∃ o', V.get i = some o' ∧ o' ≠ o ∧ o.shut = some o') ∨ V.get i = none) → ∀ o', V.get i = some o' → o' ≠ o ∧ o'.alive = false := by
    rintro i o h (⟨o1, h1, h2, h3⟩ | h1) o' h4
    · rw [h1] at h4; injection h4 with h4; subst h4; exact ⟨h2, (shut_par h3).2.2⟩
    · rw [h1] at h4; cases h4
  have inH : ∀ i o, V.get i = some o → o.alive = true → H.get i = some o := by
    intro i o h ha
    obtain ⟨o1, h1, h2⟩ := hv.sub i o h
    rcases h2 with h2 | h2
    · subst h2; exact h1
    · have := (shut_par h2).2.2; rw [ha] at this; cases this
  have img1 : ∀ b, Img (μ.upto n) V b → Img μ H b := by
    rintro b ⟨k, ok, pk, hk, hak, hpk, e⟩
    exact ⟨k, ok, pk, inH k ok hk hak, hak, (upto' k pk hpk).2, e⟩
  have muR : ∀ i o p, R.get i = some o → (μ.over μ' n m) i = some p → μ' i = some p := by
    intro i o p h1 h2
    obtain ⟨q, h3, _⟩ := RltV i o h1
    have := le2 i q h3
    rw [h2] at this
    injection this with this
    rw [this]
    exact h3
  have muH : ∀ i o p, H.get i = some o → (μ.over μ' n m) i = some p → μ i = some p := by
    intro i o p h1 h2
    obtain ⟨q, h3, _⟩ := Hlt i o h1
    have := le1 i q h3
    rw [h2] at this
    injection this with this
    rw [this]
    exact h3
  -- a name of the whole, hidden from the part, in the ancestry of an object of the step's end
  have parHR : ∀ i j oi oj, H.get i = some oi → ((∃ o', V.get i = some o' ∧ o' ≠ oi ∧ oi.shut = some o') ∨ V.get i = none) → R.get j = some oj → i ∈ oj.par →
      ∃ o0, V.get j = some o0 ∧ i ∈ o0.par ∧ (o0.alive = true → False) := by
    intro i j oi oj h1 h2 h3 h4
    have hin : i < n := by
      obtain ⟨q, hq⟩ := hRR.plt j oj i h3 h4
      have h5 := hRR.fin i q hq
      obtain ⟨q', hq', _⟩ := Hlt i oi h1
      rcases Nat.lt_or_ge i n with h | h
      · exact h
      · rw [hfree i h (by omega)] at hq'; cases hq'
    rcases t.par j oj i h3 h4 (by rw [hv.next]; exact hin) with ⟨o, h5, h6⟩ | ⟨j0, o0, h5, h6, h7⟩ | ⟨o0, h5, h6⟩
    · have := (hidden i oi h1 h2 o h5).2
      rw [h6] at this; cases this
    · have h8 := hv.closed j0 o0 i h5 h6 h7 oi h1
      exact absurd rfl (hidden i oi h1 h2 oi h8).1
    · refine ⟨o0, h5, h6, fun ha => ?_⟩
      have h8 := hv.closed j o0 i h5 ha h6 oi h1
      exact absurd rfl (hidden i oi h1 h2 oi h8).1
  -- a name that the step's end has, in the ancestry of an object of the whole
  have parRH : ∀ i j oi oj, R.get i = some oi → ((∃ o0, V.get i = some o0 ∧ H.get i = some o0) ∨ (V.get i = none ∧ n ≤ i ∧ i < m)) → H.get j = some oj → i ∈ oj.par →
      V.get i = some oi ∧ H.get i = some oi ∧ oi.alive = false := by
    intro i j oi oj h1 h2 h3 h4
    rcases h2 with ⟨o0, h5, h6⟩ | ⟨h5, h6, h7⟩
    · have hd := hR.ro i j o0 oj h6 h3 h4
      have := t.dead i o0 oi h5 hd h1
      subst this
      exact ⟨h5, h6, hd⟩
    · obtain ⟨q, hq⟩ := hR.plt j oj i h3 h4
      rw [hfree i h6 h7] at hq; cases hq
  have samePl : ∀ i o0 oi, V.get i = some o0 → R.get i = some oi → (o0.alive = true → False) → oi = o0 := by
    intro i o0 oi h1 h2 h3
    cases ha : o0.alive with
    | true => exact (h3 ha).elim
    | false => exact t.dead i o0 oi h1 ha h2
  refine ⟨⟨?_, ?_, ?_, ?_, ?_, ?_, ?_, ?_⟩, ⟨⟨t0.lt, Mu.le_trans t0.le le1, fun i hi => ?_, ?_, ⟨?_, ?_, ?_, ?_, ?_⟩, ?_, ?_, ?_⟩, ?_, ?_⟩, le1, le2, lo, hi'⟩
  · intro i o h
    rcases src i o h with ⟨h1, _⟩ | ⟨h1, h2⟩
    · obtain ⟨p, x, a, b, c⟩ := hRR.dom i o h1
      exact ⟨p, x, le2 _ _ a, b, c.mono le2⟩
    · obtain ⟨p, x, a, b, c⟩ := hR.dom i o h1
      exact ⟨p, x, le1 _ _ a, keep i o p x h1 a b h2, c.mono le1⟩
  · intro i p hp
    rw [ho.next]
    by_cases h1 : n ≤ i ∧ i < m
    · omega
    · simp only [Mu.over] at hp; rw [if_neg h1] at hp; exact hR.fin i p hp
  · rw [ho.next]; exact hR.base
  · intro g hg
    obtain ⟨p, a, b, c⟩ := hR.glob g hg
    exact ⟨p, le1 _ _ a, b, c⟩
  · intro i j oi oj pi pj hij hi hj hpi hpj e
    rcases src i oi hi with ⟨h1, h2⟩ | ⟨h1, h2⟩
    · have hpi := muR i oi pi h1 hpi
      rcases src j oj hj with ⟨k1, k2⟩ | ⟨k1, k2⟩
      · exact hRR.sep i j oi oj pi pj hij h1 k1 hpi (muR j oj pj k1 hpj) e
      · have hpj := muH j oj pj k1 hpj
        obtain ⟨q, hq, hlt⟩ := Hlt j oj k1
        rw [hpj] at hq; injection hq with hq; subst hq
        rcases onOld i oi pi h1 hpi (by omega) with h3 | ⟨h3, h4, h5, o0, h6⟩
        · rw [e] at h3; exact (noImg j oj pj k1 hpj k2 h3).elim
        · rcases h2 with ⟨o1, h7, h8⟩ | ⟨h7, _⟩
          · rcases hR.sep i j o1 oj pi pj hij h8 k1 h5 hpj e with h9 | h9
            · exact .inl h9
            · right
              have := samePl i o1 oi h7 h1 fun ha => (hidden j oj k1 k2 oj (hv.closed i o1 j h7 ha h9 oj k1)).1 rfl
              rw [this]; exact h9
          · rw [h6] at h7; cases h7
    · have hpi := muH i oi pi h1 hpi
      rcases src j oj hj with ⟨k1, k2⟩ | ⟨k1, k2⟩
      · have hpj := muR j oj pj k1 hpj
        obtain ⟨q, hq, hlt⟩ := Hlt i oi h1
        rw [hpi] at hq; injection hq with hq; subst hq
        rcases onOld j oj pj k1 hpj (by omega) with h3 | ⟨h3, h4, h5, o0, h6⟩
        · rw [← e] at h3; exact (noImg i oi pi h1 hpi h2 h3).elim
        · rcases k2 with ⟨o1, h7, h8⟩ | ⟨h7, _⟩
          · rcases hR.sep i j oi o1 pi pj hij h1 h8 hpi h5 e with h9 | h9
            · left
              have := samePl j o1 oj h7 k1 fun ha => (hidden i oi h1 h2 oi (hv.closed j o1 i h7 ha h9 oi h1)).1 rfl
              rw [this]; exact h9
            · exact .inr h9
          · rw [h6] at h7; cases h7
      · exact hR.sep i j oi oj pi pj hij h1 k1 hpi (muH j oj pj k1 hpj) e
  · intro i j oi oj hi hj hm'
    rcases src j oj hj with ⟨k1, k2⟩ | ⟨k1, k2⟩
    · rcases src i oi hi with ⟨h1, h2⟩ | ⟨h1, h2⟩
      · exact hRR.ro i j oi oj h1 k1 hm'
      · obtain ⟨o0, h3, h4, h5⟩ := parHR i j oi oj h1 h2 k1 hm'
        obtain ⟨o1, h6, h7⟩ := hv.sub j o0 h3
        refine hR.ro i j oi o1 h1 h6 ?_
        rcases h7 with rfl | h7
        · exact h4
        · rw [(shut_par h7).1] at h4; exact h4
    · rcases src i oi hi with ⟨h1, h2⟩ | ⟨h1, h2⟩
      · exact (parRH i j oi oj h1 h2 k1 hm').2.2
      · exact hR.ro i j oi oj h1 k1 hm'
  · intro i o j hi hm'
    rcases src i o hi with ⟨h1, _⟩ | ⟨h1, _⟩
    · obtain ⟨p, hp⟩ := hRR.plt i o j h1 hm'
      exact ⟨p, le2 _ _ hp⟩
    · obtain ⟨p, hp⟩ := hR.plt i o j h1 hm'
      exact ⟨p, le1 _ _ hp⟩
  · intro i j oi oj pi pj hi hj hm' hpi hpj e
    rcases src j oj hj with ⟨k1, k2⟩ | ⟨k1, k2⟩
    · rcases src i oi hi with ⟨h1, h2⟩ | ⟨h1, h2⟩
      · exact hRR.pend i j oi oj pi pj h1 k1 hm' (muR i oi pi h1 hpi) (muR j oj pj k1 hpj) e
      · obtain ⟨o0, h3, h4, h5⟩ := parHR i j oi oj h1 h2 k1 hm'
        have := samePl j o0 oj h3 k1 h5
        subst this
        rcases k2 with ⟨o1, h6, h7⟩ | ⟨h6, _⟩
        · rw [h3] at h6; injection h6 with h6; subst h6
          exact hR.pend i j oi oj pi pj h1 h7 hm' (muH i oi pi h1 hpi) (muH j oj pj h7 hpj) e
        · rw [h3] at h6; cases h6
    · rcases src i oi hi with ⟨h1, h2⟩ | ⟨h1, h2⟩
      · obtain ⟨_, h3, _⟩ := parRH i j oi oj h1 h2 k1 hm'
        exact hR.pend i j oi oj pi pj h3 k1 hm' (muH i oi pi h3 hpi) (muH j oj pj k1 hpj) e
      · exact hR.pend i j oi oj pi pj h1 k1 hm' (muH i oi pi h1 hpi) (muH j oj pj k1 hpj) e
  · rw [lo i (by omega)]; exact t0.old i hi
  · rw [ho.next]; exact t0.next
  · exact t.ext.os.trans t0.ext.os
  · exact t.ext.tape.trans t0.ext.tape
  · exact t.ext.output.trans t0.ext.output
  · exact Nat.le_trans t0.ext.size t.ext.size
  · intro k hk hnI
    rw [t.ext.block k (Nat.lt_of_lt_of_le hk t0.ext.size) fun h => hnI (t0.alive hk (img1 k h))]
    exact t0.ext.block k hk hnI
  · intro i o p h1 h2 h3
    have h3' := Nat.lt_of_lt_of_le h3 t0.ext.size
    rcases src i o h1 with ⟨k1, k2⟩ | ⟨k1, k2⟩
    · rcases onOld i o p k1 (muR i o p k1 h2) h3' with h4 | ⟨h4, h5, h6, o0, h7⟩
      · exact .inl (t0.alive h3 (img1 _ h4))
      · obtain ⟨o1, h8, h9⟩ := hv.sub i o0 h7
        rcases t0.img i o1 p h8 h6 h3 with h10 | ⟨_, h10⟩
        · exact .inl h10
        · exact .inr ⟨h4, h10⟩
    · exact t0.img i o p k1 (muH i o p k1 h2) h3
  · intro i o o' h1 h2 h3
    rcases src i o' h3 with ⟨k1, ⟨o0, k2, k3⟩ | ⟨_, k2, _⟩⟩ | ⟨k1, k2⟩
    · have := t0.dead i o o0 h1 h2 k3
      subst this
      exact t.dead i o0 o' k2 h2 k1
    · have := t0.lt i o h1; omega
    · exact t0.dead i o o' h1 h2 k1
  · intro i o' h1 h2
    rcases src i o' h2 with ⟨k1, ⟨o0, k2, k3⟩ | ⟨_, k2, _⟩⟩ | ⟨k1, k2⟩
    · exact t0.dom i o0 h1 k3
    · omega
    · exact t0.dom i o' h1 k1
  · intro j o' i h1 h2 h3
    rcases src j o' h1 with ⟨k1, k2⟩ | ⟨k1, k2⟩
    · rcases t.par j o' i k1 h2 (by rw [hv.next]; omega) with ⟨o, h5, h6⟩ | ⟨j0, o0, h5, h6, h7⟩ | ⟨o0, h5, h6⟩
      · have h7 := inH i o h5 h6
        obtain ⟨o1, h8⟩ := t0.dom i o h3 h7
        cases hd : o1.alive with
        | true => exact .inl ⟨o1, h8, hd⟩
        | false =>
          have := t0.dead i o1 o h8 hd h7
          subst this
          rw [h6] at hd; cases hd
      · rcases t0.par j0 o0 i (inH j0 o0 h5 h6) h7 h3 with h8 | h8 | ⟨o1, h8, h9⟩
        · exact .inl h8
        · exact .inr (.inl h8)
        · cases hd : o1.alive with
          | true => exact .inr (.inl ⟨j0, o1, h8, hd, h9⟩)
          | false =>
            have := t0.dead j0 o1 o0 h8 hd (inH j0 o0 h5 h6)
            subst this
            rw [h6] at hd; cases hd
      · obtain ⟨o1, h8, h9⟩ := hv.sub j o0 h5
        refine t0.par j o1 i h8 ?_ h3
        rcases h9 with rfl | h9
        · exact h6
        · rw [(shut_par h9).1] at h6; exact h6
    · exact t0.par j o' i k1 h2 h3
  · intro i o h1 h2
    rcases t0.kept i o h1 h2 with h3 | h3
    · exact .inl h3
    · by_cases hpar : ∃ k ok, V.get k = some ok ∧ ok.alive = true ∧ i ∈ ok.par
      · left
        obtain ⟨k, ok, h4, h5, h6⟩ := hpar
        rcases t0.par k ok i (inH k ok h4 h5) h6 (t0.lt i o h1) with ⟨o1, h7, h8⟩ | h7 | ⟨o1, h7, h8⟩
        · rw [h1] at h7; injection h7 with h7; subst h7; rw [h2] at h8; cases h8
        · exact h7
        · cases hd : o1.alive with
          | true => exact ⟨k, o1, h7, hd, h8⟩
          | false =>
            have := t0.dead k o1 ok h7 hd (inH k ok h4 h5)
            subst this
            rw [h5] at hd; cases hd
      · right
        cases hV : V.get i with
        | some o' =>
          obtain ⟨o1, h4, h5⟩ := hv.sub i o' hV
          rw [h3] at h4; injection h4 with h4; subst h4
          by_cases e : o' = o
          · subst e
            rw [ho.same i o' hV h3]
            rcases t.kept i o' hV h2 with h | h
            · exact absurd h hpar
            · exact h
          · exact ho.shut i o o' hV h3 e
        | none =>
          rw [ho.rest i hV (by have := t0.lt i o h1; omega)]
          exact h3

end
end Go.Eng
