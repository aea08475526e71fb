/- The engine, part 13: a region that draws its order: behind it stands what the text's order brings. -/
import Derived.Test.YtkjclebafpomhaaDoorEngL
set_option linter.unusedVariables false
set_option linter.unusedSimpArgs false
namespace Go.Eng
open Go

/-! ### The last of some -/
open Classical in
noncomputable def lw : Nat → (Nat → Prop) → Nat
  | 0, _ => 0
  | m + 1, p => if p m then m + 1 else lw m p
theorem lw_le : ∀ (n : Nat) (p : Nat → Prop), lw n p ≤ n := by
  intro n
  induction n with
  | zero => intro p; exact Nat.le_refl _
  | succ n ih => intro p; simp only [lw]; split
                 · exact Nat.le_refl _
                 · have := ih p; omega
theorem lw_is : ∀ (n : Nat) (p : Nat → Prop) (m : Nat), lw n p = m + 1 → p m ∧ m < n := by
  intro n
  induction n with
  | zero => intro p m h; simp [lw] at h
  | succ n ih =>
    intro p m h
    simp only [lw] at h
    split at h
    · rename_i hp; have : n = m := by omega
      subst this; exact ⟨hp, Nat.lt_succ_self _⟩
    · have := ih p m h; exact ⟨this.1, by omega⟩
theorem lw_no : ∀ (n : Nat) (p : Nat → Prop) (m : Nat), m < n → lw n p ≤ m → ¬ p m := by
  intro n
  induction n with
  | zero => intro p m h; omega
  | succ n ih =>
    intro p m h hl hp
    simp only [lw] at hl
    split at hl
    · omega
    · rename_i hn
      by_cases e : m = n
      · subst e; exact hn hp
      · exact ih p m (by omega) hl hp
theorem lw_eq {n : Nat} {p : Nat → Prop} {m : Nat} (hm : m < n) (hp : p m) (h : ∀ k, k < n → p k → k ≤ m) : lw n p = m + 1 := by
  have h1 : ¬ lw n p ≤ m := fun h => lw_no n p m hm h hp
  cases e : lw n p with
  | zero => omega
  | succ k =>
    have := lw_is n p k e
    have := h k this.2 this.1
    omega
theorem lw_congr {p q : Nat → Prop} : ∀ (n : Nat), (∀ k, k < n → (p k ↔ q k)) → lw n p = lw n q := by
  intro n
  induction n with
  | zero => intro _; rfl
  | succ n ih =>
    intro h
    simp only [lw]
    rw [ih fun k hk => h k (by omega)]
    by_cases e : p n
    · rw [if_pos e, if_pos ((h n (by omega)).1 e)]
    · rw [if_neg e, if_neg fun x => e ((h n (by omega)).2 x)]

/-! ### Heaps that read alike -/
theorem Rel.congr {G : Nat} {μ : Mu} {H H' : AHeap} {w : World} (h : Rel G μ H w) (e : ∀ i, H'.get i = H.get i) (en : H'.next = H.next) : Rel G μ H' w where
  dom := fun i o k => h.dom i o (by rw [← e]; exact k)
  fin := fun i p k => by rw [en]; exact h.fin i p k
  base := by rw [en]; exact h.base
  glob := h.glob
  sep := fun i j oi oj pi pj a b c => h.sep i j oi oj pi pj a (by rw [← e]; exact b) (by rw [← e]; exact c)
  ro := fun i j oi oj b c => h.ro i j oi oj (by rw [← e]; exact b) (by rw [← e]; exact c)
  plt := fun i o j k => h.plt i o j (by rw [← e]; exact k)
  pend := fun i j oi oj pi pj b c => h.pend i j oi oj pi pj (by rw [← e]; exact b) (by rw [← e]; exact c)
theorem Tn.congr {μ μ' : Mu} {H H' H'' : AHeap} {w w' : World} (t : Tn μ H w μ' H' w') (e : ∀ i, H''.get i = H'.get i) (en : H''.next = H'.next) : Tn μ H w μ' H'' w' where
  lt := t.lt
  le := t.le
  old := t.old
  next := by rw [en]; exact t.next
  ext := t.ext
  img := fun i o p k => t.img i o p (by rw [← e]; exact k)
  dead := fun i o o' a b c => t.dead i o o' a b (by rw [← e]; exact c)
  dom := fun i o' a b => t.dom i o' a (by rw [← e]; exact b)
  par := fun j o' i a b c => t.par j o' i (by rw [← e]; exact a) b c
  kept := fun i o a b => (t.kept i o a b).imp id fun h => by rw [e]; exact h

theorem upto_le (μ : Mu) {a b : Nat} (h : a ≤ b) : (μ.upto a).le (μ.upto b) := by
  intro i p hp
  simp only [Mu.upto] at *
  split at hp
  · rw [if_pos (by omega)]; exact hp
  · cases hp
theorem upto_mono {μ μ' : Mu} (h : μ.le μ') (a : Nat) : (μ.upto a).le (μ'.upto a) := by
  intro i p hp
  simp only [Mu.upto] at *
  split at hp
  · rename_i hi; rw [if_pos hi]; exact h i p hp
  · cases hp
theorem upto_sub (μ : Mu) (a : Nat) : (μ.upto a).le μ := by
  intro i p hp
  simp only [Mu.upto] at hp
  split at hp
  · exact hp
  · cases hp

/-- The places that an operation looks at; of the others nothing is known. -/
def restr (τ : Tmps) : List Nat → Tmps
  | [] => .lf
  | t :: l => (restr τ l).put t (some (tget τ t))
theorem tget_restr (τ : Tmps) : ∀ (l : List Nat) (t : Nat), tget (restr τ l) t = if t ∈ l then tget τ t else unk := by
  intro l
  induction l with
  | nil => intro t; simp [restr, tget, Tr.get_lf]
  | cons x l ih =>
    intro t
    simp only [restr]
    rw [tget_put, ih]
    by_cases e : t = x
    · subst e; simp
    · rw [if_neg e]; simp [e]

section
variable {P : Program} {G NT : Nat} {ops : Array Oper} {B : Nat → Nat → Bool} {τs : Nat → Tmps} {hs Vs Rs : Nat → AHeap} {Fs Ws : Nat → Nat → Prop} {vs : Nat → Value} {rd : Nat → List Nat}

/-- What an operation writes, or makes. -/
def Wr (hs : Nat → AHeap) (Ws : Nat → Nat → Prop) (k i : Nat) : Prop := Ws k i ∨ ((hs k).next ≤ i ∧ i < (hs (k + 1)).next)

/-- One operation of the region, in the text's order, on its part of the heap. -/
structure RStep (P : Program) (G NT : Nat) (ops : Array Oper) (B : Nat → Nat → Bool) (τs : Nat → Tmps) (hs Vs Rs : Nat → AHeap) (Fs Ws : Nat → Nat → Prop) (vs : Nat → Value) (rd : Nat → List Nat) (j : Nat) (o : Oper) : Prop where
  sound : ∀ Q μ a w K, Rel G μ (Vs j) w → TRel μ NT (restr (τs j) (rd j)) a.tmps → a.defers = [] →
    (∀ μ' w' v', VRel μ' (vs j) v' → Rel G μ' (Rs j) w' → Tn μ (Vs j) w μ' (Rs j) w' → K (a.put o.dst v') w') → wpOp P ops Q j K a w
  dst : ∀ d, o.dst = some d → d < NT
  tau : ∀ t, tget (τs (j + 1)) t = if o.dst = some t then vs j else tget (τs j) t
  heap : ∀ i, (Wr hs Ws j i → (hs (j + 1)).get i = (Rs j).get i) ∧ (¬ Wr hs Ws j i → (hs (j + 1)).get i = (hs j).get i)
  next : (hs j).next ≤ (hs (j + 1)).next
  rnext : (Rs j).next ≤ (hs (j + 1)).next
  vnext : (Vs j).next = (hs j).next
  sub : ∀ i o', (Vs j).get i = some o' → Fs j i ∧ ∃ o, (hs j).get i = some o ∧ (o' = o ∨ o.shut = some o')
  alive : ∀ i o, (Vs j).get i = some o → o.alive = true → Ws j i
  par : ∀ k o i, (Vs j).get k = some o → o.alive = true → i ∈ o.par → i < (hs j).next → Ws j i
  wf : ∀ i, Ws j i → Fs j i ∧ i < (hs j).next ∧ (Vs j).get i = (hs j).get i
  conf : ∀ i k, k < ops.size → k ≠ j → Fs j i → Wr hs Ws k i → B k j = true ∨ B j k = true
  conft : ∀ t k ok, k ≠ j → (t ∈ rd j ∨ o.dst = some t) → ops[k]? = some ok → ok.dst = some t → B k j = true ∨ B j k = true

/-- The region's order. -/
structure ROrd (ops : Array Oper) (B : Nat → Nat → Bool) : Prop where
  lt : ∀ i j, B i j = true → i < j
  src : ∀ i j o, B i j = true → ops[j]? = some o → ∃ e ∈ o.after, Region.binds .any e = true ∧ (e.on = i ∨ B i e.on = true)
  back : ∀ j o, ops[j]? = some o → ∀ e ∈ o.after, Region.binds .any e = true → e.on < j

/-- The state behind the operations that have run. -/
structure RInv (P : Program) (G NT : Nat) (ops : Array Oper) (B : Nat → Nat → Bool) (τs : Nat → Tmps) (hs : Nat → AHeap) (Ws : Nat → Nat → Prop) (μ0 : Mu) (w0 : World) (L : Nat → Prop) (μ : Mu) (H : AHeap) (a : Act) (w : World) : Prop where
  next : H.next = (hs ops.size).next
  rel : Rel G μ H w
  tn : Tn μ0 (hs 0) w0 μ H w
  heap : ∀ i, H.get i = (hs (lw ops.size fun k => L k ∧ Wr hs Ws k i)).get i
  lev : ∀ i o, H.get i = some o → (∃ p x, (μ.upto (hs (lw ops.size fun k => L k ∧ Wr hs Ws k i)).next) i = some p ∧ w.heap[p.b]? = some x ∧ ObjRel (μ.upto (hs (lw ops.size fun k => L k ∧ Wr hs Ws k i)).next) o x p) ∧
    ∀ j ∈ o.par, ∃ p, (μ.upto (hs (lw ops.size fun k => L k ∧ Wr hs Ws k i)).next) j = some p
  free : ∀ j, j < ops.size → ¬ L j → ∀ i, (hs j).next ≤ i → i < (hs (j + 1)).next → μ i = none
  size : a.tmps.size = NT
  tmps : ∀ d, VRel (μ.upto (hs (lw ops.size fun k => L k ∧ ∃ o, ops[k]? = some o ∧ o.dst = some d)).next) (tget (τs (lw ops.size fun k => L k ∧ ∃ o, ops[k]? = some o ∧ o.dst = some d)) d) (a.tmps.getD d undef)
  defers : a.defers = []
  down : ∀ j, L j → ∀ i, B i j = true → L i

variable (hO : ROrd ops B) (hS : ∀ j o, ops[j]? = some o → RStep P G NT ops B τs hs Vs Rs Fs Ws vs rd j o)
include hS

theorem hs_mono : ∀ (k j : Nat), j ≤ k → k ≤ ops.size → (hs j).next ≤ (hs k).next := by
  intro k
  induction k with
  | zero => intro j h _; have : j = 0 := by omega
            subst this; exact Nat.le_refl _
  | succ k ih =>
    intro j h hk
    rcases Nat.lt_or_ge j (k + 1) with h1 | h1
    · have h2 : ops[k]? = some ops[k] := Array.getElem?_eq_getElem (by omega)
      have := (hS k _ h2).next
      have := ih j (by omega) (by omega)
      omega
    · have : j = k + 1 := by omega
      subst this; exact Nat.le_refl _
/-- Nobody writes it in between. -/
theorem hs_same (i : Nat) : ∀ (k j : Nat), j ≤ k → k ≤ ops.size → (∀ m, j ≤ m → m < k → ¬ Wr hs Ws m i) → (hs k).get i = (hs j).get i := by
  intro k
  induction k with
  | zero => intro j h _ _; have : j = 0 := by omega
            subst this; rfl
  | succ k ih =>
    intro j h hk hn
    rcases Nat.lt_or_ge j (k + 1) with h1 | h1
    · have h2 : ops[k]? = some ops[k] := Array.getElem?_eq_getElem (by omega)
      rw [((hS k _ h2).heap i).2 (hn k (by omega) (by omega))]
      exact ih j (by omega) (by omega) fun m a b => hn m a (by omega)
    · have : j = k + 1 := by omega
      subst this; rfl
theorem ts_same (t : Nat) : ∀ (k j : Nat), j ≤ k → k ≤ ops.size → (∀ m o, j ≤ m → m < k → ops[m]? = some o → o.dst ≠ some t) → tget (τs k) t = tget (τs j) t := by
  intro k
  induction k with
  | zero => intro j h _ _; have : j = 0 := by omega
            subst this; rfl
  | succ k ih =>
    intro j h hk hn
    rcases Nat.lt_or_ge j (k + 1) with h1 | h1
    · have h2 : ops[k]? = some ops[k] := Array.getElem?_eq_getElem (by omega)
      rw [(hS k _ h2).tau t, if_neg (hn k _ (by omega) (by omega) h2)]
      exact ih j (by omega) (by omega) fun m o a b => hn m o a (by omega)
    · have : j = k + 1 := by omega
      subst this; rfl


/-- What an operation looks at is as it is in the text's order. -/
theorem look {hO : ROrd ops B} {j : Nat} {o : Oper} (hj : ops[j]? = some o) {L : Nat → Prop} (hd : ∀ j, L j → ∀ i, B i j = true → L i) (hn : ¬ L j) (hr : ∀ i, B i j = true → L i) {i : Nat} (hF : Fs j i) :
    (lw ops.size fun k => L k ∧ Wr hs Ws k i) ≤ j ∧ (hs (lw ops.size fun k => L k ∧ Wr hs Ws k i)).get i = (hs j).get i := by
  have hlt : j < ops.size := (Array.getElem?_eq_some_iff.1 hj).1
  have h1 : (lw ops.size fun k => L k ∧ Wr hs Ws k i) ≤ j := by
    cases e : lw ops.size fun k => L k ∧ Wr hs Ws k i with
    | zero => omega
    | succ k =>
      obtain ⟨⟨h1, h2⟩, h3⟩ := lw_is _ _ _ e
      have hne : k ≠ j := fun e => hn (e ▸ h1)
      rcases (hS j o hj).conf i k h3 hne hF h2 with h | h
      · have := hO.lt _ _ h; omega
      · exact absurd (hd k h1 j h) hn
  refine ⟨h1, (hs_same hS i j _ h1 (by omega) fun m a b hw => ?_).symm⟩
  rcases (hS j o hj).conf i m (by omega) (by omega) hF hw with h | h
  · exact lw_no _ _ m (by omega) a ⟨hr m h, hw⟩
  · have := hO.lt _ _ h; omega
theorem lookT {hO : ROrd ops B} {j : Nat} {o : Oper} (hj : ops[j]? = some o) {L : Nat → Prop} (hd : ∀ j, L j → ∀ i, B i j = true → L i) (hn : ¬ L j) (hr : ∀ i, B i j = true → L i) {t : Nat} (hF : t ∈ rd j) :
    (lw ops.size fun k => L k ∧ ∃ o, ops[k]? = some o ∧ o.dst = some t) ≤ j ∧ tget (τs (lw ops.size fun k => L k ∧ ∃ o, ops[k]? = some o ∧ o.dst = some t)) t = tget (τs j) t := by
  have hlt : j < ops.size := (Array.getElem?_eq_some_iff.1 hj).1
  have h1 : (lw ops.size fun k => L k ∧ ∃ o, ops[k]? = some o ∧ o.dst = some t) ≤ j := by
    cases e : lw ops.size fun k => L k ∧ ∃ o, ops[k]? = some o ∧ o.dst = some t with
    | zero => omega
    | succ k =>
      obtain ⟨⟨h1, ok, h2, h4⟩, h3⟩ := lw_is _ _ _ e
      have hne : k ≠ j := fun e => hn (e ▸ h1)
      rcases (hS j o hj).conft t k ok hne (.inl hF) h2 h4 with h | h
      · have := hO.lt _ _ h; omega
      · exact absurd (hd k h1 j h) hn
  refine ⟨h1, (ts_same hS t j _ h1 (by omega) fun m ok a b hm hw => ?_).symm⟩
  rcases (hS j o hj).conft t m ok (by omega) (.inl hF) hm hw with h | h
  · exact lw_no _ _ m (by omega) a ⟨hr m h, ok, hm, hw⟩
  · have := hO.lt _ _ h; omega

/-- One operation more. -/
theorem region_step (hO : ROrd ops B) {Q : Exit → Act → World → Prop} {K : Act → World → Prop} {μ0 μ : Mu} {w0 w : World} {H : AHeap} {a : Act} {L : Nat → Prop} {j : Nat} {o : Oper} (hj : ops[j]? = some o) (hI : RInv P G NT ops B τs hs Ws μ0 w0 L μ H a w)
    (hR0 : Rel G μ0 (hs 0) w0) (hn : ¬ L j) (hr : ∀ i, B i j = true → L i) (hK : ∀ μ' H' a' w', RInv P G NT ops B τs hs Ws μ0 w0 (fun k => L k ∨ k = j) μ' H' a' w' → K a' w') : wpOp P ops Q j K a w := by
  have hlt : j < ops.size := (Array.getElem?_eq_some_iff.1 hj).1
  have S := hS j o hj
  have lk := fun {i : Nat} (hF : Fs j i) => look (hO := hO) hS hj hI.down hn hr hF
  have lkT := fun {t : Nat} (hF : t ∈ rd j) => lookT (hO := hO) hS hj hI.down hn hr hF
  have atF : ∀ i, Fs j i → H.get i = (hs j).get i := fun i hF => (hI.heap i).trans (lk hF).2
  have hv : View H (Vs j) (hs j).next := by
    refine ⟨S.vnext, fun i o' h => ?_, fun k ok i hk ha hp oi hoi => ?_⟩
    · obtain ⟨hF, o, h1, h2⟩ := S.sub i o' h
      exact ⟨o, by rw [atF i hF]; exact h1, h2⟩
    · have hin : i < (hs j).next := by
        obtain ⟨hFk, o1, h1, h2⟩ := S.sub k ok hk
        have e1 : ok.par = o1.par := by
          rcases h2 with rfl | h2
          · rfl
          · exact (shut_par h2).1
        obtain ⟨p, hp'⟩ := (hI.lev k o1 (by rw [atF k hFk]; exact h1)).2 i (by rw [← e1]; exact hp)
        have h3 := upto_le μ (hs_mono hS j _ (lk hFk).1 (by omega)) _ _ hp'
        simp only [Mu.upto] at h3
        split at h3
        · assumption
        · cases h3
      obtain ⟨hF, _, h2⟩ := S.wf i (S.par k ok i hk ha hp hin)
      rw [h2, ← atF i hF]; exact hoi
  have sub2 : ∀ i o', (Vs j).get i = some o' → ∃ o, H.get i = some o ∧ o'.par = o.par ∧ o'.len = o.len ∧ (o.alive = false → o'.alive = false) ∧ (∀ μ x p, ObjRel μ o x p → ObjRel μ o' x p) := by
    intro i o' h
    obtain ⟨o, h1, h2⟩ := hv.sub i o' h
    rcases h2 with rfl | h2
    · exact ⟨o', h1, rfl, rfl, fun h => h, fun _ _ _ h => h⟩
    · exact ⟨o, h1, (shut_par h2).1, (shut_par h2).2.1, fun _ => (shut_par h2).2.2, fun _ _ _ => shut_obj h2⟩
  have hG : G ≤ (hs j).next := Nat.le_trans hR0.base (hs_mono hS j 0 (by omega) (by omega))
  have up : ∀ i p, (μ.upto (hs j).next) i = some p → i < (hs j).next ∧ μ i = some p := by
    intro i p hp
    simp only [Mu.upto] at hp
    split at hp
    · rename_i hlt; exact ⟨hlt, hp⟩
    · cases hp
  have lvl : ∀ i, Fs j i → (μ.upto (hs (lw ops.size fun k => L k ∧ Wr hs Ws k i)).next).le (μ.upto (hs j).next) := fun i hF => upto_le μ (hs_mono hS j _ (lk hF).1 (by omega))
  have hRV : Rel G (μ.upto (hs j).next) (Vs j) w := by
    refine ⟨fun i o' h => ?_, fun i p h => by rw [S.vnext]; exact (up i p h).1, by rw [S.vnext]; exact hG, fun g hg => ?_, ?_, ?_, ?_, ?_⟩
    · obtain ⟨o, h1, _, _, _, h5⟩ := sub2 i o' h
      obtain ⟨p, x, a1, a2, a3⟩ := (hI.lev i o h1).1
      have le := lvl i (S.sub i o' h).1
      exact ⟨p, x, le _ _ a1, a2, h5 _ _ _ (a3.mono le)⟩
    · obtain ⟨p, a1, a2, a3⟩ := hI.rel.glob g hg
      refine ⟨p, ?_, a2, a3⟩
      simp only [Mu.upto]; rw [if_pos (by omega)]; exact a1
    · intro i k oi ok pi pk hik hi hk hpi hpk e
      obtain ⟨o1, h1, e1, _⟩ := sub2 i oi hi
      obtain ⟨o2, h2, e2, _⟩ := sub2 k ok hk
      rw [e1, e2]
      exact hI.rel.sep i k o1 o2 pi pk hik h1 h2 (up _ _ hpi).2 (up _ _ hpk).2 e
    · intro i k oi ok hi hk hp
      obtain ⟨o1, h1, e1, _, a1, _⟩ := sub2 i oi hi
      obtain ⟨o2, h2, e2, _⟩ := sub2 k ok hk
      exact a1 (hI.rel.ro i k o1 o2 h1 h2 (by rw [← e2]; exact hp))
    · intro i oi k hi hp
      obtain ⟨o1, h1, e1, _⟩ := sub2 i oi hi
      obtain ⟨p, hp'⟩ := (hI.lev i o1 h1).2 k (by rw [← e1]; exact hp)
      exact ⟨p, lvl i (S.sub i oi hi).1 _ _ hp'⟩
    · intro i k oi ok pi pk hi hk hp hpi hpk e
      obtain ⟨o1, h1, e1, l1, _⟩ := sub2 i oi hi
      obtain ⟨o2, h2, e2, l2, _⟩ := sub2 k ok hk
      rw [l1, l2]
      exact hI.rel.pend i k o1 o2 pi pk h1 h2 (by rw [← e2]; exact hp) (up _ _ hpi).2 (up _ _ hpk).2 e
  have hTV : TRel (μ.upto (hs j).next) NT (restr (τs j) (rd j)) a.tmps := by
    refine ⟨hI.size, fun t => ?_⟩
    rw [tget_restr]
    split
    · rename_i hm
      have := (hI.tmps t).mono (upto_le μ (hs_mono hS j _ (lkT hm).1 (by omega)))
      rw [(lkT hm).2] at this
      exact this
    · exact .any _
  refine S.sound Q _ a w K hRV hTV hI.defers fun μ1 w1 v' hv1 hRR t => ?_
  classical
  have hmN : (hs (j + 1)).next ≤ H.next := by rw [hI.next]; exact hs_mono hS _ _ (by omega) (Nat.le_refl _)
  let H' : AHeap := { t := .lf, next := H.next, back := fun i => if Wr hs Ws j i then (Rs j).get i else H.get i }
  have g1 : ∀ i, Wr hs Ws j i → H'.get i = (Rs j).get i := fun i h => by
    rcases Nat.lt_or_ge i H.next with h1 | h1
    · rw [AHeap.get_in (H := H') h1]; show (if Wr hs Ws j i then _ else _) = _; rw [if_pos h]
    · rw [AHeap.get_out (H := H') h1, AHeap.get_out]; have := S.rnext; omega
  have g2 : ∀ i, ¬ Wr hs Ws j i → H'.get i = H.get i := fun i h => by
    rcases Nat.lt_or_ge i H.next with h1 | h1
    · rw [AHeap.get_in (H := H') h1]; show (if Wr hs Ws j i then _ else _) = _; rw [if_neg h]
    · rw [AHeap.get_out (H := H') h1, AHeap.get_out h1]
  have ltV : ∀ i o, (Vs j).get i = some o → i < (hs j).next := fun i o h => by have := hRV.lt h; rw [S.vnext] at this; exact this
  have ho : Over H (Vs j) (Rs j) H' (hs j).next (hs (j + 1)).next := by
    refine ⟨rfl, fun i o h1 h2 => ?_, fun i o o' h1 h2 h3 => ?_, fun i h1 h2 h3 => g1 i (.inr ⟨h2, h3⟩), fun i h1 h2 => ?_⟩
    · by_cases hw : Wr hs Ws j i
      · exact g1 i hw
      · rw [g2 i hw, h2]
        cases hd : o.alive with
        | true => exact absurd (.inl (S.alive i o h1 hd)) hw
        | false =>
          rcases t.kept i o h1 hd with ⟨k, ok, h3, h4, h5⟩ | h3
          · exact absurd (.inl (S.par k ok i h3 h4 h5 (ltV i o h1))) hw
          · exact h3.symm
    · rw [g2 i, h2]
      rintro (hw | hw)
      · obtain ⟨hF, _, e⟩ := S.wf i hw
        rw [h1, ← atF i hF, h2] at e
        injection e with e
        exact h3 e
      · have := ltV i o' h1; omega
    · by_cases hw : Wr hs Ws j i
      · rw [g1 i hw]
        rcases hw with hw | hw
        · obtain ⟨hF, hlt2, e⟩ := S.wf i hw
          rw [atF i hF, ← e, h1]
          cases hR : (Rs j).get i with
          | none => rfl
          | some o' =>
            obtain ⟨o0, h0⟩ := t.dom i o' (by rw [S.vnext]; exact hlt2) hR
            rw [h1] at h0; cases h0
        · exact absurd hw h2
      · exact g2 i hw
  obtain ⟨k1, k2, k3, k4, k5, k6⟩ := over_ok hI.tn hI.rel (hs_mono hS j 0 (by omega) (by omega)) S.next hmN (hI.free j hlt hn) hv hRV hRR t S.rnext ho
  -- a block that isn't written
  have keep : ∀ i oi p x, H.get i = some oi → μ i = some p → ¬ Wr hs Ws j i → w.heap[p.b]? = some x → w1.heap[p.b]? = some x := by
    intro i oi p x hi hp hw hx
    rw [t.ext.block p.b (Array.getElem?_eq_some_iff.1 hx).1, hx]
    rintro ⟨k, ok, pk, hk, hak, hpk, e⟩
    have hHk : H.get k = some ok := by
      obtain ⟨o1, h1, h2⟩ := hv.sub k ok hk
      rcases h2 with rfl | h2
      · exact h1
      · have := (shut_par h2).2.2; rw [hak] at this; cases this
    by_cases eik : i = k
    · subst eik; exact hw (.inl (S.alive i ok hk hak))
    · rcases hI.rel.sep i k oi ok p pk eik hi hHk hp (up _ _ hpk).2 e.symm with h | h
      · obtain ⟨q, hq⟩ := hRV.plt k ok i hk h
        exact hw (.inl (S.par k ok i hk hak h (up _ _ hq).1))
      · have := hI.rel.ro k i ok oi hHk hi h
        rw [hak] at this; cases this
  have lw1 : ∀ i, Wr hs Ws j i → (lw ops.size fun k => (L k ∨ k = j) ∧ Wr hs Ws k i) = j + 1 := by
    intro i hw
    refine lw_eq hlt ⟨.inr rfl, hw⟩ ?_
    rintro k hk ⟨hL | rfl, hwk⟩
    · rcases Nat.lt_or_ge j k with h | h
      · -- a later one that has run: it is ordered with this one
        have hok : ops[k]? = some ops[k] := Array.getElem?_eq_getElem hk
        rcases hwk with hwk | hwk
        · have hF := ((hS k _ hok).wf i hwk).1
          rcases (hS k _ hok).conf i j hlt (by omega) hF hw with h' | h'
          · exact absurd (hI.down k hL j h') hn
          · have := hO.lt _ _ h'; omega
        · rcases hw with hw | hw
          · have := (S.wf i hw).2.1
            have := hs_mono hS k j (by omega) (by omega)
            omega
          · have := hs_mono hS k (j + 1) (by omega) (by omega)
            omega
      · exact h
    · exact Nat.le_refl _
  have lw2 : ∀ i, ¬ Wr hs Ws j i → (lw ops.size fun k => (L k ∨ k = j) ∧ Wr hs Ws k i) = lw ops.size fun k => L k ∧ Wr hs Ws k i := by
    intro i hw
    refine lw_congr _ fun k _ => ⟨?_, fun h => ⟨.inl h.1, h.2⟩⟩
    rintro ⟨hL | rfl, hwk⟩
    · exact ⟨hL, hwk⟩
    · exact absurd hwk hw
  have le1 : μ1.le ((μ.over μ1 (hs j).next (hs (j + 1)).next).upto (hs (j + 1)).next) := by
    intro i p hp
    have h1 := hRR.fin i p hp
    have h2 := S.rnext
    simp only [Mu.upto]
    rw [if_pos (by omega)]
    exact k4 i p hp
  refine hK (μ.over μ1 (hs j).next (hs (j + 1)).next) H' (a.put o.dst v') w1 ⟨hI.next, k1, k2, fun i => ?_, fun i oi hi => ?_, fun k hk hnk i h1 h2 => ?_, ?_, fun d => ?_, ?_, ?_⟩
  · by_cases hw : Wr hs Ws j i
    · rw [lw1 i hw, g1 i hw, ((S.heap i).1 hw)]
    · rw [lw2 i hw, g2 i hw, hI.heap i]
  · by_cases hw : Wr hs Ws j i
    · rw [lw1 i hw]
      rw [g1 i hw] at hi
      obtain ⟨p, x, a1, a2, a3⟩ := hRR.dom i oi hi
      refine ⟨⟨p, x, le1 _ _ a1, a2, a3.mono le1⟩, fun k hk => ?_⟩
      obtain ⟨q, hq⟩ := hRR.plt i oi k hi hk
      exact ⟨q, le1 _ _ hq⟩
    · rw [lw2 i hw]
      rw [g2 i hw] at hi
      obtain ⟨⟨p, x, a1, a2, a3⟩, a4⟩ := hI.lev i oi hi
      have le2 := upto_mono k3 (hs (lw ops.size fun k => L k ∧ Wr hs Ws k i)).next
      refine ⟨⟨p, x, le2 _ _ a1, keep i oi p x hi (upto_sub _ _ _ _ a1) hw a2, a3.mono le2⟩, fun k hk => ?_⟩
      obtain ⟨q, hq⟩ := a4 k hk
      exact ⟨q, le2 _ _ hq⟩
  · have hnL : ¬ L k := fun h => hnk (.inl h)
    have hkj : k ≠ j := fun h => hnk (.inr h)
    rcases Nat.lt_or_ge k j with h | h
    · have := hs_mono hS j (k + 1) (by omega) (by omega)
      rw [k5 i (by omega)]
      exact hI.free k hk hnL i h1 h2
    · have := hs_mono hS k (j + 1) (by omega) (by omega)
      rw [k6 i (by omega)]
      exact hI.free k hk hnL i h1 h2
  · cases ho : o.dst with
    | none => exact hI.size
    | some d => simp [Act.put, hI.size]
  · have hsz : ∀ d, o.dst = some d → d < a.tmps.size := fun d h => by rw [hI.size]; exact S.dst d h
    by_cases hd : o.dst = some d
    · have e : (lw ops.size fun k => (L k ∨ k = j) ∧ ∃ o, ops[k]? = some o ∧ o.dst = some d) = j + 1 := by
        refine lw_eq hlt ⟨.inr rfl, o, hj, hd⟩ ?_
        rintro k hk ⟨hL | rfl, ok, hok, hdk⟩
        · rcases Nat.lt_or_ge j k with h | h
          · rcases S.conft d k ok (by omega) (.inr hd) hok hdk with h' | h'
            · have := hO.lt _ _ h'; omega
            · exact absurd (hI.down k hL j h') hn
          · exact h
        · exact Nat.le_refl _
      rw [e, S.tau d, if_pos hd]
      have : (a.put o.dst v').tmps.getD d undef = v' := by
        rw [hd]; simp [Act.put, Array.getD_eq_getD_getElem?, hsz d hd]
      rw [this]
      exact hv1.mono le1
    · have e : (lw ops.size fun k => (L k ∨ k = j) ∧ ∃ o, ops[k]? = some o ∧ o.dst = some d) = lw ops.size fun k => L k ∧ ∃ o, ops[k]? = some o ∧ o.dst = some d := by
        refine lw_congr _ fun k _ => ⟨?_, fun h => ⟨.inl h.1, h.2⟩⟩
        rintro ⟨hL | rfl, ok, hok, hdk⟩
        · exact ⟨hL, ok, hok, hdk⟩
        · rw [hj] at hok; injection hok with hok; subst hok; exact absurd hdk hd
      rw [e]
      have : (a.put o.dst v').tmps.getD d undef = a.tmps.getD d undef := by
        cases ho : o.dst with
        | none => rfl
        | some d' =>
          have hne : d' ≠ d := fun e => hd (by rw [ho, e])
          simp [Act.put, Array.getD_eq_getD_getElem?, Array.getElem?_setIfInBounds_ne hne]
      rw [this]
      exact (hI.tmps d).mono (upto_mono k3 _)
  · rw [put_defers]; exact hI.defers
  · rintro k (hL | rfl) i hb
    · exact .inl (hI.down k hL i hb)
    · exact .inl (hr i hb)


omit hS in
theorem lw_zero {n : Nat} {p : Nat → Prop} (h : ∀ k, k < n → ¬ p k) : lw n p = 0 := by
  cases e : lw n p with
  | zero => rfl
  | succ k => have := lw_is n p k e; exact absurd this.1 (h k this.2)
omit hS in
theorem Tn.grow {μ μ' : Mu} {H H' H'' : AHeap} {w w' : World} (t : Tn μ H w μ' H' w') (e : ∀ i, H''.get i = H'.get i) (en : H'.next ≤ H''.next) : Tn μ H w μ' H'' w' where
  lt := t.lt
  le := t.le
  old := t.old
  next := Nat.le_trans t.next en
  ext := t.ext
  img := fun i o p k => t.img i o p (by rw [← e]; exact k)
  dead := fun i o o' a b c => t.dead i o o' a b (by rw [← e]; exact c)
  dom := fun i o' a b => t.dom i o' a (by rw [← e]; exact b)
  par := fun j o' i a b c => t.par j o' i (by rw [← e]; exact a) b c
  kept := fun i o a b => (t.kept i o a b).imp id fun h => by rw [e]; exact h

/-- How many are not. -/
def cnt : Nat → (Nat → Bool) → Nat
  | 0, _ => 0
  | n + 1, p => cnt n p + (if p n then 0 else 1)
omit hS in
theorem cnt_le {p q : Nat → Bool} (h : ∀ k, p k = true → q k = true) : ∀ n, cnt n q ≤ cnt n p := by
  intro n
  induction n with
  | zero => exact Nat.le_refl _
  | succ n ih =>
    simp only [cnt]
    cases hp : p n with
    | true => rw [h n hp]; simp; exact ih
    | false => cases q n <;> simp <;> omega
omit hS in
theorem cnt_lt {p q : Nat → Bool} (h : ∀ k, p k = true → q k = true) {i : Nat} (hp : p i = false) (hq : q i = true) : ∀ n, i < n → cnt n q < cnt n p := by
  intro n
  induction n with
  | zero => intro h; omega
  | succ n ih =>
    intro hi
    simp only [cnt]
    rcases Nat.lt_or_ge i n with h1 | h1
    · have := ih h1
      cases hp' : p n with
      | true => rw [h n hp']; simp; exact this
      | false => cases q n <;> simp <;> omega
    · have : i = n := by omega
      subst this
      rw [hp, hq]
      have := cnt_le h i
      simp; omega
omit hS in
theorem cnt_all (n : Nat) (p : Nat → Bool) : cnt n p ≤ n := by
  induction n with
  | zero => exact Nat.le_refl _
  | succ n ih => simp only [cnt]; split <;> omega

theorem region_all (hO : ROrd ops B) {Q : Post} {μ0 : Mu} {w0 : World} (hR0 : Rel G μ0 (hs 0) w0) (hQ : Q .normal (τs ops.size) (hs ops.size)) : ∀ (fuel : Nat) (listed : Array Bool) (μ : Mu) (H : AHeap) (a : Act) (w : World), listed.size = ops.size →
    cnt ops.size (fun k => listed.getD k false) ≤ fuel → RInv P G NT ops B τs hs Ws μ0 w0 (fun k => listed.getD k false = true) μ H a w → wpAny P .any ops (Lift G NT μ0 (hs 0) w0 Q) fuel listed a w := by
  have done : ∀ (listed : Array Bool) (μ : Mu) (H : AHeap) (a : Act) (w : World), listed.size = ops.size → RInv P G NT ops B τs hs Ws μ0 w0 (fun k => listed.getD k false = true) μ H a w → Region.ready .any ops listed = [] → Lift G NT μ0 (hs 0) w0 Q .normal a w := by
    intro listed μ H a w hsz hI hr
    have all : ∀ j, j < ops.size → listed.getD j false = true := by
      intro j
      induction j using Nat.strongRecOn with
      | _ j ih =>
        intro hj
        cases hl : listed.getD j false with
        | true => rfl
        | false =>
          exfalso
          have hj2 : ops[j]? = some ops[j] := Array.getElem?_eq_getElem hj
          have : j ∈ Region.ready .any ops listed := by
            rw [mem_ready]
            refine ⟨?_, _, hj2, fun e he hb => ?_⟩
            · have h1 : j < listed.size := by omega
              simp only [Array.getD, h1, dite_true] at hl ⊢
              exact hl
            · have := hO.back j _ hj2 e he hb
              exact ih e.on this (by omega)
          rw [hr] at this; cases this
    have e1 : ∀ i, (hs ops.size).get i = H.get i := by
      intro i
      rw [hI.heap i]
      refine hs_same hS i _ _ (lw_le _ _) (Nat.le_refl _) fun m a b hw => ?_
      exact lw_no _ _ m b a ⟨all m b, hw⟩
    refine ⟨τs ops.size, hs ops.size, μ, hI.rel.congr e1 hI.next.symm, ⟨hI.size, fun d => ?_⟩, hI.defers, hI.tn.congr e1 hI.next.symm, hQ⟩
    have := (hI.tmps d).mono (upto_sub _ _)
    have e2 := ts_same hS d ops.size (lw ops.size fun k => listed.getD k false = true ∧ ∃ o, ops[k]? = some o ∧ o.dst = some d) (lw_le _ _) (Nat.le_refl _) fun m o a b hm hd => lw_no ops.size (fun k => listed.getD k false = true ∧ ∃ o, ops[k]? = some o ∧ o.dst = some d) m b a ⟨all m b, o, hm, hd⟩
    rw [e2]
    exact this
  intro fuel
  induction fuel with
  | zero =>
    intro listed μ H a w hsz hc hI
    have hr : Region.ready .any ops listed = [] := by
      cases h : Region.ready .any ops listed with
      | nil => rfl
      | cons j l =>
        have hm : j ∈ Region.ready .any ops listed := by rw [h]; simp
        obtain ⟨h1, o, h2, _⟩ := mem_ready.1 hm
        have hlt : j < ops.size := (Array.getElem?_eq_some_iff.1 h2).1
        have h1' : listed.getD j false = false := by
          have h1s : j < listed.size := by omega
          simp only [Array.getD, h1s, dite_true] at h1 ⊢
          exact h1
        have := cnt_lt (p := fun k => listed.getD k false) (q := fun _ => true) (fun _ _ => rfl) h1' rfl ops.size hlt
        omega
    exact ⟨hr, done listed μ H a w hsz hI hr⟩
  | succ fuel ih =>
    intro listed μ H a w hsz hc hI
    refine ⟨done listed μ H a w hsz hI, fun j hm => ?_⟩
    obtain ⟨h1, o, h2, h3⟩ := mem_ready.1 hm
    have hlt : j < ops.size := (Array.getElem?_eq_some_iff.1 h2).1
    have hls : j < listed.size := by omega
    have h1' : listed.getD j false = false := by
      simp only [Array.getD, hls, dite_true] at h1 ⊢
      exact h1
    refine region_step hS hO h2 hI hR0 (by rw [h1']; simp) (fun i hb => ?_) fun μ' H' a' w' hI' => ?_
    · obtain ⟨e, he, hbd, h⟩ := hO.src i j o hb h2
      have hl := h3 e he hbd
      rcases h with rfl | h
      · exact hl
      · exact hI.down _ hl i h
    · have hset : ∀ k, ((listed.setIfInBounds j true).getD k false = true) ↔ (listed.getD k false = true ∨ k = j) := by
        intro k
        by_cases e : k = j
        · subst e
          simp [Array.getD_eq_getD_getElem?, hls]
        · have : (listed.setIfInBounds j true).getD k false = listed.getD k false := by
            simp [Array.getD_eq_getD_getElem?, Array.getElem?_setIfInBounds_ne (Ne.symm e)]
          rw [this]
          simp [e]
      refine ih _ μ' H' a' w' (by simpa using hsz) ?_ ?_
      · have := cnt_lt (p := fun k => listed.getD k false) (q := fun k => (listed.setIfInBounds j true).getD k false) (fun k h => (hset k).2 (.inl h)) h1' ((hset j).2 (.inr rfl)) ops.size hlt
        omega
      · have e : (fun k => (listed.setIfInBounds j true).getD k false = true) = fun k => listed.getD k false = true ∨ k = j := by
          funext k; exact propext (hset k)
        rw [e]
        exact hI'

theorem acode_region_any (hm : P.follows .mixedOrders = true) (hO : ROrd ops B) {id : Nat} {Q : Post} (hQ : Q .normal (τs ops.size) (hs ops.size)) : ACode P G NT (.region id ops true) Q (τs 0) (hs 0) := by
  intro μ a w hR hT hd
  refine wp_region_any hm ?_
  have hRw : Rel G μ (hs 0) { w with drawn := w.drawn + 1 } := hR.world rfl
  have noL : ∀ k : Nat, (Array.replicate ops.size false).getD k false = true → False := by
    intro k h
    by_cases hk : k < ops.size
    · simp [Array.getD_eq_getD_getElem?, hk] at h
    · simp [Array.getD_eq_getD_getElem?, hk] at h
  have z : ∀ p : Nat → Prop, (lw ops.size fun k => (Array.replicate ops.size false).getD k false = true ∧ p k) = 0 := fun p => lw_zero fun k _ h => noL k h.1
  have hu : μ.upto (hs 0).next = μ := by
    funext i
    simp only [Mu.upto]
    split
    · rfl
    · rename_i h
      cases e : μ i with
      | none => rfl
      | some p => have := hR.fin i p e; omega
  have hnx : (hs 0).next ≤ (hs ops.size).next := hs_mono hS ops.size 0 (Nat.zero_le _) (Nat.le_refl _)
  have e0 : ∀ i, AHeap.get { t := .lf, next := (hs ops.size).next, back := (hs 0).get } i = (hs 0).get i := by
    intro i
    rcases Nat.lt_or_ge i (hs ops.size).next with h1 | h1
    · rw [AHeap.get_in (H := { t := .lf, next := (hs ops.size).next, back := (hs 0).get }) h1]; rfl
    · rw [AHeap.get_out (H := { t := .lf, next := (hs ops.size).next, back := (hs 0).get }) h1, AHeap.get_out]; omega
  refine region_all hS hO hR hQ ops.size _ μ { t := .lf, next := (hs ops.size).next, back := (hs 0).get } a _ (by simp) (cnt_all _ _) ⟨rfl, ?_, ?_, fun i => ?_, fun i o h => ?_, fun j hj _ i h1 h2 => ?_, hT.size, fun d => ?_, hd, fun j h => (noL j h).elim⟩
  · exact ⟨fun i o k => hRw.dom i o (by rw [← e0]; exact k), fun i p h => Nat.lt_of_lt_of_le (hR.fin i p h) hnx, Nat.le_trans hR.base hnx, hR.glob, fun i j oi oj pi pj a b c => hRw.sep i j oi oj pi pj a (by rw [← e0]; exact b) (by rw [← e0]; exact c),
      fun i j oi oj b c => hRw.ro i j oi oj (by rw [← e0]; exact b) (by rw [← e0]; exact c), fun i o j k => hRw.plt i o j (by rw [← e0]; exact k), fun i j oi oj pi pj b c => hRw.pend i j oi oj pi pj (by rw [← e0]; exact b) (by rw [← e0]; exact c)⟩
  · exact (Tn.world (w' := { w with drawn := w.drawn + 1 }) hR rfl rfl rfl rfl).grow e0 hnx
  · rw [z]; exact e0 i
  · rw [z, hu]
    rw [e0 i] at h
    exact ⟨hRw.dom i o h, fun j hj => hR.plt i o j h hj⟩
  · have := hs_mono hS j 0 (Nat.zero_le _) (by omega)
    cases e : μ i with
    | none => rfl
    | some p => have := hR.fin i p e; omega
  · rw [z, hu]
    exact hT.at_ d

end
end Go.Eng
