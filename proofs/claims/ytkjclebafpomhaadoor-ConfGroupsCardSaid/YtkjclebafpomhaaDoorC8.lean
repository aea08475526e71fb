/- Contracts: names, labels; what the law's Size brings forth: Size.Regs. -/
import Derived.Test.YtkjclebafpomhaaDoorC7
set_option linter.unusedVariables false
set_option linter.unusedSimpArgs false
set_option maxRecDepth 100000
namespace Go.Proofs.YtkjclebafpomhaaDoor
open Go Go.Eng

def nmB (k : Nat) : ByteArray := if k = 0 then ⟨#[108, 111, 119]⟩ else if k = 1 then ⟨#[114, 101, 100]⟩ else if k = 2 then ⟨#[98, 108, 117, 101]⟩ else if k = 3 then ⟨#[116, 111, 112]⟩ else ⟨#[104, 105, 103, 104]⟩
def lbL (k : Nat) : Int := if k = 0 then 0 else if k = 1 then 1 else if k = 2 then 1 else if k = 3 then 2 else 9
def lbC (k : Nat) : Int := if k = 0 then 0 else if k = 1 then 1 else if k = 2 then 2 else if k = 3 then 3 else 7
def nmCells : List Value := [.string ⟨#[108, 111, 119]⟩, .string ⟨#[114, 101, 100]⟩, .string ⟨#[98, 108, 117, 101]⟩, .string ⟨#[116, 111, 112]⟩, .string ⟨#[104, 105, 103, 104]⟩]
def lbCells : List Value := [.int .u8 0, .int .u16 0, .int .u8 1, .int .u16 1, .int .u8 1, .int .u16 2, .int .u8 2, .int .u16 3, .int .u8 9, .int .u16 7]
theorem nm_at {k : Nat} (h : k < 5) : nmCells[k]? = some (.string (nmB k)) := by
  rcases k with _ | _ | _ | _ | _ | k <;> first | rfl | omega
theorem lb_at {k : Nat} (h : k < 5) : (lbCells.drop (k * 2)).take 2 = [.int .u8 (lbL k), .int .u16 (lbC k)] ∧ k * 2 + 2 ≤ lbCells.length := by
  rcases k with _ | _ | _ | _ | _ | k <;> first | exact ⟨rfl, by decide⟩ | omega
def F42 : Spec := fun vs H => match vs with
  | [] => some (.slice (some ⟨H.next, 0, none⟩) 5 5, H.new (.cells nmCells false [] 1))
  | _ => none
def F43 : Spec := fun vs H => match vs with
  | [] => some (.slice (some ⟨H.next, 0, none⟩) 5 5, H.new (.cells lbCells false [] 2))
  | _ => none
theorem F42_eq (H : AHeap) : F42 [] H = some (.slice (some ⟨H.next, 0, none⟩) 5 5, H.new (.cells nmCells false [] 1)) := id rfl
theorem F43_eq (H : AHeap) : F43 [] H = some (.slice (some ⟨H.next, 0, none⟩) 5 5, H.new (.cells lbCells false [] 2)) := id rfl
theorem sp42 : SpOK 42 F42 := by
  refine .of (fn := Tryd.f42) (by kernel_rfl) (by kernel_rfl) ?_
  intro vs H v H' h
  unfold F42 at h
  split at h
  · injection h with h; injection h with h1 h2; subst h1; subst h2
    refine walk s3_ok (fn := Tryd.f42) (by kernel_rfl) (c := Tryd.f42.body.get (by kernel_rfl)) (by kernel_rfl) (by simp [Tryd.f42]) ?_
    simp only [Tryd.f42, Option.get]
    simp only [go_sem, Nat.reduceLT, Nat.reduceEqDiff, ↓reduceIte, Nat.reduceAdd, Nat.zero_add, Nat.add_zero, Nat.reduceLeDiff, Int.reduceEq, Nat.reduceMul, List.take_zero, List.drop_succ_cons, List.drop_zero, List.nil_append, List.append_nil, List.drop_nil, List.take_succ_cons, List.take_nil, List.cons_append, Int.toNat_natCast, Int.toNat_zero, Int.toNat_one, nmCells]
  · cases h
theorem sp43 : SpOK 43 F43 := by
  refine .of (fn := Tryd.f43) (by kernel_rfl) (by kernel_rfl) ?_
  intro vs H v H' h
  unfold F43 at h
  split at h
  · injection h with h; injection h with h1 h2; subst h1; subst h2
    refine walk s3_ok (fn := Tryd.f43) (by kernel_rfl) (c := Tryd.f43.body.get (by kernel_rfl)) (by kernel_rfl) (by simp [Tryd.f43]) ?_
    simp only [Tryd.f43, Option.get]
    simp only [go_sem, Nat.reduceLT, Nat.reduceEqDiff, ↓reduceIte, Nat.reduceAdd, Nat.zero_add, Nat.add_zero, Nat.reduceLeDiff, Int.reduceEq, Nat.reduceMul, List.take_zero, List.drop_succ_cons, List.drop_zero, List.nil_append, List.append_nil, List.drop_nil, List.take_succ_cons, List.take_nil, List.cons_append, Int.toNat_natCast, Int.toNat_zero, Int.toNat_one, lbCells]
  · cases h
def s8 : Specs := spAdd (spAdd s3 42 F42) 43 F43
theorem s8_42 : s8 42 = some F42 := id rfl
theorem s8_43 : s8 43 = some F43 := id rfl
theorem s8_ok : SpsOK s8 := spAdd_ok (spAdd_ok s3_ok sp42) sp43
theorem call42 (H : AHeap) : callS (cxS s8) 42 [] H = some (.slice (some ⟨H.next, 0, none⟩) 5 5, H.new (.cells nmCells false [] 1)) := by rw [callS_cxS s8 (by decide), s8_42]; rfl
theorem call43 (H : AHeap) : callS (cxS s8) 43 [] H = some (.slice (some ⟨H.next, 0, none⟩) 5 5, H.new (.cells lbCells false [] 2)) := by rw [callS_cxS s8 (by decide), s8_43]; rfl
theorem loc42 {H : AHeap} {n : Nat} (hn : H.next = n) : Local (callS (cxS s8) 42 []) H [] [] (.slice (some ⟨n, 0, none⟩) 5 5) (H.new (.cells nmCells false [] 1)) = True := by
  subst hn
  simp only [eq_iff_iff, iff_true]
  exact .new fun E hE => by rw [call42, hE]
theorem loc43 {H : AHeap} {n : Nat} (hn : H.next = n) : Local (callS (cxS s8) 43 []) H [] [] (.slice (some ⟨n, 0, none⟩) 5 5) (H.new (.cells lbCells false [] 2)) = True := by
  subst hn
  simp only [eq_iff_iff, iff_true]
  exact .new fun E hE => by rw [call43, hE]

theorem codeW_any_cut {cx : Cx} {N : Nat} (hc : CxOK cx) {id : Nat} {l : List Oper} {Q : PostW} {τ : Tmps} {H : AHeap} (inf : Info) (hs : statAll l.toArray inf = true) (F : Tmps → AHeap → Prop) (h : Lives cx N τ H → regL cx N l F l inf 0 [] τ H) (k : ∀ τ' H', F τ' H' → Q .normal τ' H') : codeW cx N (.region id l.toArray true) Q τ H := by
  have h1 : codeW cx N (.region id l.toArray true) (fun e τ' H' => e = .normal ∧ F τ' H') τ H := codeW_any hc inf hs fun hL => by
    have : (fun τ' H' => (Exit.normal = Exit.normal ∧ F τ' H')) = F := by funext τ' H'; simp
    show regL cx N l (fun τ' H' => (Exit.normal = Exit.normal ∧ F τ' H')) l inf 0 [] τ H
    rw [this]; exact h hL
  rw [codeW_draws] at h1 ⊢
  exact h1.mono fun e τ' H' ⟨h2, h3⟩ => by subst h2; exact k _ _ h3

/-- A growing row of our own. -/
def RowL (H : AHeap) (lo i : Nat) (s : Value) (n sz : Nat) (cs : List Value) : Prop :=
  (n = 0 ∧ s = .slice none 0 0 ∧ cs = []) ∨ ∃ b par, 0 < n ∧ s = .slice (some ⟨b, 0, none⟩) n (grow + n) ∧ H.get b = some (.cells cs false par sz) ∧ lo ≤ b ∧ b ≠ i ∧ ∀ j ∈ par, lo ≤ j ∧ j ≠ i
theorem RowL.keeps {H H' : AHeap} {lo i n sz : Nat} {s : Value} {cs : List Value} (h : RowL H lo i s n sz cs) (k : Keeps [] H H') : RowL H' lo i s n sz cs := by
  rcases h with h | ⟨b, par, h1, h2, h3, h4⟩
  · exact .inl h
  · exact .inr ⟨b, par, h1, h2, k.get h3 (by simp), h4⟩
theorem RowL.slc {α : Type} {f : α → List Value} {H : AHeap} {lo i sz : Nat} {s : Value} {l : List α} (h : RowL H lo i s l.length sz (l.flatMap f)) (hf : ∀ a, (f a).length = sz) : SlcE H s f sz l := by
  rcases h with ⟨h1, h2, h3⟩ | ⟨b, par, h1, h2, h3, h4⟩
  · exact .inl ⟨List.length_eq_zero_iff.1 h1, h2⟩
  · refine .inr ⟨b, _, _, _, _, _, h2, h3, fun k a ha => ?_⟩
    exact flat_at hf l k a ha
/-- One more at a row's end. -/
theorem app_row {H : AHeap} {lo i n sz by_ : Nat} {s : Value} {cs vs : List Value} (h : RowL H lo i s n sz cs) (hl : n * sz = cs.length) (hv : vs.all one = true) (hb : (n + 1) * by_ ≤ 140737488355328) (hn : n < grow) (hi : i < H.next) (hlo : lo ≤ H.next) :
    ∃ s' H', appW sz by_ s (some (1, vs)) H = some (s', H') ∧ RowL H' lo i s' (n + 1) sz (cs ++ vs) ∧ H.next < H'.next ∧ ∀ j, j < H.next → (j < lo ∨ j = i ∨ ∀ cs par, H.get j ≠ some (.cells cs false par sz)) → H'.get j = H.get j := by
  rcases h with ⟨rfl, rfl, rfl⟩ | ⟨b, par, h1, rfl, h3, h4, h5, h6⟩
  · refine ⟨_, _, appW_nil (by omega) (by omega) hv, .inr ⟨H.next, [], by omega, rfl, get_new_self _ _, hlo, by omega, by simp⟩, by simp, fun j hj _ => get_new_old _ hj⟩
  · have hb' := AHeap.get_lt h3
    refine ⟨_, _, appW_more (by omega) h3 hl (by omega) hn, .inr ⟨H.next, b :: par, by omega, rfl, get_new_self _ _, hlo, by omega, ?_⟩, by simp, fun j hj hc => ?_⟩
    · intro j hj
      rcases List.mem_cons.1 hj with rfl | hj
      · exact ⟨h4, h5⟩
      · exact h6 j hj
    rw [get_new_old _ (by simpa using hj), get_set_ne _ ?_ hb']
    rcases hc with hc | hc | hc
    · omega
    · omega
    · intro e; subst e; exact hc _ _ h3

/-- Two marks held against each other. -/
@[go_sem] theorem eql48 (ox oy : Operand) (H : AHeap) (a b c d : Int) : aBinF Tryd.prog tb .eql 48 ox oy (.agg #[.int .u8 a, .int .u16 b]) (.agg #[.int .u8 c, .int .u16 d]) H = some (.bool ((a == c) && (b == d))) := by
  have hq : prun Tryd.prog (eqGuard .eql 48 ox oy (.agg #[.int .u8 a, .int .u16 b]) (.agg #[.int .u8 c, .int .u16 d])) = some () := by
    have : (Tryd.prog).eqGuardType (Tryd.prog).depth 48 = false := by kernel_rfl
    unfold eqGuard
    simp [this]
  have e : prun Tryd.prog (do eqGuard .eql 48 ox oy (.agg #[.int .u8 a, .int .u16 b]) (.agg #[.int .u8 c, .int .u16 d]); binOp .eql 48 (.agg #[.int .u8 a, .int .u16 b]) (.agg #[.int .u8 c, .int .u16 d])) = some (.bool ((a == c) && (b == d))) := by
    simp only [prun_bind, hq, Option.bind_some]
    have h2 : binOp .eql 48 (.agg #[.int .u8 a, .int .u16 b]) (.agg #[.int .u8 c, .int .u16 d]) = (do pure (.bool (← Op.equal 48 (.agg #[.int .u8 a, .int .u16 b]) (.agg #[.int .u8 c, .int .u16 d])))) := rfl
    rw [h2]
    simp only [prun_bind, eq48, Option.bind_some, prun_pure]
  unfold aBinF aBin
  rw [if_pos (by rfl), e]
  rfl
theorem get_dels1 {H : AHeap} {l : List Nat} {j : Nat} (h : j ∉ l) : (H.dels l).get j = H.get j := by rw [AHeap.get_dels, if_neg h]

def sizeCells (a : Int) (arr : List Int) (sl : Value) : List Value := .int .u8 a :: (arr.map (Value.int .u8) ++ [sl])
def mkReg (many : Int) (k : Nat) (b0 b1 b2 b3 b4 clear : Int) : RegD := ⟨nmB k, lbL k, lbC k, 8 + b0.tmod 60, 8 + 2 * b1.tmod 12, 4 + b2.tmod 40, 1 + b3.tmod 6, 2 + b4.tmod 14, clear⟩
def clr0 (many k : Nat) : Int := if many = 2 then 1 else if many < 4 ∧ 0 < k then k else (many : Int) - 1
def preReg (many : Nat) (arr : List Int) (k : Nat) : RegD := mkReg many k (arr.getD (k * 5) 0) (arr.getD (k * 5 + 1) 0) (arr.getD (k * 5 + 2) 0) (arr.getD (k * 5 + 3) 0) (arr.getD (k * 5 + 4) 0) (clr0 many k)
def preRegs (many : Nat) (arr : List Int) (k : Nat) : List RegD := (List.range k).map (preReg many arr)
theorem preRegs_succ (many : Nat) (arr : List Int) (k : Nat) : preRegs many arr (k + 1) = preRegs many arr k ++ [preReg many arr k] := by
  unfold preRegs; rw [List.range_succ, List.map_append]; rfl
def clr (many k : Nat) : Int := if many = 3 ∧ k = 0 then 1 else clr0 many k
def finReg (many : Nat) (arr : List Int) (k : Nat) : RegD := { preReg many arr k with clear := clr many k }
def finRegs (many : Nat) (arr : List Int) : List RegD := (List.range many).map (finReg many arr)
theorem finRegs_ne {many : Nat} (arr : List Int) (h : many ≠ 3) : finRegs many arr = preRegs many arr many := by
  unfold finRegs preRegs
  apply List.map_congr_left
  intro k _
  have : clr many k = clr0 many k := by unfold clr; rw [if_neg (by omega)]
  unfold finReg
  rw [this]; rfl
def markOf (many : Int) (x : Int) : Int × Int := (x.tmod many, 4 + (x.tdiv 8).tmod 4)
def marksOf (many : Int) : List Int → Nat → List (Int × Int) → List (Int × Int)
  | [], _, acc => acc
  | x :: l, k, acc => if 8 < k ∨ (acc.any fun y => (y.1 == (markOf many x).1) && (y.2 == (markOf many x).2)) = true then marksOf many l (k + 1) acc else marksOf many l (k + 1) (acc ++ [markOf many x])
theorem size_b {arr : List Int} (h : arr.length = 25) (hb : ∀ x ∈ arr, 0 ≤ x ∧ x ≤ 255) (a : Int) (sl : Value) {k : Nat} (hk : k < 5) : ∃ b0 b1 b2 b3 b4 : Int, (0 ≤ b0 ∧ b0 ≤ 255) ∧ (0 ≤ b1 ∧ b1 ≤ 255) ∧ (0 ≤ b2 ∧ b2 ≤ 255) ∧ (0 ≤ b3 ∧ b3 ≤ 255) ∧ (0 ≤ b4 ∧ b4 ≤ 255) ∧
    arr.getD (k * 5) 0 = b0 ∧ arr.getD (k * 5 + 1) 0 = b1 ∧ arr.getD (k * 5 + 2) 0 = b2 ∧ arr.getD (k * 5 + 3) 0 = b3 ∧ arr.getD (k * 5 + 4) 0 = b4 ∧
    ((sizeCells a arr sl).drop (1 + k * 5)).take 5 = [.int .u8 b0, .int .u8 b1, .int .u8 b2, .int .u8 b3, .int .u8 b4] ∧ 1 + k * 5 + 5 ≤ (sizeCells a arr sl).length := by
  have g : ∀ j, j < 25 → 0 ≤ arr.getD j 0 ∧ arr.getD j 0 ≤ 255 := fun j hj => by
    rw [List.getD_eq_getElem?_getD, List.getElem?_eq_getElem (by omega)]
    exact hb _ (List.getElem_mem _)
  refine ⟨_, _, _, _, _, g (k * 5) (by omega), g (k * 5 + 1) (by omega), g (k * 5 + 2) (by omega), g (k * 5 + 3) (by omega), g (k * 5 + 4) (by omega), rfl, rfl, rfl, rfl, rfl, ?_, ?_⟩
  · have e : ∀ j, j < 25 → (arr.map (Value.int .u8) ++ [sl])[j]? = some (.int .u8 (arr.getD j 0)) := fun j hj => by
      rw [List.getElem?_append_left (by simp; omega), List.getElem?_map, List.getD_eq_getElem?_getD, List.getElem?_eq_getElem (by omega)]; rfl
    unfold sizeCells
    rw [Nat.add_comm 1, List.drop_succ_cons]
    apply List.ext_getElem?
    intro j
    rcases Nat.lt_or_ge j 5 with hj | hj
    · rw [List.getElem?_take_of_lt hj, List.getElem?_drop, e _ (by omega)]
      rcases j with _ | _ | _ | _ | _ | j <;> first | rfl | omega
    · rw [List.getElem?_eq_none (by simp; omega), List.getElem?_eq_none (by simpa using hj)]
  · simp [sizeCells, h]; omega
end Go.Proofs.YtkjclebafpomhaaDoor
