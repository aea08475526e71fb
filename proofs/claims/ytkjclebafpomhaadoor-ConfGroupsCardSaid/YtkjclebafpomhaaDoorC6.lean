/- Contracts: (*conf.Conf).add. -/
import Derived.Test.YtkjclebafpomhaaDoorC5
set_option linter.unusedVariables false
set_option linter.unusedSimpArgs false
set_option maxRecDepth 100000
namespace Go.Proofs.YtkjclebafpomhaaDoor
open Go Go.Eng

def s6 : Specs := spAdd (spAdd (spAdd (spAdd sp0 93 F93) 92 F92) 91 F91) 90 F90
theorem s6_93 : s6 93 = some F93 := id rfl
theorem s6_92 : s6 92 = some F92 := id rfl
theorem s6_91 : s6 91 = some F91 := id rfl
theorem s6_90 : s6 90 = some F90 := id rfl
theorem s6_ok : SpsOK s6 := spAdd_ok (spAdd_ok (spAdd_ok (spAdd_ok sp0_ok sp93) sp92) sp91) sp90

/-- A row that append made. -/
def RowS (H : AHeap) (lo i : Nat) (s : Value) (n sz : Nat) (cs : List Value) : Prop :=
  (n = 0 ∧ s = .slice none 0 0 ∧ cs = []) ∨ ∃ b par, 0 < n ∧ s = .slice (some ⟨b, 0, none⟩) n (grow + n) ∧ H.get b = some (.cells cs false par sz) ∧ lo ≤ b ∧ b ≠ i
/-- A configuration that is being made. -/
structure ConfK (H : AHeap) (lo i : Nat) (regs : List RegD) (geos : List GeoD) (total : Int) : Prop where
  all : ∃ it inn il sr sg, H.get i = some (.cells [sr, .map (some it), .slice none 0 0, .map (some inn), .map (some il), sg, .int .i64 total] false [] 0) ∧ H.get it = some (.map [] 0 false) ∧
    H.get inn = some (.map (ents .string (regs.map (·.name))) regs.length false) ∧ H.get il = some (.map (ents labV (regs.map fun r => (r.lev, r.cats))) regs.length false) ∧
    RowS H lo i sr regs.length 9 (regs.flatMap RegD.cells) ∧ RowS H lo i sg geos.length 6 (geos.flatMap GeoD.cells) ∧ lo ≤ it ∧ lo ≤ inn ∧ lo ≤ il ∧ it ≠ inn ∧ it ≠ il ∧ inn ≠ il
  low : lo ≤ i
  same : geos.length = regs.length
theorem codeW_forget {cx : Cx} {N : Nat} {c : Code} {Q : PostW} {τ : Tmps} {H : AHeap} (F : Tmps → AHeap → Prop) (hF : F τ H) (h : ∀ τ' H', F τ' H' → codeW cx N c Q τ' H') : codeW cx N c Q τ H := h _ _ hF
theorem RowS.keep {H H' : AHeap} {lo i n sz : Nat} {s : Value} {cs : List Value} (h : RowS H lo i s n sz cs) (k : ∀ b, H.get b = some (.cells cs false (match H.get b with | some o => o.par | none => []) sz) → lo ≤ b → b ≠ i → H'.get b = H.get b) : RowS H' lo i s n sz cs := by
  rcases h with h | ⟨b, par, h1, h2, h3, h4, h5⟩
  · exact .inl h
  · exact .inr ⟨b, par, h1, h2, by rw [k b (by rw [h3]; rfl) h4 h5]; exact h3, h4, h5⟩
structure KeepLo (lo : Nat) (H H' : AHeap) : Prop where
  le : H.next ≤ H'.next
  old : ∀ j, j < lo → H'.get j = H.get j
def w64 (n : Int) : Int := IntKind.wrap .i64 n
def geoOf (total : Int) (r : RegD) : GeoD :=
  { base := total, bitmap := w64 ((w64 (w64 (r.blocks + 512) - 1)).tdiv 512), table := w64 ((w64 (w64 (w64 (r.nodes * 32) + 64) - 1)).tdiv 64),
    data := w64 (w64 (total + w64 ((w64 (w64 (r.blocks + 512) - 1)).tdiv 512)) + w64 ((w64 (w64 (w64 (r.nodes * 32) + 64) - 1)).tdiv 64)), blocks := r.blocks, nodes := r.nodes }
def addErr (many : Int) (regs : List RegD) (r : RegD) : Int :=
  if nameB r.name = false then 30 else if decide (r.lev ≤ 15) = false then 27 else if r.sound = false then 27 else if (decide (0 ≤ r.clear) && decide (r.clear ≤ w64 (many - 1))) = false then 27 else
  if ((regs.map (·.name)).any fun x => r.name == x) = true then 29 else if ((regs.map fun r => (r.lev, r.cats)).any fun x => (r.lev == x.1) && (r.cats == x.2)) = true then 29 else 0
def inf44_5 : Info := [([0], [], false), ([36], [], false), ([37], [], false), ([38], [], false), ([6], [0, 1, 2, 3], false), ([40], [0, 1, 2, 3], false), ([39, 41], [], false), ([42], [], false), ([35], [], false), ([35], [8], false), ([43], [9], false), ([44], [], false)]
def inf44_8 : Info := [([0], [], false), ([47], [], false), ([48], [], false), ([49], [], false), ([6], [0, 1, 2, 3], false), ([51], [0, 1, 2, 3], false), ([50, 52], [], false), ([53], [], false), ([46], [], false), ([46], [8], false), ([54], [9], false), ([55], [], false)]
def inf44_11 : Info := [([0], [], false), ([57], [], false), ([58], [], false), ([59], [], false), ([6], [0, 1, 2, 3], false), ([61], [0, 1, 2, 3], false), ([0], [0, 1, 2, 3, 4, 5], false), ([63], [0, 1, 2, 3, 4, 5], false), ([64], [0, 1, 2, 3, 4, 5], false), ([65], [0, 1, 2, 3, 4, 5], false), ([6], [0, 1, 2, 3, 4, 5, 6, 7, 8, 9], false), ([67], [0, 1, 2, 3, 4, 5, 6, 7, 8, 9], false), ([1], [0, 1, 2, 3, 4, 5, 6, 7, 8, 9, 10, 11], false), ([1], [0, 1, 2, 3, 4, 5, 6, 7, 8, 9, 10, 11, 12], false), ([60, 62], [10, 11, 12, 13], false), ([71], [10, 11, 12, 13], false), ([60, 72, 69], [10, 11, 13], false), ([66, 68], [13], false), ([73], [13], false), ([66, 74, 70], [], false)]
def inf44_12 : Info := [([0], [], false), ([75], [], false), ([76], [], false), ([77], [], false), ([6], [0, 1, 2, 3], false), ([79], [0, 1, 2, 3], false), ([80], [0, 1, 2, 3], false), ([81], [0, 1, 2, 3], false), ([82], [0, 1, 2, 3], false), ([6], [0, 1, 2, 3, 4, 5, 6, 7, 8], false), ([84], [0, 1, 2, 3, 4, 5, 6, 7, 8], false), ([85], [0, 1, 2, 3, 4, 5, 6, 7, 8], false), ([86], [0, 1, 2, 3, 4, 5, 6, 7, 8], false), ([87], [0, 1, 2, 3, 4, 5, 6, 7, 8], false), ([88], [0, 1, 2, 3, 4, 5, 6, 7, 8], false), ([6], [0, 1, 2, 3, 4, 5, 6, 7, 8, 9, 10, 11, 12, 13, 14], false), ([90], [0, 1, 2, 3, 4, 5, 6, 7, 8, 9, 10, 11, 12, 13, 14], false), ([6], [0, 1, 2, 3, 4, 5, 6, 7, 8, 9, 10, 11, 12, 13, 14, 15, 16], false), ([92], [0, 1, 2, 3, 4, 5, 6, 7, 8, 9, 10, 11, 12, 13, 14, 15, 16], false), ([78, 83, 89, 91, 93], [], false), ([], [0, 1, 2, 3, 4, 5, 6, 7, 8, 9, 10, 11, 12, 13, 14, 15, 16, 17, 18, 19], false), ([13, 94], [], false)]
def inf44_14 : Info := [([0], [], false), ([0], [0], false), ([0], [0, 1], false), ([0], [0, 1, 2], false), ([107], [0, 1, 2], false), ([108], [0, 1, 2], false), ([109], [0, 1, 2], false), ([6], [0, 1, 2, 3, 4, 5, 6], false), ([111], [0, 1, 2, 3, 4, 5, 6], false), ([110, 112], [0, 1, 2], false), ([0], [0, 1, 2, 3, 4, 5, 6, 7, 8, 9], false), ([114], [0, 1, 2, 3, 4, 5, 6, 7, 8, 9], false), ([115], [0, 1, 2, 3, 4, 5, 6, 7, 8, 9], false), ([116], [0, 1, 2, 3, 4, 5, 6, 7, 8, 9], false), ([13], [0, 1, 2, 3, 4, 5, 6, 7, 8, 9, 10, 11, 12, 13], false), ([118], [0, 1, 2, 3, 4, 5, 6, 7, 8, 9, 10, 11, 12, 13], false), ([117, 119], [0, 1, 2], false), ([13], [0, 1, 2, 3, 4, 5, 6, 7, 8, 9, 10, 11, 12, 13, 14, 15, 16], false), ([121], [0, 1, 2, 3, 4, 5, 6, 7, 8, 9, 10, 11, 12, 13, 14, 15, 16], false), ([6], [0, 1, 2, 3, 4, 5, 6, 7, 8, 9, 10, 11, 12, 13, 14, 15, 16, 17, 18], false), ([123], [0, 1, 2, 3, 4, 5, 6, 7, 8, 9, 10, 11, 12, 13, 14, 15, 16, 17, 18], false), ([122, 124], [0, 1, 2, 3, 4, 5, 6, 7, 8, 9, 10, 11, 12, 13, 14, 15, 16], false), ([104], [1, 2, 17, 18, 19, 20, 21], false), ([126], [1, 2, 17, 18, 19, 20, 21], false), ([127, 113], [1, 2, 17, 18, 19, 20, 21], false), ([105], [2, 17, 18, 19, 20, 21], false), ([128], [2, 17, 18, 19, 20, 21], false), ([129, 120], [2, 17, 18, 19, 20, 21], false), ([106], [], false), ([130], [], false), ([131, 125], [], false)]
set_option maxHeartbeats 2000000 in
theorem add_c {H : AHeap} {lo i : Nat} {regs : List RegD} {geos : List GeoD} {total : Int} (hC : ConfK H lo i regs geos total) (hk : regs.length ≤ 64) (r : RegD) (many : Int) :
    ACalls Tryd.prog 4 44 [.pointer (some ⟨i, 0, none⟩), .int .i64 regs.length, .agg r.cells.toArray, .int .i64 many] H fun v H' =>
      v = .int .i64 (addErr many regs r) ∧ KeepLo lo H H' ∧ (addErr many regs r = 0 → ConfK H' lo i (regs ++ [r]) (geos ++ [geoOf total r]) (w64 ((geoOf total r).data + r.blocks))) := by
  obtain ⟨⟨it, inn, il, sr, sg, hrow, hit, hinn, hil, hsr, hsg, l1, l2, l3, d1, d2, d3⟩, hlow, hsame⟩ := hC
  have hi : i < H.next := AHeap.get_lt hrow
  have hit' : it < H.next := AHeap.get_lt hit
  have hinn' : inn < H.next := AHeap.get_lt hinn
  have hil' : il < H.next := AHeap.get_lt hil
  have n1 : i ≠ it := fun e => by rw [e, hit] at hrow; cases hrow
  have n2 : i ≠ inn := fun e => by rw [e, hinn] at hrow; cases hrow
  have n3 : i ≠ il := fun e => by rw [e, hil] at hrow; cases hrow
  refine walk s6_ok (fn := Tryd.f44) (by kernel_rfl) (c := Tryd.f44.body.get (by kernel_rfl)) (by kernel_rfl) (by simp [Tryd.f44]) ?_
  obtain ⟨rname, rlev, rcats, rblocks, rnodes, rframes, rprocs, ropens, rclear⟩ := r
  have q1 : H.next ≠ i := by omega
  have q2 : H.next ≠ it := by omega
  have q3 : H.next ≠ inn := by omega
  have q4 : H.next ≠ il := by omega
  have keep0 : ∀ o, KeepLo lo H (H.new o) := fun o => ⟨by simp, fun j hj => by rw [AHeap.get_new, if_neg (by omega)]⟩
  simp only [Tryd.f44, Option.get, RegD.cells]
  cases c1 : nameB rname
  · have hv : addErr many regs ⟨rname, rlev, rcats, rblocks, rnodes, rframes, rprocs, ropens, rclear⟩ = 30 := by unfold addErr; rw [if_pos c1]
    simp only [go_sem, Nat.reduceLT, Nat.reduceEqDiff, ↓reduceIte, Nat.reduceAdd, Nat.zero_add, Nat.add_zero, Nat.reduceLeDiff, Int.reduceEq, Nat.reduceMul, List.take_zero, List.drop_succ_cons, List.drop_zero, List.nil_append, List.append_nil, List.drop_nil, List.take_succ_cons, List.take_nil, List.cons_append, Int.toNat_natCast, Int.toNat_zero, Int.toNat_one, s6_90, F90_eq, fn_ex, c1, hv, keep0]
  cases c2 : decide (rlev ≤ 15)
  · have hv : addErr many regs ⟨rname, rlev, rcats, rblocks, rnodes, rframes, rprocs, ropens, rclear⟩ = 27 := by unfold addErr; rw [if_neg (by simp [c1]), if_pos c2]
    simp only [go_sem, Nat.reduceLT, Nat.reduceEqDiff, ↓reduceIte, Nat.reduceAdd, Nat.zero_add, Nat.add_zero, Nat.reduceLeDiff, Int.reduceEq, Nat.reduceMul, List.take_zero, List.drop_succ_cons, List.drop_zero, List.nil_append, List.append_nil, List.drop_nil, List.take_succ_cons, List.take_nil, List.cons_append, Int.toNat_natCast, Int.toNat_zero, Int.toNat_one, s6_90, F90_eq, s6_91, F91_eq, fn_ex, c1, c2, hv, keep0]
  cases c3 : (RegD.mk rname rlev rcats rblocks rnodes rframes rprocs ropens rclear).sound
  · have hv : addErr many regs ⟨rname, rlev, rcats, rblocks, rnodes, rframes, rprocs, ropens, rclear⟩ = 27 := by unfold addErr; rw [if_neg (by simp [c1]), if_neg (by simp [c2]), if_pos c3]
    simp only [go_sem, Nat.reduceLT, Nat.reduceEqDiff, ↓reduceIte, Nat.reduceAdd, Nat.zero_add, Nat.add_zero, Nat.reduceLeDiff, Int.reduceEq, Nat.reduceMul, List.take_zero, List.drop_succ_cons, List.drop_zero, List.nil_append, List.append_nil, List.drop_nil, List.take_succ_cons, List.take_nil, List.cons_append, Int.toNat_natCast, Int.toNat_zero, Int.toNat_one, s6_90, F90_eq, s6_91, F91_eq, s6_92, F92_eq, fn_ex, c1, c2, c3, hv, keep0]
  cases c4 : (decide (0 ≤ rclear) && decide (rclear ≤ IntKind.wrap .i64 (many - 1)))
  · have hv : addErr many regs ⟨rname, rlev, rcats, rblocks, rnodes, rframes, rprocs, ropens, rclear⟩ = 27 := by unfold addErr w64; rw [if_neg (by simp [c1]), if_neg (by simp [c2]), if_neg (by simp [c3]), if_pos c4]
    simp only [go_sem, Nat.reduceLT, Nat.reduceEqDiff, ↓reduceIte, Nat.reduceAdd, Nat.zero_add, Nat.add_zero, Nat.reduceLeDiff, Int.reduceEq, Nat.reduceMul, List.take_zero, List.drop_succ_cons, List.drop_zero, List.nil_append, List.append_nil, List.drop_nil, List.take_succ_cons, List.take_nil, List.cons_append, Int.toNat_natCast, Int.toNat_zero, Int.toNat_one, s6_90, F90_eq, s6_91, F91_eq, s6_92, F92_eq, s6_93, F93_eq, fn_ex, c1, c2, c3, c4, hv, keep0]
  simp only [go_sem, Nat.reduceLT, Nat.reduceEqDiff, ↓reduceIte, Nat.reduceAdd, Nat.zero_add, Nat.add_zero, Nat.reduceLeDiff, Int.reduceEq, Nat.reduceMul, List.take_zero, List.drop_succ_cons, List.drop_zero, List.nil_append, List.append_nil, List.drop_nil, List.take_succ_cons, List.take_nil, List.cons_append, Int.toNat_natCast, Int.toNat_zero, Int.toNat_one, s6_90, F90_eq, s6_91, F91_eq, s6_92, F92_eq, s6_93, F93_eq, fn_ex, c1, c2, c3, c4]
  refine codeW_any (cxS_ok s6_ok) inf44_5 (by kernel_rfl) fun _ => ?_
  have g1 : ∀ o, (H.new o).get inn = some (.map (ents .string (regs.map (·.name))) regs.length false) := fun o => by rw [get_new_old o hinn']; exact hinn
  have g2 : ∀ o, (H.new o).get il = some (.map (ents labV (regs.map fun r => (r.lev, r.cats))) regs.length false) := fun o => by rw [get_new_old o hil']; exact hil
  obtain ⟨v1, hv1⟩ := look97 (g1 (.cells [.string rname, .int .u8 rlev, .int .u16 rcats, .int .i64 rblocks, .int .i64 rnodes, .int .i64 rframes, .int .i64 rprocs, .int .i64 ropens, .int .i64 rclear] false [] 0)) rname
  obtain ⟨v2, hv2⟩ := look98 (g2 (.cells [.string rname, .int .u8 rlev, .int .u16 rcats, .int .i64 rblocks, .int .i64 rnodes, .int .i64 rframes, .int .i64 rprocs, .int .i64 ropens, .int .i64 rclear] false [] 0)) rlev rcats
  cases c5 : (List.map (fun x => x.name) regs).any fun x => rname == x
  rotate_left
  · have hv : addErr many regs ⟨rname, rlev, rcats, rblocks, rnodes, rframes, rprocs, ropens, rclear⟩ = 29 := by unfold addErr w64; rw [if_neg (by simp [c1]), if_neg (by simp [c2]), if_neg (by simp [c3]), if_neg (by simp [c4]), if_pos c5]
    simp only [inf44_5, go_sem, Nat.reduceLT, Nat.reduceEqDiff, ↓reduceIte, Nat.reduceAdd, Nat.zero_add, Nat.add_zero, Nat.reduceLeDiff, Int.reduceEq, Nat.reduceMul, List.take_zero, List.drop_succ_cons, List.drop_zero, List.nil_append, List.append_nil, List.drop_nil, List.take_succ_cons, List.take_nil, List.cons_append, Int.toNat_natCast, Int.toNat_zero, Int.toNat_one, hrow, hi, hv1, c5, hv, keep0]
    done
  simp only [inf44_5, go_sem, Nat.reduceLT, Nat.reduceEqDiff, ↓reduceIte, Nat.reduceAdd, Nat.zero_add, Nat.add_zero, Nat.reduceLeDiff, Int.reduceEq, Nat.reduceMul, List.take_zero, List.drop_succ_cons, List.drop_zero, List.nil_append, List.append_nil, List.drop_nil, List.take_succ_cons, List.take_nil, List.cons_append, Int.toNat_natCast, Int.toNat_zero, Int.toNat_one, hrow, hi, hv1, c5]
  refine codeW_any (cxS_ok s6_ok) inf44_8 (by kernel_rfl) fun _ => ?_
  cases c6 : (List.map (fun r => (r.lev, r.cats)) regs).any fun x => rlev == x.1 && rcats == x.2
  rotate_left
  · have hv : addErr many regs ⟨rname, rlev, rcats, rblocks, rnodes, rframes, rprocs, ropens, rclear⟩ = 29 := by unfold addErr w64; rw [if_neg (by simp [c1]), if_neg (by simp [c2]), if_neg (by simp [c3]), if_neg (by simp [c4]), if_neg (by simp only [c5]; simp), if_pos c6]
    simp only [inf44_8, go_sem, Nat.reduceLT, Nat.reduceEqDiff, ↓reduceIte, Nat.reduceAdd, Nat.zero_add, Nat.add_zero, Nat.reduceLeDiff, Int.reduceEq, Nat.reduceMul, List.take_zero, List.drop_succ_cons, List.drop_zero, List.nil_append, List.append_nil, List.drop_nil, List.take_succ_cons, List.take_nil, List.cons_append, Int.toNat_natCast, Int.toNat_zero, Int.toNat_one, hrow, hi, hv2, c6, hv, keep0]
    done
  have hv : addErr many regs ⟨rname, rlev, rcats, rblocks, rnodes, rframes, rprocs, ropens, rclear⟩ = 0 := by
    unfold addErr w64; rw [if_neg (by simp [c1]), if_neg (by simp [c2]), if_neg (by simp [c3]), if_neg (by simp [c4]), if_neg (by simp only [c5]; simp), if_neg (by simp only [c6]; simp)]
  simp only [inf44_8, go_sem, Nat.reduceLT, Nat.reduceEqDiff, ↓reduceIte, Nat.reduceAdd, Nat.zero_add, Nat.add_zero, Nat.reduceLeDiff, Int.reduceEq, Nat.reduceMul, List.take_zero, List.drop_succ_cons, List.drop_zero, List.nil_append, List.append_nil, List.drop_nil, List.take_succ_cons, List.take_nil, List.cons_append, Int.toNat_natCast, Int.toNat_zero, Int.toNat_one, hrow, hi, hv2, c6]
  refine codeW_any (cxS_ok s6_ok) inf44_11 (by kernel_rfl) fun _ => ?_
  have hl : ∀ {β : Type} (f : RegD → β), (regs.map f).length = regs.length := fun f => by simp
  have e1 := fun o => entry97 (l := regs.map (·.name)) (by rw [hl]; exact g1 o) c5
  simp only [hl] at e1
  have e2 := fun o o1 ck => estore (H := (H.new o).set inn (.map (ents .string (regs.map (·.name)) ++ [{ key := .string rname, val := .int .i64 0, born := regs.length }]) ck)) (r := inn) (ck := ck) (kf := .string) (l := regs.map (·.name)) (k := .string rname) (v0 := .int .i64 0) (v := .int .i64 o1)
    (by rw [AHeap.get_set _ _ _ _ (by simp; omega), if_pos rfl, hl])
  simp only [hl] at e2
  have g3 : ∀ o o1 o2, (((H.new o).set inn o1).set inn o2).get il = some (.map (ents labV (regs.map fun r => (r.lev, r.cats))) regs.length false) := fun o o1 o2 => by
    rw [get_set_ne _ (Ne.symm d3) (by simp; omega), get_set_ne _ (Ne.symm d3) (by simp; omega)]; exact g2 o
  have e3 := fun o o1 o2 => entry98 (l := regs.map fun r => (r.lev, r.cats)) (by rw [hl]; exact g3 o o1 o2) c6
  simp only [hl] at e3
  have e4 := fun o o1 o2 o3 ck => estore (H := (((H.new o).set inn o1).set inn o2).set il (.map (ents labV (regs.map fun r => (r.lev, r.cats)) ++ [{ key := .agg #[.int .u8 rlev, .int .u16 rcats], val := .int .i64 0, born := regs.length }]) ck)) (r := il) (ck := ck) (kf := labV) (l := regs.map fun r => (r.lev, r.cats)) (k := .agg #[.int .u8 rlev, .int .u16 rcats]) (v0 := .int .i64 0) (v := .int .i64 o3)
    (by rw [AHeap.get_set _ _ _ _ (by simp; omega), if_pos rfl, hl])
  simp only [hl] at e4
  simp only [inf44_11, go_sem, Nat.reduceLT, Nat.reduceEqDiff, ↓reduceIte, Nat.reduceAdd, Nat.zero_add, Nat.add_zero, Nat.reduceLeDiff, Int.reduceEq, Nat.reduceMul, List.take_zero, List.drop_succ_cons, List.drop_zero, List.nil_append, List.append_nil, List.drop_nil, List.take_succ_cons, List.take_nil, List.cons_append, Int.toNat_natCast, Int.toNat_zero, Int.toNat_one, hrow, hi, e1, e2, e3, e4, n1, n2, n3, Ne.symm n1, Ne.symm n2, Ne.symm n3, d3, Ne.symm d3, hinn', hil', q1, q2, q3, q4]
  have hmap : ∀ (b : Nat) (cs : List Value) (ro : Bool) (par : List Nat) (sz : Nat), H.get b = some (.cells cs ro par sz) → b ≠ inn ∧ b ≠ il ∧ b ≠ it := fun b cs ro par sz hb =>
    ⟨(fun e => by rw [e, hinn] at hb; cases hb), (fun e => by rw [e, hil] at hb; cases hb), (fun e => by rw [e, hit] at hb; cases hb)⟩
  refine codeW_forget (fun τ X => tget τ 0 = .pointer (some ⟨i, 0, none⟩) ∧ tget τ 6 = .pointer (some ⟨H.next, 0, none⟩) ∧ X.next = H.next + 1 ∧
    X.get H.next = some (.cells [.string rname, .int .u8 rlev, .int .u16 rcats, .int .i64 rblocks, .int .i64 rnodes, .int .i64 rframes, .int .i64 rprocs, .int .i64 ropens, .int .i64 rclear] false [] 0) ∧
    X.get i = some (.cells [sr, .map (some it), .slice none 0 0, .map (some inn), .map (some il), sg, .int .i64 total] false [] 0) ∧ X.get it = some (.map [] 0 false) ∧
    X.get inn = some (.map (ents .string (regs.map (·.name)) ++ [{ key := .string rname, val := .int .i64 regs.length, born := regs.length }]) (regs.length + 1) false) ∧
    X.get il = some (.map (ents labV (regs.map fun r => (r.lev, r.cats)) ++ [{ key := .agg #[.int .u8 rlev, .int .u16 rcats], val := .int .i64 regs.length, born := regs.length }]) (regs.length + 1) false) ∧
    (∀ b cs ro par sz, H.get b = some (.cells cs ro par sz) → X.get b = H.get b) ∧ KeepLo lo H X) ?_ ?_
  · refine ⟨?_, ?_, ?_, ?_, ?_, ?_, ?_, ?_, ?_, ?_, ?_⟩
    · simp only [go_sem, Nat.reduceLT, Nat.reduceEqDiff, ↓reduceIte, Nat.reduceAdd, Nat.zero_add, Nat.add_zero, Nat.reduceLeDiff, Int.reduceEq, Nat.reduceMul]
    · simp only [go_sem, Nat.reduceLT, Nat.reduceEqDiff, ↓reduceIte, Nat.reduceAdd, Nat.zero_add, Nat.add_zero, Nat.reduceLeDiff, Int.reduceEq, Nat.reduceMul]
    · simp only [go_sem, Nat.reduceLT, Nat.reduceEqDiff, ↓reduceIte, Nat.reduceAdd, Nat.zero_add, Nat.add_zero, Nat.reduceLeDiff, Int.reduceEq, Nat.reduceMul]
    · simp only [go_sem, Nat.reduceLT, Nat.reduceEqDiff, ↓reduceIte, Nat.reduceAdd, Nat.zero_add, Nat.add_zero, Nat.reduceLeDiff, Int.reduceEq, Nat.reduceMul, hinn', hil', Nat.ne_of_gt hinn', Nat.ne_of_gt hil']
    · simp only [go_sem, Nat.reduceLT, Nat.reduceEqDiff, ↓reduceIte, Nat.reduceAdd, Nat.zero_add, Nat.add_zero, Nat.reduceLeDiff, Int.reduceEq, Nat.reduceMul, hinn', hil', n1, n2, n3, hi, hrow]
    · simp only [go_sem, Nat.reduceLT, Nat.reduceEqDiff, ↓reduceIte, Nat.reduceAdd, Nat.zero_add, Nat.add_zero, Nat.reduceLeDiff, Int.reduceEq, Nat.reduceMul, hinn', hil', d1, d2, hit', hit]
    · simp only [go_sem, Nat.reduceLT, Nat.reduceEqDiff, ↓reduceIte, Nat.reduceAdd, Nat.zero_add, Nat.add_zero, Nat.reduceLeDiff, Int.reduceEq, Nat.reduceMul, hinn', hil', d3, hit', hit]
    · simp only [go_sem, Nat.reduceLT, Nat.reduceEqDiff, ↓reduceIte, Nat.reduceAdd, Nat.zero_add, Nat.add_zero, Nat.reduceLeDiff, Int.reduceEq, Nat.reduceMul, hinn', hil', d3, hit', hit]
    · intro b cs ro par sz hb
      obtain ⟨m1, m2, m3⟩ := hmap b cs ro par sz hb
      have hbl := AHeap.get_lt hb
      simp only [go_sem, Nat.reduceLT, Nat.reduceEqDiff, ↓reduceIte, Nat.reduceAdd, Nat.zero_add, Nat.add_zero, Nat.reduceLeDiff, Int.reduceEq, Nat.reduceMul, hinn', hil', m1, m2, hbl]
    · simp only [go_sem, Nat.reduceLT, Nat.reduceEqDiff, ↓reduceIte, Nat.reduceAdd, Nat.zero_add, Nat.add_zero, Nat.reduceLeDiff, Int.reduceEq, Nat.reduceMul]
    · intro j hj
      have a1 : j ≠ inn := by omega
      have a2 : j ≠ il := by omega
      have a3 : j < H.next := by omega
      simp only [go_sem, Nat.reduceLT, Nat.reduceEqDiff, ↓reduceIte, Nat.reduceAdd, Nat.zero_add, Nat.add_zero, Nat.reduceLeDiff, Int.reduceEq, Nat.reduceMul, hinn', hil', a1, a2, a3]
  rintro τ X ⟨x0, x6, xn, xb, xi, xit, xinn, xil, xrow, xk⟩
  have xil' : i < X.next := AHeap.get_lt xi
  have xbl : H.next < X.next := by omega
  refine codeW_any (cxS_ok s6_ok) inf44_12 (by kernel_rfl) fun _ => ?_
  simp only [inf44_12, go_sem, Nat.reduceLT, Nat.reduceEqDiff, ↓reduceIte, Nat.reduceAdd, Nat.zero_add, Nat.add_zero, Nat.reduceLeDiff, Int.reduceEq, Nat.reduceMul, List.take_zero, List.drop_succ_cons, List.drop_zero, List.nil_append, List.append_nil, List.drop_nil, List.take_succ_cons, List.take_nil, List.cons_append, Int.toNat_natCast, Int.toNat_zero, Int.toNat_one, x0, x6, xi, xb, xil', xbl, q1]
  refine codeW_forget (fun τ Y => tget τ 0 = .pointer (some ⟨i, 0, none⟩) ∧ tget τ 6 = .pointer (some ⟨H.next, 0, none⟩) ∧ tget τ 13 = .pointer (some ⟨X.next, 0, none⟩) ∧ Y.next = X.next + 1 ∧
    Y.get X.next = some (.cells (geoOf total ⟨rname, rlev, rcats, rblocks, rnodes, rframes, rprocs, ropens, rclear⟩).cells false [] 0) ∧ (∀ b, b < X.next → Y.get b = X.get b)) ?_ ?_
  · refine ⟨?_, ?_, ?_, ?_, ?_, ?_⟩
    · simp only [go_sem, Nat.reduceLT, Nat.reduceEqDiff, ↓reduceIte, Nat.reduceAdd, Nat.zero_add, Nat.add_zero, Nat.reduceLeDiff, Int.reduceEq, Nat.reduceMul, x0]
    · simp only [go_sem, Nat.reduceLT, Nat.reduceEqDiff, ↓reduceIte, Nat.reduceAdd, Nat.zero_add, Nat.add_zero, Nat.reduceLeDiff, Int.reduceEq, Nat.reduceMul, x6]
    · simp only [go_sem, Nat.reduceLT, Nat.reduceEqDiff, ↓reduceIte, Nat.reduceAdd, Nat.zero_add, Nat.add_zero, Nat.reduceLeDiff, Int.reduceEq, Nat.reduceMul]
    · simp only [go_sem, Nat.reduceLT, Nat.reduceEqDiff, ↓reduceIte, Nat.reduceAdd, Nat.zero_add, Nat.add_zero, Nat.reduceLeDiff, Int.reduceEq, Nat.reduceMul]
    · simp only [go_sem, Nat.reduceLT, Nat.reduceEqDiff, ↓reduceIte, Nat.reduceAdd, Nat.zero_add, Nat.add_zero, Nat.reduceLeDiff, Int.reduceEq, Nat.reduceMul, geoOf, GeoD.cells, w64]
    · intro b hb
      simp only [go_sem, Nat.reduceLT, Nat.reduceEqDiff, ↓reduceIte, Nat.reduceAdd, Nat.zero_add, Nat.add_zero, Nat.reduceLeDiff, Int.reduceEq, Nat.reduceMul, hb]
  rintro τ Y ⟨y0, y6, y13, yn, yg, yk⟩
  have yi := (yk i xil').trans xi
  have yb := (yk H.next xbl).trans xb
  have yit := (yk it (AHeap.get_lt xit)).trans xit
  have yinn := (yk inn (AHeap.get_lt xinn)).trans xinn
  have yil := (yk il (AHeap.get_lt xil)).trans xil
  have yi' : i < Y.next := AHeap.get_lt yi
  have yb' : H.next < Y.next := AHeap.get_lt yb
  have yg' : X.next < Y.next := AHeap.get_lt yg
  have yiA : ∀ k, i < Y.next + k := fun k => by omega
  have yiB : ∀ k, i ≠ Y.next + k := fun k => by omega
  have ybA : ∀ k, H.next < Y.next + k := fun k => by omega
  have ybB : ∀ k, H.next ≠ Y.next + k := fun k => by omega
  have ygA : ∀ k, X.next < Y.next + k := fun k => by omega
  have ygB : ∀ k, X.next ≠ Y.next + k := fun k => by omega
  have q5 : X.next ≠ i := by omega
  have q6 : X.next ≠ H.next := by omega
  have fin : ∀ (Z : AHeap) (sr' sg' : Value), Y.next ≤ Z.next → (∀ j, j < lo → Z.get j = Y.get j) → Z.get it = Y.get it → Z.get inn = Y.get inn → Z.get il = Y.get il →
      Z.get i = some (.cells [sr', .map (some it), .slice none 0 0, .map (some inn), .map (some il), sg', .int .i64 (w64 ((geoOf total (RegD.mk rname rlev rcats rblocks rnodes rframes rprocs ropens rclear)).data + rblocks))] false [] 0) →
      RowS Z lo i sr' (regs ++ [(RegD.mk rname rlev rcats rblocks rnodes rframes rprocs ropens rclear)]).length 9 ((regs ++ [(RegD.mk rname rlev rcats rblocks rnodes rframes rprocs ropens rclear)]).flatMap RegD.cells) → RowS Z lo i sg' (geos ++ [geoOf total (RegD.mk rname rlev rcats rblocks rnodes rframes rprocs ropens rclear)]).length 6 ((geos ++ [geoOf total (RegD.mk rname rlev rcats rblocks rnodes rframes rprocs ropens rclear)]).flatMap GeoD.cells) →
      Value.int .i64 0 = Value.int .i64 (addErr many regs (RegD.mk rname rlev rcats rblocks rnodes rframes rprocs ropens rclear)) ∧ KeepLo lo H Z ∧ (addErr many regs (RegD.mk rname rlev rcats rblocks rnodes rframes rprocs ropens rclear) = 0 → ConfK Z lo i (regs ++ [(RegD.mk rname rlev rcats rblocks rnodes rframes rprocs ropens rclear)]) (geos ++ [geoOf total (RegD.mk rname rlev rcats rblocks rnodes rframes rprocs ropens rclear)]) (w64 ((geoOf total (RegD.mk rname rlev rcats rblocks rnodes rframes rprocs ropens rclear)).data + rblocks))) := by
    intro Z sr' sg' f1 f2 f3 f4 f5 f6 f7 f8
    refine ⟨by rw [hv], ⟨by have := xk.le; omega, fun j hj => ?_⟩, fun _ => ⟨⟨it, inn, il, sr', sg', f6, ?_, ?_, ?_, f7, f8, l1, l2, l3, d1, d2, d3⟩, hlow, by simp [hsame]⟩⟩
    · rw [f2 j hj, yk j (by omega), xk.old j hj]
    · rw [f3, yit]
    · rw [f4, yinn, List.map_append, List.map_singleton, ents_append]
      simp
    · rw [f5, yil, List.map_append, List.map_singleton, ents_append]
      simp [labV]
  refine codeW_any (cxS_ok s6_ok) inf44_14 (by kernel_rfl) fun hL => ?_
  rcases hsr with ⟨z1, rfl, z3⟩ | ⟨b, par, z1, rfl, z3, z4, z5⟩
  · obtain rfl : regs = [] := List.length_eq_zero_iff.1 z1
    obtain rfl : geos = [] := List.length_eq_zero_iff.1 hsame
    rcases hsg with ⟨_, rfl, _⟩ | ⟨b, par, z1, _⟩
    rotate_left
    · simp at z1
    simp only [inf44_14, go_sem, Nat.reduceLT, Nat.reduceEqDiff, ↓reduceIte, Nat.reduceAdd, Nat.zero_add, Nat.add_zero, Nat.reduceLeDiff, Int.reduceEq, Nat.reduceMul, List.take_zero, List.drop_succ_cons, List.drop_zero, List.nil_append, List.append_nil, List.drop_nil, List.take_succ_cons, List.take_nil, List.cons_append, Int.toNat_natCast, Int.toNat_zero, Int.toNat_one, y0, y6, y13, yi, yb, yg, yi', yb', yg', yiA, yiB, ybA, ybB, ygA, ygB, q1, q5, q6, Ne.symm q1, Ne.symm q5, Ne.symm q6, GeoD.cells]
    have w1 : it < Y.next := AHeap.get_lt yit
    have w2 : inn < Y.next := AHeap.get_lt yinn
    have w3 : il < Y.next := AHeap.get_lt yil
    refine fin _ (.slice (some ⟨Y.next + 1, 0, none⟩) 1 (grow + 1)) (.slice (some ⟨Y.next + 3, 0, none⟩) 1 (grow + 1)) ?_ ?_ ?_ ?_ ?_ ?_ ?_ ?_
    · simp only [go_sem, Nat.reduceLT, Nat.reduceEqDiff, ↓reduceIte, Nat.reduceAdd, Nat.zero_add, Nat.add_zero, Nat.reduceLeDiff, Int.reduceEq, Nat.reduceMul]
    · intro j hj
      have a1 : j ≠ i := by omega
      have a2 : ∀ k, j ≠ Y.next + k := fun k => by omega
      have a3 : j ≠ Y.next := by omega
      simp only [go_sem, Nat.reduceLT, Nat.reduceEqDiff, ↓reduceIte, Nat.reduceAdd, Nat.zero_add, Nat.add_zero, Nat.reduceLeDiff, Int.reduceEq, Nat.reduceMul, a1, a2, a3, yi', yiA]
    · have a2 : ∀ k, it ≠ Y.next + k := fun k => by omega
      simp only [go_sem, Nat.reduceLT, Nat.reduceEqDiff, ↓reduceIte, Nat.reduceAdd, Nat.zero_add, Nat.add_zero, Nat.reduceLeDiff, Int.reduceEq, Nat.reduceMul, w1, a2, Ne.symm n1, yi', yiA]
    · have a2 : ∀ k, inn ≠ Y.next + k := fun k => by omega
      simp only [go_sem, Nat.reduceLT, Nat.reduceEqDiff, ↓reduceIte, Nat.reduceAdd, Nat.zero_add, Nat.add_zero, Nat.reduceLeDiff, Int.reduceEq, Nat.reduceMul, w2, a2, Ne.symm n2, yi', yiA]
    · have a2 : ∀ k, il ≠ Y.next + k := fun k => by omega
      simp only [go_sem, Nat.reduceLT, Nat.reduceEqDiff, ↓reduceIte, Nat.reduceAdd, Nat.zero_add, Nat.add_zero, Nat.reduceLeDiff, Int.reduceEq, Nat.reduceMul, w3, a2, Ne.symm n3, yi', yiA]
    · simp only [go_sem, Nat.reduceLT, Nat.reduceEqDiff, ↓reduceIte, Nat.reduceAdd, Nat.zero_add, Nat.add_zero, Nat.reduceLeDiff, Int.reduceEq, Nat.reduceMul, yi', yiA]; rfl
    · refine .inr ⟨Y.next + 1, [], by simp, rfl, ?_, by omega, by omega⟩
      have a1 : Y.next + 1 ≠ i := by omega
      simp only [go_sem, Nat.reduceLT, Nat.reduceEqDiff, ↓reduceIte, Nat.reduceAdd, Nat.zero_add, Nat.add_zero, Nat.reduceLeDiff, Int.reduceEq, Nat.reduceMul, yi', yiA, a1]
      rfl
    · refine .inr ⟨Y.next + 3, [], by simp, rfl, ?_, by omega, by omega⟩
      have a1 : Y.next + 3 ≠ i := by omega
      simp only [go_sem, Nat.reduceLT, Nat.reduceEqDiff, ↓reduceIte, Nat.reduceAdd, Nat.zero_add, Nat.add_zero, Nat.reduceLeDiff, Int.reduceEq, Nat.reduceMul, yi', yiA, a1]
      rfl
  · rcases hsg with ⟨h0, _⟩ | ⟨bg, parg, u1, rfl, u3, u4, u5⟩
    · omega
    have yr := (yk b (by have := AHeap.get_lt z3; omega)).trans ((xrow b _ _ _ _ z3).trans z3)
    have ys := (yk bg (by have := AHeap.get_lt u3; omega)).trans ((xrow bg _ _ _ _ u3).trans u3)
    have hb : b < H.next := AHeap.get_lt z3
    have hbg : bg < H.next := AHeap.get_lt u3
    have hbb : b ≠ bg := fun e => by rw [e, u3] at z3; injection z3 with z3; injection z3 with _ _ _ h; omega
    have hlen : regs.length * 9 = (regs.flatMap RegD.cells).length := (flat_len RegD.cells_length regs).symm
    have hleng : geos.length * 6 = (geos.flatMap GeoD.cells).length := (flat_len GeoD.cells_length geos).symm
    have a1 := fun o vs => appW_more (sz := 9) (by_ := 72) (n := 1) (l := regs.length) (b := b) (vs := vs) (cs := regs.flatMap RegD.cells) (par := par) (H := Y.new o) (by omega) (by rw [get_new_old o (by omega)]; exact yr) hlen (by omega) (by unfold grow; omega)
    have a2 : ∀ (Z : AHeap) (vs : List Value), Z.get bg = some (.cells (geos.flatMap GeoD.cells) false parg 6) → appW 6 48 (.slice (some ⟨bg, 0, none⟩) geos.length (grow + geos.length)) (some (1, vs)) Z = some (.slice (some ⟨Z.next, 0, none⟩) (geos.length + 1) (grow + (geos.length + 1)), (Z.set bg (.cells (geos.flatMap GeoD.cells) true parg 6)).new (.cells (geos.flatMap GeoD.cells ++ vs) false (bg :: parg) 6)) :=
      fun Z vs hz => appW_more (by omega) hz hleng (by omega) (by unfold grow; omega)
    have hbY : b < Y.next := by omega
    have hbgY : bg < Y.next := by omega
    have bA : ∀ k, b < Y.next + k := fun k => by omega
    have bB : ∀ k, b ≠ Y.next + k := fun k => by omega
    have gA : ∀ k, bg < Y.next + k := fun k => by omega
    have gB : ∀ k, bg ≠ Y.next + k := fun k => by omega
    have r1 : b ≠ H.next := by omega
    have r2 : bg ≠ H.next := by omega
    have r3 : b ≠ X.next := by omega
    have r4 : bg ≠ X.next := by omega
    have hgr : Grew Y := by obtain ⟨μ, a, w, hR, _⟩ := hL; exact hR.grew
    have pr := hgr b _ yr
    have pg := hgr bg _ ys
    have p1 : i ∉ par := fun h => by have := (pr i h).2 _ yi; cases this
    have p2 : X.next ∉ par := fun h => by have := (pr _ h).2 _ yg; cases this
    have p3 : X.next ∉ parg := fun h => by have := (pg _ h).2 _ yg; cases this
    have p4 : H.next ∉ par := fun h => by have := (pr _ h).2 _ yb; cases this
    have p5 : H.next ∉ parg := fun h => by have := (pg _ h).2 _ yb; cases this
    simp only [inf44_14, go_sem, Nat.reduceLT, Nat.reduceEqDiff, ↓reduceIte, Nat.reduceAdd, Nat.zero_add, Nat.add_zero, Nat.reduceLeDiff, Int.reduceEq, Nat.reduceMul, List.take_zero, List.drop_succ_cons, List.drop_zero, List.nil_append, List.append_nil, List.drop_nil, List.take_succ_cons, List.take_nil, List.cons_append, Int.toNat_natCast, Int.toNat_zero, Int.toNat_one, y0, y6, y13, yi, yb, yg, yr, ys, yi', yb', yg', yiA, yiB, ybA, ybB, ygA, ygB, q1, q5, q6, Ne.symm q1, Ne.symm q5, Ne.symm q6, GeoD.cells, a1, a2, hbY, hbgY, bA, bB, gA, gB, r1, r2, r3, r4, Ne.symm r1, Ne.symm r2, Ne.symm r3, Ne.symm r4, z5, u5, Ne.symm z5, Ne.symm u5, hbb, Ne.symm hbb, p1, p2, p3, p4, p5]
    refine ⟨fun a ha => ?_, ?_⟩
    · rcases ha with ha | ha | ha
      · have := (pr a ha).1; omega
      · omega
      · cases ha
    have w1 : it < Y.next := AHeap.get_lt yit
    have w2 : inn < Y.next := AHeap.get_lt yinn
    have w3 : il < Y.next := AHeap.get_lt yil
    have ne1 : ∀ j o, Y.get j = some o → (∀ cs ro par gs, o ≠ .cells cs ro par gs) → j ≠ b ∧ j ≠ bg := fun j o h1 h2 => ⟨(fun e => by rw [e, yr] at h1; injection h1 with h1; exact h2 _ _ _ _ h1.symm), (fun e => by rw [e, ys] at h1; injection h1 with h1; exact h2 _ _ _ _ h1.symm)⟩
    obtain ⟨m1, m2⟩ := ne1 it _ yit (by intros; simp)
    obtain ⟨m3, m4⟩ := ne1 inn _ yinn (by intros; simp)
    obtain ⟨m5, m6⟩ := ne1 il _ yil (by intros; simp)
    refine fin _ (.slice (some ⟨Y.next + 1, 0, none⟩) (regs.length + 1) (grow + (regs.length + 1))) (.slice (some ⟨Y.next + 3, 0, none⟩) (geos.length + 1) (grow + (geos.length + 1))) ?_ ?_ ?_ ?_ ?_ ?_ ?_ ?_
    · simp only [go_sem, Nat.reduceLT, Nat.reduceEqDiff, ↓reduceIte, Nat.reduceAdd, Nat.zero_add, Nat.add_zero, Nat.reduceLeDiff, Int.reduceEq, Nat.reduceMul]
    · intro j hj
      have a1 : j ≠ i := by omega
      have a2 : ∀ k, j ≠ Y.next + k := fun k => by omega
      have a3 : j ≠ Y.next := by omega
      have a4 : j ≠ b := by omega
      have a5 : j ≠ bg := by omega
      simp only [go_sem, Nat.reduceLT, Nat.reduceEqDiff, ↓reduceIte, Nat.reduceAdd, Nat.zero_add, Nat.add_zero, Nat.reduceLeDiff, Int.reduceEq, Nat.reduceMul, a1, a2, a3, a4, a5, yi', yiA, hbY, hbgY, bA, gA]
    · have a2 : ∀ k, it ≠ Y.next + k := fun k => by omega
      have a3 : it ≠ Y.next := by omega
      simp only [go_sem, Nat.reduceLT, Nat.reduceEqDiff, ↓reduceIte, Nat.reduceAdd, Nat.zero_add, Nat.add_zero, Nat.reduceLeDiff, Int.reduceEq, Nat.reduceMul, a2, a3, Ne.symm n1, yi', yiA, hbY, hbgY, bA, gA, m1, m2]
    · have a2 : ∀ k, inn ≠ Y.next + k := fun k => by omega
      have a3 : inn ≠ Y.next := by omega
      simp only [go_sem, Nat.reduceLT, Nat.reduceEqDiff, ↓reduceIte, Nat.reduceAdd, Nat.zero_add, Nat.add_zero, Nat.reduceLeDiff, Int.reduceEq, Nat.reduceMul, a2, a3, Ne.symm n2, yi', yiA, hbY, hbgY, bA, gA, m3, m4]
    · have a2 : ∀ k, il ≠ Y.next + k := fun k => by omega
      have a3 : il ≠ Y.next := by omega
      simp only [go_sem, Nat.reduceLT, Nat.reduceEqDiff, ↓reduceIte, Nat.reduceAdd, Nat.zero_add, Nat.add_zero, Nat.reduceLeDiff, Int.reduceEq, Nat.reduceMul, a2, a3, Ne.symm n3, yi', yiA, hbY, hbgY, bA, gA, m5, m6]
    · simp only [go_sem, Nat.reduceLT, Nat.reduceEqDiff, ↓reduceIte, Nat.reduceAdd, Nat.zero_add, Nat.add_zero, Nat.reduceLeDiff, Int.reduceEq, Nat.reduceMul, yi', yiA, hbY, hbgY, bA, gA]; rfl
    · refine .inr ⟨Y.next + 1, b :: par, by simp, by simp, ?_, by omega, by omega⟩
      have a1 : Y.next + 1 ≠ i := by omega
      have a2 : Y.next + 1 ≠ bg := by omega
      simp only [go_sem, Nat.reduceLT, Nat.reduceEqDiff, ↓reduceIte, Nat.reduceAdd, Nat.zero_add, Nat.add_zero, Nat.reduceLeDiff, Int.reduceEq, Nat.reduceMul, yi', yiA, hbY, hbgY, bA, gA, a1, a2, List.flatMap_append, List.flatMap_cons, List.flatMap_nil, List.append_nil, RegD.cells]
    · refine .inr ⟨Y.next + 3, bg :: parg, by simp, by simp, ?_, by omega, by omega⟩
      have a1 : Y.next + 3 ≠ i := by omega
      simp only [go_sem, Nat.reduceLT, Nat.reduceEqDiff, ↓reduceIte, Nat.reduceAdd, Nat.zero_add, Nat.add_zero, Nat.reduceLeDiff, Int.reduceEq, Nat.reduceMul, yi', yiA, hbY, hbgY, bA, gA, a1, List.flatMap_append, List.flatMap_cons, List.flatMap_nil, List.append_nil, GeoD.cells]
end Go.Proofs.YtkjclebafpomhaaDoor
