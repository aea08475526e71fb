/- Contracts: (*conf.Conf).add. -/
import Derived.Test.YtkjclebafpomhaaDoorPDA4
set_option linter.unusedVariables false
set_option linter.unusedSimpArgs false
set_option maxRecDepth 100000
namespace Go.Proofs.YtkjclebafpomhaaDoor
open Go Go.Eng

def s6 : Specs := spAdd (spAdd (spAdd (spAdd sp0 93 F93) 92 F92) 91 F91) 90 F90
theorem s6_93 : s6 93 = some F93 := id rfl
theorem s6_92 : s6 92 = some F92 := id rfl
theorem s6_91 : s6 91 = some F91 := id rfl
theorem s6_90 : s6 90 = some F90 := id rfl
theorem s6_ok : SpsOK s6 := spAdd_ok (spAdd_ok (spAdd_ok (spAdd_ok sp0_ok sp93) sp92) sp91) sp90

/-- A row that append made. -/
def RowS (H : AHeap) (lo i : Nat) (s : Value) (n sz : Nat) (cs : List Value) : Prop :=
  (n = 0 ∧ s = .slice none 0 0 ∧ cs = []) ∨ ∃ b par, 0 < n ∧ s = .slice (some ⟨b, 0, none⟩) n (grow + n) ∧ H.get b = some (.cells cs false par sz) ∧ lo ≤ b ∧ b ≠ i
/-- A configuration that is being made. -/
structure ConfK (H : AHeap) (lo i : Nat) (regs : List RegD) (geos : List GeoD) (total : Int) : Prop where
  all : ∃ it inn il sr sg, H.get i = some (.cells [sr, .map (some it), .slice none 0 0, .map (some inn), .map (some il), sg, .int .i64 total] false [] 0) ∧ H.get it = some (.map [] 0 false) ∧
    H.get inn = some (.map (ents .string (regs.map (·.name))) regs.length false) ∧ H.get il = some (.map (ents labV (regs.map fun r => (r.lev, r.cats))) regs.length false) ∧
    RowS H lo i sr regs.length 9 (regs.flatMap RegD.cells) ∧ RowS H lo i sg geos.length 6 (geos.flatMap GeoD.cells) ∧ lo ≤ it ∧ lo ≤ inn ∧ lo ≤ il ∧ it ≠ inn ∧ it ≠ il ∧ inn ≠ il
  low : lo ≤ i
  same : geos.length = regs.length
theorem codeW_forget {cx : Cx} {N : Nat} {c : Code} {Q : PostW} {τ : Tmps} {H : AHeap} (F : Tmps → AHeap → Prop) (hF : F τ H) (h : ∀ τ' H', F τ' H' → codeW cx N c Q τ' H') : codeW cx N c Q τ H := h _ _ hF
theorem RowS.keep {H H' : AHeap} {lo i n sz : Nat} {s : Value} {cs : List Value} (h : RowS H lo i s n sz cs) (k : ∀ b, H.get b = some (.cells cs false (match H.get b with | some o => o.par | none => []) sz) → lo ≤ b → b ≠ i → H'.get b = H.get b) : RowS H' lo i s n sz cs := by
  rcases h with h | ⟨b, par, h1, h2, h3, h4, h5⟩
  · exact .inl h
  · exact .inr ⟨b, par, h1, h2, by rw [k b (by rw [h3]; rfl) h4 h5]; exact h3, h4, h5⟩
structure KeepLo (lo : Nat) (H H' : AHeap) : Prop where
  le : H.next ≤ H'.next
  old : ∀ j, j < lo → H'.get j = H.get j
def w64 (n : Int) : Int := IntKind.wrap .i64 n
def geoOf (total : Int) (r : RegD) : GeoD :=
  { base := total, bitmap := w64 ((w64 (w64 (r.blocks + 512) - 1)).tdiv 512), table := w64 ((w64 (w64 (w64 (r.nodes * 32) + 64) - 1)).tdiv 64),
    data := w64 (w64 (total + w64 ((w64 (w64 (r.blocks + 512) - 1)).tdiv 512)) + w64 ((w64 (w64 (w64 (r.nodes * 32) + 64) - 1)).tdiv 64)), blocks := r.blocks, nodes := r.nodes }
def addErr (many : Int) (regs : List RegD) (r : RegD) : Int :=
  if nameB r.name = false then 30 else if decide (r.lev ≤ 15) = false then 27 else if r.sound = false then 27 else if (decide (0 ≤ r.clear) && decide (r.clear ≤ w64 (many - 1))) = false then 27 else
  if ((regs.map (·.name)).any fun x => r.name == x) = true then 29 else if ((regs.map fun r => (r.lev, r.cats)).any fun x => (r.lev == x.1) && (r.cats == x.2)) = true then 29 else 0
def inf44_5 : Info := [([0], [], false), ([36], [], false), ([37], [], false), ([38], [], false), ([6], [0, 1, 2, 3], false), ([40], [0, 1, 2, 3], false), ([39, 41], [], false), ([42], [], false), ([35], [], false), ([35], [8], false), ([43], [9], false), ([44], [], false)]
def inf44_8 : Info := [([0], [], false), ([47], [], false), ([48], [], false), ([49], [], false), ([6], [0, 1, 2, 3], false), ([51], [0, 1, 2, 3], false), ([50, 52], [], false), ([53], [], false), ([46], [], false), ([46], [8], false), ([54], [9], false), ([55], [], false)]
def inf44_11 : Info := [([0], [], false), ([57], [], false), ([58], [], false), ([59], [], false), ([6], [0, 1, 2, 3], false), ([61], [0, 1, 2, 3], false), ([0], [0, 1, 2, 3, 4, 5], false), ([63], [0, 1, 2, 3, 4, 5], false), ([64], [0, 1, 2, 3, 4, 5], false), ([65], [0, 1, 2, 3, 4, 5], false), ([6], [0, 1, 2, 3, 4, 5, 6, 7, 8, 9], false), ([67], [0, 1, 2, 3, 4, 5, 6, 7, 8, 9], false), ([1], [0, 1, 2, 3, 4, 5, 6, 7, 8, 9, 10, 11], false), ([1], [0, 1, 2, 3, 4, 5, 6, 7, 8, 9, 10, 11, 12], false), ([60, 62], [10, 11, 12, 13], false), ([71], [10, 11, 12, 13], false), ([60, 72, 69], [10, 11, 13], false), ([66, 68], [13], false), ([73], [13], false), ([66, 74, 70], [], false)]
def inf44_12 : Info := [([0], [], false), ([75], [], false), ([76], [], false), ([77], [], false), ([6], [0, 1, 2, 3], false), ([79], [0, 1, 2, 3], false), ([80], [0, 1, 2, 3], false), ([81], [0, 1, 2, 3], false), ([82], [0, 1, 2, 3], false), ([6], [0, 1, 2, 3, 4, 5, 6, 7, 8], false), ([84], [0, 1, 2, 3, 4, 5, 6, 7, 8], false), ([85], [0, 1, 2, 3, 4, 5, 6, 7, 8], false), ([86], [0, 1, 2, 3, 4, 5, 6, 7, 8], false), ([87], [0, 1, 2, 3, 4, 5, 6, 7, 8], false), ([88], [0, 1, 2, 3, 4, 5, 6, 7, 8], false), ([6], [0, 1, 2, 3, 4, 5, 6, 7, 8, 9, 10, 11, 12, 13, 14], false), ([90], [0, 1, 2, 3, 4, 5, 6, 7, 8, 9, 10, 11, 12, 13, 14], false), ([6], [0, 1, 2, 3, 4, 5, 6, 7, 8, 9, 10, 11, 12, 13, 14, 15, 16], false), ([92], [0, 1, 2, 3, 4, 5, 6, 7, 8, 9, 10, 11, 12, 13, 14, 15, 16], false), ([78, 83, 89, 91, 93], [], false), ([], [0, 1, 2, 3, 4, 5, 6, 7, 8, 9, 10, 11, 12, 13, 14, 15, 16, 17, 18, 19], false), ([13, 94], [], false)]
def inf44_14 : Info := [([0], [], false), ([0], [0], false), ([0], [0, 1], false), ([0], [0, 1, 2], false), ([107], [0, 1, 2], false), ([108], [0, 1, 2], false), ([109], [0, 1, 2], false), ([6], [0, 1, 2, 3, 4, 5, 6], false), ([111], [0, 1, 2, 3, 4, 5, 6], false), ([110, 112], [0, 1, 2], false), ([0], [0, 1, 2, 3, 4, 5, 6, 7, 8, 9], false), ([114], [0, 1, 2, 3, 4, 5, 6, 7, 8, 9], false), ([115], [0, 1, 2, 3, 4, 5, 6, 7, 8, 9], false), ([116], [0, 1, 2, 3, 4, 5, 6, 7, 8, 9], false), ([13], [0, 1, 2, 3, 4, 5, 6, 7, 8, 9, 10, 11, 12, 13], false), ([118], [0, 1, 2, 3, 4, 5, 6, 7, 8, 9, 10, 11, 12, 13], false), ([117, 119], [0, 1, 2], false), ([13], [0, 1, 2, 3, 4, 5, 6, 7, 8, 9, 10, 11, 12, 13, 14, 15, 16], false), ([121], [0, 1, 2, 3, 4, 5, 6, 7, 8, 9, 10, 11, 12, 13, 14, 15, 16], false), ([6], [0, 1, 2, 3, 4, 5, 6, 7, 8, 9, 10, 11, 12, 13, 14, 15, 16, 17, 18], false), ([123], [0, 1, 2, 3, 4, 5, 6, 7, 8, 9, 10, 11, 12, 13, 14, 15, 16, 17, 18], false), ([122, 124], [0, 1, 2, 3, 4, 5, 6, 7, 8, 9, 10, 11, 12, 13, 14, 15, 16], false), ([104], [1, 2, 17, 18, 19, 20, 21], false), ([126], [1, 2, 17, 18, 19, 20, 21], false), ([127, 113], [1, 2, 17, 18, 19, 20, 21], false), ([105], [2, 17, 18, 19, 20, 21], false), ([128], [2, 17, 18, 19, 20, 21], false), ([129, 120], [2, 17, 18, 19, 20, 21], false), ([106], [], false), ([130], [], false), ([131, 125], [], false)]
set_option maxHeartbeats 2000000 in
theorem add_c {H : AHeap} {lo i : Nat} {regs : List RegD} {geos : List GeoD} {total : Int} (hC : ConfK H lo i regs geos total) (hk : regs.length ≤ 64) (r : RegD) (many : Int) :
    ACalls Tryd.prog 4 44 [.pointer (some ⟨i, 0, none⟩), .int .i64 regs.length, .agg r.cells.toArray, .int .i64 many] H fun v H' =>
      v = .int .i64 (addErr many regs r) ∧ KeepLo lo H H' ∧ (addErr many regs r = 0 → ConfK H' lo i (regs ++ [r]) (geos ++ [geoOf total r]) (w64 ((geoOf total r).data + r.blocks))) := by
  obtain ⟨⟨it, inn, il, sr, sg, hrow, hit, hinn, hil, hsr, hsg, l1, l2, l3, d1, d2, d3⟩, hlow, hsame⟩ := hC
  have hi : i < H.next := AHeap.get_lt hrow
  have hit' : it < H.next := AHeap.get_lt hit
  have hinn' : inn < H.next := AHeap.get_lt hinn
  have hil' : il < H.next := AHeap.get_lt hil
  have n1 : i ≠ it := fun e => by rw [e, hit] at hrow; cases hrow
  have n2 : i ≠ inn := fun e => by rw [e, hinn] at hrow; cases hrow
  have n3 : i ≠ il := fun e => by rw [e, hil] at hrow; cases hrow
  refine walk s6_ok (fn := Tryd.f44) (by kernel_rfl) (c := Tryd.f44.body.get (by kernel_rfl)) (by kernel_rfl) (by simp [Tryd.f44]) ?_
  obtain ⟨rname, rlev, rcats, rblocks, rnodes, rframes, rprocs, ropens, rclear⟩ := r
  have q1 : H.next ≠ i := by omega
  have q2 : H.next ≠ it := by omega
  have q3 : H.next ≠ inn := by omega
  have q4 : H.next ≠ il := by omega
  have keep0 : ∀ o, KeepLo lo H (H.new o) := fun o => ⟨by simp, fun j hj => by rw [AHeap.get_new, if_neg (by omega)]⟩
  simp only [Tryd.f44, Option.get, RegD.cells]
  cases c1 : nameB rname
  · have hv : addErr many regs ⟨rname, rlev, rcats, rblocks, rnodes, rframes, rprocs, ropens, rclear⟩ = 30 := by unfold addErr; rw [if_pos c1]
    simp only [go_sem, Nat.reduceLT, Nat.reduceEqDiff, ↓reduceIte, Nat.reduceAdd, Nat.zero_add, Nat.add_zero, Nat.reduceLeDiff, Int.reduceEq, Nat.reduceMul, List.take_zero, List.drop_succ_cons, List.drop_zero, List.nil_append, List.append_nil, List.drop_nil, List.take_succ_cons, List.take_nil, List.cons_append, Int.toNat_natCast, Int.toNat_zero, Int.toNat_one, s6_90, F90_eq, fn_ex, c1, hv, keep0]
  cases c2 : decide (rlev ≤ 15)
  · have hv : addErr many regs ⟨rname, rlev, rcats, rblocks, rnodes, rframes, rprocs, ropens, rclear⟩ = 27 := by unfold addErr; rw [if_neg (by simp [c1]), if_pos c2]
    simp only [go_sem, Nat.reduceLT, Nat.reduceEqDiff, ↓reduceIte, Nat.reduceAdd, Nat.zero_add, Nat.add_zero, Nat.reduceLeDiff, Int.reduceEq, Nat.reduceMul, List.take_zero, List.drop_succ_cons, List.drop_zero, List.nil_append, List.append_nil, List.drop_nil, List.take_succ_cons, List.take_nil, List.cons_append, Int.toNat_natCast, Int.toNat_zero, Int.toNat_one, s6_90, F90_eq, s6_91, F91_eq, fn_ex, c1, c2, hv, keep0]
  cases c3 : (RegD.mk rname rlev rcats rblocks rnodes rframes rprocs ropens rclear).sound
  · have hv : addErr many regs ⟨rname, rlev, rcats, rblocks, rnodes, rframes, rprocs, ropens, rclear⟩ = 27 := by unfold addErr; rw [if_neg (by simp [c1]), if_neg (by simp [c2]), if_pos c3]
    simp only [go_sem, Nat.reduceLT, Nat.reduceEqDiff, ↓reduceIte, Nat.reduceAdd, Nat.zero_add, Nat.add_zero, Nat.reduceLeDiff, Int.reduceEq, Nat.reduceMul, List.take_zero, List.drop_succ_cons, List.drop_zero, List.nil_append, List.append_nil, List.drop_nil, List.take_succ_cons, List.take_nil, List.cons_append, Int.toNat_natCast, Int.toNat_zero, Int.toNat_one, s6_90, F90_eq, s6_91, F91_eq, s6_92, F92_eq, fn_ex, c1, c2, c3, hv, keep0]
  cases c4 : (decide (0 ≤ rclear) && decide (rclear ≤ IntKind.wrap .i64 (many - 1)))
  · have hv : addErr many regs ⟨rname, rlev, rcats, rblocks, rnodes, rframes, rprocs, ropens, rclear⟩ = 27 := by unfold addErr w64; rw [if_neg (by simp [c1]), if_neg (by simp [c2]), if_neg (by simp [c3]), if_pos c4]
    simp only [go_sem, Nat.reduceLT, Nat.reduceEqDiff, ↓reduceIte, Nat.reduceAdd, Nat.zero_add, Nat.add_zero, Nat.reduceLeDiff, Int.reduceEq, Nat.reduceMul, List.take_zero, List.drop_succ_cons, List.drop_zero, List.nil_append, List.append_nil, List.drop_nil, List.take_succ_cons, List.take_nil, List.cons_append, Int.toNat_natCast, Int.toNat_zero, Int.toNat_one, s6_90, F90_eq, s6_91, F91_eq, s6_92, F92_eq, s6_93, F93_eq, fn_ex, c1, c2, c3, c4, hv, keep0]
  simp only [go_sem, Nat.reduceLT, Nat.reduceEqDiff, ↓reduceIte, Nat.reduceAdd, Nat.zero_add, Nat.add_zero, Nat.reduceLeDiff, Int.reduceEq, Nat.reduceMul, List.take_zero, List.drop_succ_cons, List.drop_zero, List.nil_append, List.append_nil, List.drop_nil, List.take_succ_cons, List.take_nil, List.cons_append, Int.toNat_natCast, Int.toNat_zero, Int.toNat_one, s6_90, F90_eq, s6_91, F91_eq, s6_92, F92_eq, s6_93, F93_eq, fn_ex, c1, c2, c3, c4]
  refine codeW_any (cxS_ok s6_ok) inf44_5 (by kernel_rfl) fun _ => ?_
  have g1 : ∀ o, (H.new o).get inn = some (.map (ents .string (regs.map (·.name))) regs.length false) := fun o => by rw [get_new_old o hinn']; exact hinn
  have g2 : ∀ o, (H.new o).get il = some (.map (ents labV (regs.map fun r => (r.lev, r.cats))) regs.length false) := fun o => by rw [get_new_old o hil']; exact hil
  obtain ⟨v1, hv1⟩ := look97 (g1 (.cells [.string rname, .int .u8 rlev, .int .u16 rcats, .int .i64 rblocks, .int .i64 rnodes, .int .i64 rframes, .int .i64 rprocs, .int .i64 ropens, .int .i64 rclear] false [] 0)) rname
  obtain ⟨v2, hv2⟩ := look98 (g2 (.cells [.string rname, .int .u8 rlev, .int .u16 rcats, .int .i64 rblocks, .int .i64 rnodes, .int .i64 rframes, .int .i64 rprocs, .int .i64 ropens, .int .i64 rclear] false [] 0)) rlev rcats
  cases c5 : (List.map (fun x => x.name) regs).any fun x => rname == x
  rotate_left
  · have hv : addErr many regs ⟨rname, rlev, rcats, rblocks, rnodes, rframes, rprocs, ropens, rclear⟩ = 29 := by unfold addErr w64; rw [if_neg (by simp [c1]), if_neg (by simp [c2]), if_neg (by simp [c3]), if_neg (by simp [c4]), if_pos c5]
    simp only [inf44_5, go_sem, Nat.reduceLT, Nat.reduceEqDiff, ↓reduceIte, Nat.reduceAdd, Nat.zero_add, Nat.add_zero, Nat.reduceLeDiff, Int.reduceEq, Nat.reduceMul, List.take_zero, List.drop_succ_cons, List.drop_zero, List.nil_append, List.append_nil, List.drop_nil, List.take_succ_cons, List.take_nil, List.cons_append, Int.toNat_natCast, Int.toNat_zero, Int.toNat_one, hrow, hi, hv1, c5, hv, keep0]
    done
  simp only [inf44_5, go_sem, Nat.reduceLT, Nat.reduceEqDiff, ↓reduceIte, Nat.reduceAdd, Nat.zero_add, Nat.add_zero, Nat.reduceLeDiff, Int.reduceEq, Nat.reduceMul, List.take_zero, List.drop_succ_cons, List.drop_zero, List.nil_append, List.append_nil, List.drop_nil, List.take_succ_cons, List.take_nil, List.cons_append, Int.toNat_natCast, Int.toNat_zero, Int.toNat_one, hrow, hi, hv1, c5]
  refine codeW_any (cxS_ok s6_ok) inf44_8 (by kernel_rfl) fun _ => ?_
  cases c6 : (List.map (fun r => (r.lev, r.cats)) regs).any fun x => rlev == x.1 && rcats == x.2
  rotate_left
  · have hv : addErr many regs ⟨rname, rlev, rcats, rblocks, rnodes, rframes, rprocs, ropens, rclear⟩ = 29 := by unfold addErr w64; rw [if_neg (by simp [c1]), if_neg (by simp [c2]), if_neg (by simp [c3]), if_neg (by simp [c4]), if_neg (by simp only [c5]; simp), if_pos c6]
    simp only [inf44_8, go_sem, Nat.reduceLT, Nat.reduceEqDiff, ↓reduceIte, Nat.reduceAdd, Nat.zero_add, Nat.add_zero, Nat.reduceLeDiff, Int.reduceEq, Nat.reduceMul, List.take_zero, List.drop_succ_cons, List.drop_zero, List.nil_append, List.append_nil, List.drop_nil, List.take_succ_cons, List.take_nil, List.cons_append, Int.toNat_natCast, Int.toNat_zero, Int.toNat_one, hrow, hi, hv2, c6, hv, keep0]
    done
  have hv : addErr many regs ⟨rname, rlev, rcats, rblocks, rnodes, rframes, rprocs, ropens, rclear⟩ = 0 := by
    unfold addErr w64; rw [if_neg (by simp [c1]), if_neg (by simp [c2]), if_neg (by simp [c3]), if_neg (by simp [c4]), if_neg (by simp only [c5]; simp), if_neg (by simp only [c6]; simp)]
  simp only [inf44_8, go_sem, Nat.reduceLT, Nat.reduceEqDiff, ↓reduceIte, Nat.reduceAdd, Nat.zero_add, Nat.add_zero, Nat.reduceLeDiff, Int.reduceEq, Nat.reduceMul, List.take_zero, List.drop_succ_cons, List.drop_zero, List.nil_append, List.append_nil, List.drop_nil, List.take_succ_cons, List.take_nil, List.cons_append, Int.toNat_natCast, Int.toNat_zero, Int.toNat_one, hrow, hi, hv2, c6]
  refine codeW_any (cxS_ok s6_ok) inf44_11 (by kernel_rfl) fun _ => ?_
  have hl : ∀ {β : Type} (f : RegD → β), (regs.map f).length = regs.length := fun f => by simp
  have e1 := fun o => entry97 (l := regs.map (·.name)) (by rw [hl]; exact g1 o) c5
  simp only [hl] at e1
  have e2 := fun o o1 ck => estore (H := (H.new o).set inn (.map (ents .string (regs.map (·.name)) ++ [{ key := .string rname, val := .int .i64 0, born := regs.length }]) ck)) (r := inn) (ck := ck) (kf := .string) (l := regs.map (·.name)) (k := .string rname) (v0 := .int .i64 0) (v := .int .i64 o1)
    (by rw [AHeap.get_set _ _ _ _ (by simp; omega), if_pos rfl, hl])
  simp only [hl] at e2
  have g3 : ∀ o o1 o2, (((H.new o).set inn o1).set inn o2).get il = some (.map (ents labV (regs.map fun r => (r.lev, r.cats))) regs.length false) := fun o o1 o2 => by
    rw [get_set_ne _ (Ne.symm d3) (by simp; omega), get_set_ne _ (Ne.symm d3) (by simp; omega)]; exact g2 o
  have e3 := fun o o1 o2 => entry98 (l := regs.map fun r => (r.lev, r.cats)) (by rw [hl]; exact g3 o o1 o2) c6
  simp only [hl] at e3
  have e4 := fun o o1 o2 o3 ck => estore (H := (((H.new o).set inn o1).set inn o2).set il (.map (ents labV (regs.map fun r => (r.lev, r.cats)) ++ [{ key := .agg #[.int .u8 rlev, .int .u16 rcats], val := .int .i64 0, born := regs.length }]) ck)) (r := il) (ck := ck) (kf := labV) (l := regs.map fun r => (r.lev, r.cats)) (k := .agg #[.int .u8 rlev, .int .u16 rcats]) (v0 := .int .i64 0) (v := .int .i64 o3)
    (by rw [AHeap.get_set _ _ _ _ (by simp; omega), if_pos rfl, hl])
  simp only [hl] at e4
  simp only [inf44_11, go_sem, Nat.reduceLT, Nat.reduceEqDiff, ↓reduceIte, Nat.reduceAdd, Nat.zero_add, Nat.add_zero, Nat.reduceLeDiff, Int.reduceEq, Nat.reduceMul, List.take_zero, List.drop_succ_cons, List.drop_zero, List.nil_append, List.append_nil, List.drop_nil, List.take_succ_cons, List.take_nil, List.cons_append, Int.toNat_natCast, Int.toNat_zero, Int.toNat_one, hrow, hi, e1, e2, e3, e4, n1, n2, n3, Ne.symm n1, Ne.symm n2, Ne.symm n3, d3, Ne.symm d3, hinn', hil', q1, q2, q3, q4]
  have hmap : ∀ (b : Nat) (cs : List Value) (ro : Bool) (par : List Nat) (sz : Nat), H.get b = some (.cells cs ro par sz) → b ≠ inn ∧ b ≠ il ∧ b ≠ it := fun b cs ro par sz hb =>
    ⟨(fun e => by rw [e, hinn] at hb; cases hb), (fun e => by rw [e, hil] at hb; cases hb), (fun e => by rw [e, hit] at hb; cases hb)⟩
  refine codeW_forget (fun τ X => tget τ 0 = .pointer (some ⟨i, 0, none⟩) ∧ tget τ 6 = .pointer (some ⟨H.next, 0, none⟩) ∧ X.next = H.next + 1 ∧
    X.get H.next = some (.cells [.string rname, .int .u8 rlev, .int .u16 rcats, .int .i64 rblocks, .int .i64 rnodes, .int .i64 rframes, .int .i64 rprocs, .int .i64 ropens, .int .i64 rclear] false [] 0) ∧
    X.get i = some (.cells [sr, .map (some it), .slice none 0 0, .map (some inn), .map (some il), sg, .int .i64 total] false [] 0) ∧ X.get it = some (.map [] 0 false) ∧
    X.get inn = some (.map (ents .string (regs.map (·.name)) ++ [{ key := .string rname, val := .int .i64 regs.length, born := regs.length }]) (regs.length + 1) false) ∧
    X.get il = some (.map (ents labV (regs.map fun r => (r.lev, r.cats)) ++ [{ key := .agg #[.int .u8 rlev, .int .u16 rcats], val := .int .i64 regs.length, born := regs.length }]) (regs.length + 1) false) ∧
    (∀ b cs ro par sz, H.get b = some (.cells cs ro par sz) → X.get b = H.get b) ∧ KeepLo lo H X) ?_ ?_
  · refine ⟨?_, ?_, ?_, ?_, ?_, ?_, ?_, ?_, ?_, ?_, ?_⟩
    · simp only [go_sem, Nat.reduceLT, Nat.reduceEqDiff, ↓reduceIte, Nat.reduceAdd, Nat.zero_add, Nat.add_zero, Nat.reduceLeDiff, Int.reduceEq, Nat.reduceMul]
    · simp only [go_sem, Nat.reduceLT, Nat.reduceEqDiff, ↓reduceIte, Nat.reduceAdd, Nat.zero_add, Nat.add_zero, Nat.reduceLeDiff, Int.reduceEq, Nat.reduceMul]
    · simp only [go_sem, Nat.reduceLT, Nat.reduceEqDiff, ↓reduceIte, Nat.reduceAdd, Nat.zero_add, Nat.add_zero, Nat.reduceLeDiff, Int.reduceEq, Nat.reduceMul]
    · simp only [go_sem, Nat.reduceLT, Nat.reduceEqDiff, ↓reduceIte, Nat.reduceAdd, Nat.zero_add, Nat.add_zero, Nat.reduceLeDiff, Int.reduceEq, Nat.reduceMul, hinn', hil', Nat.ne_of_gt hinn', Nat.ne_of_gt hil']
    · simp only [go_sem, Nat.reduceLT, Nat.reduceEqDiff, ↓reduceIte, Nat.reduceAdd, Nat.zero_add, Nat.add_zero, Nat.reduceLeDiff, Int.reduceEq, Nat.reduceMul, hinn', hil', n1, n2, n3, hi, hrow]
    · simp only [go_sem, Nat.reduceLT, Nat.reduceEqDiff, ↓reduceIte, Nat.reduceAdd, Nat.zero_add, Nat.add_zero, Nat.reduceLeDiff, Int.reduceEq, Nat.reduceMul, hinn', hil', d1, d2, hit', hit]
    · simp only [go_sem, Nat.reduceLT, Nat.reduceEqDiff, ↓reduceIte, Nat.reduceAdd, Nat.zero_add, Nat.add_zero, Nat.reduceLeDiff, Int.reduceEq, Nat.reduceMul, hinn', hil', d3, hit', hit]
    · simp only [go_sem, Nat.reduceLT, Nat.reduceEqDiff, ↓reduceIte, Nat.reduceAdd, Nat.zero_add, Nat.add_zero, Nat.reduceLeDiff, Int.reduceEq, Nat.reduceMul, hinn', hil', d3, hit', hit]
    · intro b cs ro par sz hb
      obtain ⟨m1, m2, m3⟩ := hmap b cs ro par sz hb
      have hbl := AHeap.get_lt hb
      simp only [go_sem, Nat.reduceLT, Nat.reduceEqDiff, ↓reduceIte, Nat.reduceAdd, Nat.zero_add, Nat.add_zero, Nat.reduceLeDiff, Int.reduceEq, Nat.reduceMul, hinn', hil', m1, m2, hbl]
    · simp only [go_sem, Nat.reduceLT, Nat.reduceEqDiff, ↓reduceIte, Nat.reduceAdd, Nat.zero_add, Nat.add_zero, Nat.reduceLeDiff, Int.reduceEq, Nat.reduceMul]
    · intro j hj
      have a1 : j ≠ inn := by omega
      have a2 : j ≠ il := by omega
      have a3 : j < H.next := by omega
      simp only [go_sem, Nat.reduceLT, Nat.reduceEqDiff, ↓reduceIte, Nat.reduceAdd, Nat.zero_add, Nat.add_zero, Nat.reduceLeDiff, Int.reduceEq, Nat.reduceMul, hinn', hil', a1, a2, a3]
  rintro τ X ⟨x0, x6, xn, xb, xi, xit, xinn, xil, xrow, xk⟩
  have xil' : i < X.next := AHeap.get_lt xi
  have xbl : H.next < X.next := by omega
  refine codeW_any (cxS_ok s6_ok) inf44_12 (by kernel_rfl) fun _ => ?_
  simp only [inf44_12, go_sem, Nat.reduceLT, Nat.reduceEqDiff, ↓reduceIte, Nat.reduceAdd, Nat.zero_add, Nat.add_zero, Nat.reduceLeDiff, Int.reduceEq, Nat.reduceMul, List.take_zero, List.drop_succ_cons, List.drop_zero, List.nil_append, List.append_nil, List.drop_nil, List.take_succ_cons, List.take_nil, List.cons_append, Int.toNat_natCast, Int.toNat_zero, Int.toNat_one, x0, x6, xi, xb, xil', xbl, q1]
  refine codeW_forget (fun τ Y => tget τ 0 = .pointer (some ⟨i, 0, none⟩) ∧ tget τ 6 = .pointer (some ⟨H.next, 0, none⟩) ∧ tget τ 13 = .pointer (some ⟨X.next, 0, none⟩) ∧ Y.next = X.next + 1 ∧
    Y.get X.next = some (.cells (geoOf total ⟨rname, rlev, rcats, rblocks, rnodes, rframes, rprocs, ropens, rclear⟩).cells false [] 0) ∧ (∀ b, b < X.next → Y.get b = X.get b)) ?_ ?_
  · refine ⟨?_, ?_, ?_, ?_, ?_, ?_⟩
    · simp only [go_sem, Nat.reduceLT, Nat.reduceEqDiff, ↓reduceIte, Nat.reduceAdd, Nat.zero_add, Nat.add_zero, Nat.reduceLeDiff, Int.reduceEq, Nat.reduceMul, x0]
    · simp only [go_sem, Nat.reduceLT, Nat.reduceEqDiff, ↓reduceIte, Nat.reduceAdd, Nat.zero_add, Nat.add_zero, Nat.reduceLeDiff, Int.reduceEq, Nat.reduceMul, x6]
    · simp only [go_sem, Nat.reduceLT, Nat.reduceEqDiff, ↓reduceIte, Nat.reduceAdd, Nat.zero_add, Nat.add_zero, Nat.reduceLeDiff, Int.reduceEq, Nat.reduceMul]
    · simp only [go_sem, Nat.reduceLT, Nat.reduceEqDiff, ↓reduceIte, Nat.reduceAdd, Nat.zero_add, Nat.add_zero, Nat.reduceLeDiff, Int.reduceEq, Nat.reduceMul]
    · simp only [go_sem, Nat.reduceLT, Nat.reduceEqDiff, ↓reduceIte, Nat.reduceAdd, Nat.zero_add, Nat.add_zero, Nat.reduceLeDiff, Int.reduceEq, Nat.reduceMul, geoOf, GeoD.cells, w64]
    · intro b hb
      simp only [go_sem, Nat.reduceLT, Nat.reduceEqDiff, ↓reduceIte, Nat.reduceAdd, Nat.zero_add, Nat.add_zero, Nat.reduceLeDiff, Int.reduceEq, Nat.reduceMul, hb]
  rintro τ Y ⟨y0, y6, y13, yn, yg, yk⟩
  have yi := (yk i xil').trans xi
  have yb := (yk H.next xbl).trans xb
  have yit := (yk it (AHeap.get_lt xit)).trans xit
  have yinn := (yk inn (AHeap.get_lt xinn)).trans xinn
  have yil := (yk il (AHeap.get_lt xil)).trans xil
  have yi' : i < Y.next := AHeap.get_lt yi
  have yb' : H.next < Y.next := AHeap.get_lt yb
  have yg' : X.next < Y.next := AHeap.get_lt yg
  have yiA : ∀ k, i < Y.next + k := fun k => by omega
  have yiB : ∀ k, i ≠ Y.next + k := fun k => by omega
  have ybA : ∀ k, H.next < Y.next + k := fun k => by omega
  have ybB : ∀ k, H.next ≠ Y.next + k := fun k => by omega
  have ygA : ∀ k, X.next < Y.next + k := fun k => by omega
  have ygB : ∀ k, X.next ≠ Y.next + k := fun k => by omega
  have q5 : X.next ≠ i := by omega
  have q6 : X.next ≠ H.next := by omega
  have fin : ∀ (Z : AHeap) (sr' sg' : Value), Y.next ≤ Z.next → (∀ j, j < lo → Z.get j = Y.get j) → Z.get it = Y.get it → Z.get inn = Y.get inn → Z.get il = Y.get il →
      Z.get i = some (.cells [sr', .map (some it), .slice none 0 0, .map (some inn), .map (some il), sg', .int .i64 (w64 ((geoOf total (RegD.mk rname rlev rcats rblocks rnodes rframes rprocs ropens rclear)).data + rblocks))] false [] 0) →
      RowS Z lo i sr' (regs ++ [(RegD.mk rname rlev rcats rblocks rnodes rframes rprocs ropens rclear)]).length 9 ((regs ++ [(RegD.mk rname rlev rcats rblocks rnodes rframes rprocs ropens rclear)]).flatMap RegD.cells) → RowS Z lo i sg' (geos ++ [geoOf total (RegD.mk rname rlev rcats rblocks rnodes rframes rprocs ropens rclear)]).length 6 ((geos ++ [geoOf total (RegD.mk rname rlev rcats rblocks rnodes rframes rprocs ropens rclear)]).flatMap GeoD.cells) →
      Value.int .i64 0 = Value.int .i64 (addErr many regs (RegD.mk rname rlev rcats rblocks rnodes rframes rprocs ropens rclear)) ∧ KeepLo lo H Z ∧ (addErr many regs (RegD.mk rname rlev rcats rblocks rnodes rframes rprocs ropens rclear) = 0 → ConfK Z lo i (regs ++ [(RegD.mk rname rlev rcats rblocks rnodes rframes rprocs ropens rclear)]) (geos ++ [geoOf total (RegD.mk rname rlev rcats rblocks rnodes rframes rprocs ropens rclear)]) (w64 ((geoOf total (RegD.mk rname rlev rcats rblocks rnodes rframes rprocs ropens rclear)).data + rblocks))) := by
    intro Z sr' sg' f1 f2 f3 f4 f5 f6 f7 f8
    refine ⟨by rw [hv], ⟨by have := xk.le; omega, fun j hj => ?_⟩, fun _ => ⟨⟨it, inn, il, sr', sg', f6, ?_, ?_, ?_, f7, f8, l1, l2, l3, d1, d2, d3⟩, hlow, by simp [hsame]⟩⟩
    · rw [f2 j hj, yk j (by omega), xk.old j hj]
    · rw [f3, yit]
    · rw [f4, yinn, List.map_append, List.map_singleton, ents_append]
      simp
    · rw [f5, yil, List.map_append, List.map_singleton, ents_append]
      simp [labV]
  refine codeW_any (cxS_ok s6_ok) inf44_14 (by kernel_rfl) fun hL => ?_
  rcases hsr with ⟨z1, rfl, z3⟩ | ⟨b, par, z1, rfl, z3, z4, z5⟩
  · obtain rfl : regs = [] := List.length_eq_zero_iff.1 z1
    obtain rfl : geos = [] := List.length_eq_zero_iff.1 hsame
    rcases hsg with ⟨_, rfl, _⟩ | ⟨b, par, z1, _⟩
    rotate_left
    · simp at z1
    simp only [inf44_14, go_sem, Nat.reduceLT, Nat.reduceEqDiff, ↓reduceIte, Nat.reduceAdd, Nat.zero_add, Nat.add_zero, Nat.reduceLeDiff, Int.reduceEq, Nat.reduceMul, List.take_zero, List.drop_succ_cons, List.drop_zero, List.nil_append, List.append_nil, List.drop_nil, List.take_succ_cons, List.take_nil, List.cons_append, Int.toNat_natCast, Int.toNat_zero, Int.toNat_one, y0, y6, y13, yi, yb, yg, yi', yb', yg', yiA, yiB, ybA, ybB, ygA, ygB, q1, q5, q6, Ne.symm q1, Ne.symm q5, Ne.symm q6, GeoD.cells]
    have w1 : it < Y.next := AHeap.get_lt yit
    have w2 : inn < Y.next := AHeap.get_lt yinn
    have w3 : il < Y.next := AHeap.get_lt yil
    refine fin _ (.slice (some ⟨Y.next + 1, 0, none⟩) 1 (grow + 1)) (.slice (some ⟨Y.next + 3, 0, none⟩) 1 (grow + 1)) ?_ ?_ ?_ ?_ ?_ ?_ ?_ ?_
    · simp only [go_sem, Nat.reduceLT, Nat.reduceEqDiff, ↓reduceIte, Nat.reduceAdd, Nat.zero_add, Nat.add_zero, Nat.reduceLeDiff, Int.reduceEq, Nat.reduceMul]
    · intro j hj
      have a1 : j ≠ i := by omega
      have a2 : ∀ k, j ≠ Y.next + k := fun k => by omega
      have a3 : j ≠ Y.next := by omega
      simp only [go_sem, Nat.reduceLT, Nat.reduceEqDiff, ↓reduceIte, Nat.reduceAdd, Nat.zero_add, Nat.add_zero, Nat.reduceLeDiff, Int.reduceEq, Nat.reduceMul, a1, a2, a3, yi', yiA]
    · have a2 : ∀ k, it ≠ Y.next + k := fun k => by omega
      simp only [go_sem, Nat.reduceLT, Nat.reduceEqDiff, ↓reduceIte, Nat.reduceAdd, Nat.zero_add, Nat.add_zero, Nat.reduceLeDiff, Int.reduceEq, Nat.reduceMul, w1, a2, Ne.symm n1, yi', yiA]
    · have a2 : ∀ k, inn ≠ Y.next + k := fun k => by omega
      simp only [go_sem, Nat.reduceLT, Nat.reduceEqDiff, ↓reduceIte, Nat.reduceAdd, Nat.zero_add, Nat.add_zero, Nat.reduceLeDiff, Int.reduceEq, Nat.reduceMul, w2, a2, Ne.symm n2, yi', yiA]
    · have a2 : ∀ k, il ≠ Y.next + k := fun k => by omega
      simp only [go_sem, Nat.reduceLT, Nat.reduceEqDiff, ↓reduceIte, Nat.reduceAdd, Nat.zero_add, Nat.add_zero, Nat.reduceLeDiff, Int.reduceEq, Nat.reduceMul, w3, a2, Ne.symm n3, yi', yiA]
    · simp only [go_sem, Nat.reduceLT, Nat.reduceEqDiff, ↓reduceIte, Nat.reduceAdd, Nat.zero_add, Nat.add_zero, Nat.reduceLeDiff, Int.reduceEq, Nat.reduceMul, yi', yiA]; rfl
    · refine .inr ⟨Y.next + 1, [], by simp, rfl, ?_, by omega, by omega⟩
      have a1 : Y.next + 1 ≠ i := by omega
      simp only [go_sem, Nat.reduceLT, Nat.reduceEqDiff, ↓reduceIte, Nat.reduceAdd, Nat.zero_add, Nat.add_zero, Nat.reduceLeDiff, Int.reduceEq, Nat.reduceMul, yi', yiA, a1]
      rfl
    · refine .inr ⟨Y.next + 3, [], by simp, rfl, ?_, by omega, by omega⟩
      have a1 : Y.next + 3 ≠ i := by omega
      simp only [go_sem, Nat.reduceLT, Nat.reduceEqDiff, ↓reduceIte, Nat.reduceAdd, Nat.zero_add, Nat.add_zero, Nat.reduceLeDiff, Int.reduceEq, Nat.reduceMul, yi', yiA, a1]
      rfl
  · rcases hsg with ⟨h0, _⟩ | ⟨bg, parg, u1, rfl, u3, u4, u5⟩
    · omega
    have yr := (yk b (by have := AHeap.get_lt z3; omega)).trans ((xrow b _ _ _ _ z3).trans z3)
    have ys := (yk bg (by have := AHeap.get_lt u3; omega)).trans ((xrow bg _ _ _ _ u3).trans u3)
    have hb : b < H.next := AHeap.get_lt z3
    have hbg : bg < H.next := AHeap.get_lt u3
    have hbb : b ≠ bg := fun e => by rw [e, u3] at z3; injection z3 with z3; injection z3 with _ _ _ h; omega
    have hlen : regs.length * 9 = (regs.flatMap RegD.cells).length := (flat_len RegD.cells_length regs).symm
    have hleng : geos.length * 6 = (geos.flatMap GeoD.cells).length := (flat_len GeoD.cells_length geos).symm
    have a1 := fun o vs => appW_more (sz := 9) (by_ := 72) (n := 1) (l := regs.length) (b := b) (vs := vs) (cs := regs.flatMap RegD.cells) (par := par) (H := Y.new o) (by omega) (by rw [get_new_old o (by omega)]; exact yr) hlen (by omega) (by unfold grow; omega)
    have a2 : ∀ (Z : AHeap) (vs : List Value), Z.get bg = some (.cells (geos.flatMap GeoD.cells) false parg 6) → appW 6 48 (.slice (some ⟨bg, 0, none⟩) geos.length (grow + geos.length)) (some (1, vs)) Z = some (.slice (some ⟨Z.next, 0, none⟩) (geos.length + 1) (grow + (geos.length + 1)), (Z.set bg (.cells (geos.flatMap GeoD.cells) true parg 6)).new (.cells (geos.flatMap GeoD.cells ++ vs) false (bg :: parg) 6)) :=
      fun Z vs hz => appW_more (by omega) hz hleng (by omega) (by unfold grow; omega)
    have hbY : b < Y.next := by omega
    have hbgY : bg < Y.next := by omega
    have bA : ∀ k, b < Y.next + k := fun k => by omega
    have bB : ∀ k, b ≠ Y.next + k := fun k => by omega
    have gA : ∀ k, bg < Y.next + k := fun k => by omega
    have gB : ∀ k, bg ≠ Y.next + k := fun k => by omega
    have r1 : b ≠ H.next := by omega
    have r2 : bg ≠ H.next := by omega
    have r3 : b ≠ X.next := by omega
    have r4 : bg ≠ X.next := by omega
    have hgr : Grew Y := by obtain ⟨μ, a, w, hR, _⟩ := hL; exact hR.grew
    have pr := hgr b _ yr
    have pg := hgr bg _ ys
    have p1 : i ∉ par := fun h => by have := (pr i h).2 _ yi; cases this
    have p2 : X.next ∉ par := fun h => by have := (pr _ h).2 _ yg; cases this
    have p3 : X.next ∉ parg := fun h => by have := (pg _ h).2 _ yg; cases this
    have p4 : H.next ∉ par := fun h => by have := (pr _ h).2 _ yb; cases this
    have p5 : H.next ∉ parg := fun h => by have := (pg _ h).2 _ yb; cases this
    simp only [inf44_14, go_sem, Nat.reduceLT, Nat.reduceEqDiff, ↓reduceIte, Nat.reduceAdd, Nat.zero_add, Nat.add_zero, Nat.reduceLeDiff, Int.reduceEq, Nat.reduceMul, List.take_zero, List.drop_succ_cons, List.drop_zero, List.nil_append, List.append_nil, List.drop_nil, List.take_succ_cons, List.take_nil, List.cons_append, Int.toNat_natCast, Int.toNat_zero, Int.toNat_one, y0, y6, y13, yi, yb, yg, yr, ys, yi', yb', yg', yiA, yiB, ybA, ybB, ygA, ygB, q1, q5, q6, Ne.symm q1, Ne.symm q5, Ne.symm q6, GeoD.cells, a1, a2, hbY, hbgY, bA, bB, gA, gB, r1, r2, r3, r4, Ne.symm r1, Ne.symm r2, Ne.symm r3, Ne.symm r4, z5, u5, Ne.symm z5, Ne.symm u5, hbb, Ne.symm hbb, p1, p2, p3, p4, p5]
    refine ⟨fun a ha => ?_, ?_⟩
    · rcases ha with ha | ha | ha
      · have := (pr a ha).1; omega
      · omega
      · cases ha
    have w1 : it < Y.next := AHeap.get_lt yit
    have w2 : inn < Y.next := AHeap.get_lt yinn
    have w3 : il < Y.next := AHeap.get_lt yil
    have ne1 : ∀ j o, Y.get j = some o → (∀ cs ro par gs, o ≠ .cells cs ro par gs) → j ≠ b ∧ j ≠ bg := fun j o h1 h2 => ⟨(fun e => by rw [e, yr] at h1; injection h1 with h1; exact h2 _ _ _ _ h1.symm), (fun e => by rw [e, ys] at h1; injection h1 with h1; exact h2 _ _ _ _ h1.symm)⟩
    obtain ⟨m1, m2⟩ := ne1 it _ yit (by intros; simp)
    obtain ⟨m3, m4⟩ := ne1 inn _ yinn (by intros; simp)
    obtain ⟨m5, m6⟩ := ne1 il _ yil (by intros; simp)
    refine fin _ (.slice (some ⟨Y.next + 1, 0, none⟩) (regs.length + 1) (grow + (regs.length + 1))) (.slice (some ⟨Y.next + 3, 0, none⟩) (geos.length + 1) (grow + (geos.length + 1))) ?_ ?_ ?_ ?_ ?_ ?_ ?_ ?_
    · simp only [go_sem, Nat.reduceLT, Nat.reduceEqDiff, ↓reduceIte, Nat.reduceAdd, Nat.zero_add, Nat.add_zero, Nat.reduceLeDiff, Int.reduceEq, Nat.reduceMul]
    · intro j hj
      have a1 : j ≠ i := by omega
      have a2 : ∀ k, j ≠ Y.next + k := fun k => by omega
      have a3 : j ≠ Y.next := by omega
      have a4 : j ≠ b := by omega
      have a5 : j ≠ bg := by omega
      simp only [go_sem, Nat.reduceLT, Nat.reduceEqDiff, ↓reduceIte, Nat.reduceAdd, Nat.zero_add, Nat.add_zero, Nat.reduceLeDiff, Int.reduceEq, Nat.reduceMul, a1, a2, a3, a4, a5, yi', yiA, hbY, hbgY, bA, gA]
    · have a2 : ∀ k, it ≠ Y.next + k := fun k => by omega
      have a3 : it ≠ Y.next := by omega
      simp only [go_sem, Nat.reduceLT, Nat.reduceEqDiff, ↓reduceIte, Nat.reduceAdd, Nat.zero_add, Nat.add_zero, Nat.reduceLeDiff, Int.reduceEq, Nat.reduceMul, a2, a3, Ne.symm n1, yi', yiA, hbY, hbgY, bA, gA, m1, m2]
    · have a2 : ∀ k, inn ≠ Y.next + k := fun k => by omega
      have a3 : inn ≠ Y.next := by omega
      simp only [go_sem, Nat.reduceLT, Nat.reduceEqDiff, ↓reduceIte, Nat.reduceAdd, Nat.zero_add, Nat.add_zero, Nat.reduceLeDiff, Int.reduceEq, Nat.reduceMul, a2, a3, Ne.symm n2, yi', yiA, hbY, hbgY, bA, gA, m3, m4]
    · have a2 : ∀ k, il ≠ Y.next + k := fun k => by omega
      have a3 : il ≠ Y.next := by omega
      simp only [go_sem, Nat.reduceLT, Nat.reduceEqDiff, ↓reduceIte, Nat.reduceAdd, Nat.zero_add, Nat.add_zero, Nat.reduceLeDiff, Int.reduceEq, Nat.reduceMul, a2, a3, Ne.symm n3, yi', yiA, hbY, hbgY, bA, gA, m5, m6]
    · simp only [go_sem, Nat.reduceLT, Nat.reduceEqDiff, ↓reduceIte, Nat.reduceAdd, Nat.zero_add, Nat.add_zero, Nat.reduceLeDiff, Int.reduceEq, Nat.reduceMul, yi', yiA, hbY, hbgY, bA, gA]; rfl
    · refine .inr ⟨Y.next + 1, b :: par, by simp, by simp, ?_, by omega, by omega⟩
      have a1 : Y.next + 1 ≠ i := by omega
      have a2 : Y.next + 1 ≠ bg := by omega
      simp only [go_sem, Nat.reduceLT, Nat.reduceEqDiff, ↓reduceIte, Nat.reduceAdd, Nat.zero_add, Nat.add_zero, Nat.reduceLeDiff, Int.reduceEq, Nat.reduceMul, yi', yiA, hbY, hbgY, bA, gA, a1, a2, List.flatMap_append, List.flatMap_cons, List.flatMap_nil, List.append_nil, RegD.cells]
    · refine .inr ⟨Y.next + 3, bg :: parg, by simp, by simp, ?_, by omega, by omega⟩
      have a1 : Y.next + 3 ≠ i := by omega
      simp only [go_sem, Nat.reduceLT, Nat.reduceEqDiff, ↓reduceIte, Nat.reduceAdd, Nat.zero_add, Nat.add_zero, Nat.reduceLeDiff, Int.reduceEq, Nat.reduceMul, yi', yiA, hbY, hbgY, bA, gA, a1, List.flatMap_append, List.flatMap_cons, List.flatMap_nil, List.append_nil, GeoD.cells]
end Go.Proofs.YtkjclebafpomhaaDoor
set_option linter.unusedVariables false
set_option linter.unusedSimpArgs false
set_option maxRecDepth 100000
namespace Go.Proofs.YtkjclebafpomhaaDoor
open Go Go.Eng

/-- A row whose elements, from its start on, are known. -/
def Elems {α : Type} (f : α → List Value) (n : Nat) (row : List Value) (l : List α) : Prop := ∀ k a, l[k]? = some a → (row.drop (k * n)).take n = f a ∧ k * n + n ≤ row.length
/-- A slice of such. -/
def SlcE {α : Type} (H : AHeap) (s : Value) (f : α → List Value) (n : Nat) (l : List α) : Prop := (l = [] ∧ s = .slice none 0 0) ∨ ∃ b c row ro par gs, s = .slice (some ⟨b, 0, none⟩) l.length c ∧ H.get b = some (.cells row ro par gs) ∧ Elems f n row l
theorem Elems.part {α : Type} {f : α → List Value} {n : Nat} {row : List Value} {l : List α} (h : Elems f n row l) (k o m : Nat) (a : α) (ha : l[k]? = some a) (hm : o + m ≤ n) : (row.drop (k * n + o)).take m = ((f a).drop o).take m ∧ k * n + o + m ≤ row.length := by
  obtain ⟨h1, h2⟩ := h k a ha
  refine ⟨?_, by omega⟩
  rw [← h1, ← List.drop_drop, List.drop_take, List.take_take]
  congr 1
  omega
theorem ConfK.keeps {H H' : AHeap} {lo i : Nat} {regs : List RegD} {geos : List GeoD} {total : Int} (h : ConfK H lo i regs geos total) (k : Keeps [] H H') : ConfK H' lo i regs geos total := by
  obtain ⟨⟨it, inn, il, sr, sg, h1, h2, h3, h4, h5, h6, r⟩, h7, h8⟩ := h
  have rs : ∀ {s n sz cs}, RowS H lo i s n sz cs → RowS H' lo i s n sz cs := by
    rintro s n sz cs (h | ⟨b, par, a1, a2, a3, a4, a5⟩)
    · exact .inl h
    · exact .inr ⟨b, par, a1, a2, k.get a3 (by simp), a4, a5⟩
  exact ⟨⟨it, inn, il, sr, sg, k.get h1 (by simp), k.get h2 (by simp), k.get h3 (by simp), k.get h4 (by simp), rs h5, rs h6, r⟩, h7, h8⟩
theorem KeepLo.trans {lo : Nat} {H H1 H2 : AHeap} (a : KeepLo lo H H1) (b : KeepLo lo H1 H2) : KeepLo lo H H2 := ⟨Nat.le_trans a.le b.le, fun j hj => (b.old j hj).trans (a.old j hj)⟩
theorem KeepLo.of {lo : Nat} {H H1 : AHeap} (k : Keeps [] H H1) (h : lo ≤ H.next) : KeepLo lo H H1 := ⟨k.le, fun j hj => k.old j (by omega) (by simp)⟩

def addsErr (many : Int) : List RegD → List RegD → Int
  | _, [] => 0
  | d, r :: l => if addErr many d r = 0 then addsErr many (d ++ [r]) l else addErr many d r
def geosFrom : Int → List RegD → List GeoD × Int
  | t, [] => ([], t)
  | t, r :: l => (geoOf t r :: (geosFrom (w64 ((geoOf t r).data + r.blocks)) l).1, (geosFrom (w64 ((geoOf t r).data + r.blocks)) l).2)
theorem geosFrom_snoc (r : RegD) : ∀ (l : List RegD) (t : Int), geosFrom t (l ++ [r]) = ((geosFrom t l).1 ++ [geoOf (geosFrom t l).2 r], w64 ((geoOf (geosFrom t l).2 r).data + r.blocks)) := by
  intro l
  induction l with
  | nil => intro t; rfl
  | cons a l ih => intro t; simp only [List.cons_append, geosFrom, ih]
def marksErr (regs : List RegD) : List (Int × Int) → List (Int × Int) → Int
  | _, [] => 0
  | d, m :: l => if (regs.length : Int) ≤ m.1 ∨ m.2 < 1 ∨ (regs.getD m.1.toNat zeroReg).nodes < m.2 then 27 else if (d.any fun x => (m.1 == x.1) && (m.2 == x.2)) = true then 29 else marksErr regs (d ++ [m]) l
def leqsFrom (regs : List RegD) : List RegD → Nat → Bool
  | [], _ => true
  | r :: l, k => leqR regs k r.clear && leqsFrom regs l (k + 1)
def newErr (regs : List RegD) (marks : List (Int × Int)) : Int :=
  if regs.length = 0 ∨ 64 < regs.length then 23 else if addsErr regs.length [] regs ≠ 0 then addsErr regs.length [] regs else
  if ((regs.getD 0 zeroReg).lev == 0 && (regs.getD 0 zeroReg).cats == 0) = false then 25 else if leqsFrom regs regs 0 = false then 2 else marksErr regs [] marks
def mkC (m : Int × Int) : List Value := [.int .u8 m.1, .int .u16 m.2]

/-- What New brings forth: with what is trusted. -/
def entB (l : List (Int × Int)) : List MapEntry := l.zipIdx.map fun p => { key := labV p.1, val := .bool true, born := p.2 }
theorem entB_append (l : List (Int × Int)) (a : Int × Int) : entB (l ++ [a]) = entB l ++ [{ key := labV a, val := .bool true, born := l.length }] := by
  unfold entB
  rw [List.zipIdx_append, List.map_append]
  simp
theorem entB_keys (l : List (Int × Int)) : (entB l).map (·.key) = l.map labV := by
  unfold entB
  rw [List.map_map]
  have : ((fun x : MapEntry => x.key) ∘ fun p : (Int × Int) × Nat => ({ key := labV p.1, val := .bool true, born := p.2 } : MapEntry)) = labV ∘ Prod.fst := rfl
  rw [this, ← List.map_map, List.zipIdx_map_fst]
structure ConfM (H : AHeap) (lo i : Nat) (regs : List RegD) (geos : List GeoD) (total : Int) (marks : List (Int × Int)) : Prop where
  all : ∃ it inn il sr sm sg, H.get i = some (.cells [sr, .map (some it), sm, .map (some inn), .map (some il), sg, .int .i64 total] false [] 0) ∧ H.get it = some (.map (entB marks) marks.length false) ∧
    H.get inn = some (.map (ents .string (regs.map (·.name))) regs.length false) ∧ H.get il = some (.map (ents labV (regs.map fun r => (r.lev, r.cats))) regs.length false) ∧
    RowS H lo i sr regs.length 9 (regs.flatMap RegD.cells) ∧ RowS H lo i sm marks.length 2 (marks.flatMap mkC) ∧ RowS H lo i sg geos.length 6 (geos.flatMap GeoD.cells) ∧ lo ≤ it ∧ lo ≤ inn ∧ lo ≤ il ∧ it ≠ inn ∧ it ≠ il ∧ inn ≠ il
  low : lo ≤ i
  same : geos.length = regs.length
theorem ConfK.toM {H : AHeap} {lo i : Nat} {regs : List RegD} {geos : List GeoD} {total : Int} (h : ConfK H lo i regs geos total) : ConfM H lo i regs geos total [] := by
  obtain ⟨⟨it, inn, il, sr, sg, h1, h2, h3, h4, h5, h6, r⟩, h7, h8⟩ := h
  exact ⟨⟨it, inn, il, sr, _, sg, h1, h2, h3, h4, h5, .inl ⟨rfl, rfl, rfl⟩, h6, r⟩, h7, h8⟩
theorem ConfM.keeps {H H' : AHeap} {lo i : Nat} {regs : List RegD} {geos : List GeoD} {total : Int} {marks : List (Int × Int)} (h : ConfM H lo i regs geos total marks) (k : Keeps [] H H') : ConfM H' lo i regs geos total marks := by
  obtain ⟨⟨it, inn, il, sr, sm, sg, h1, h2, h3, h4, h5, h6, h6', r⟩, h7, h8⟩ := h
  have rs : ∀ {s n sz cs}, RowS H lo i s n sz cs → RowS H' lo i s n sz cs := by
    rintro s n sz cs (h | ⟨b, par, a1, a2, a3, a4, a5⟩)
    · exact .inl h
    · exact .inr ⟨b, par, a1, a2, k.get a3 (by simp), a4, a5⟩
  exact ⟨⟨it, inn, il, sr, sm, sg, k.get h1 (by simp), k.get h2 (by simp), k.get h3 (by simp), k.get h4 (by simp), rs h5, rs h6, rs h6', r⟩, h7, h8⟩
theorem ConfM.isConf {H : AHeap} {lo i : Nat} {regs : List RegD} {geos : List GeoD} {total : Int} {marks : List (Int × Int)} (h : ConfM H lo i regs geos total marks) (h0 : regs.length ≠ 0) (hn : regs.length ≤ 64) : ∃ ir ig, IsConf H i ir ig regs geos total := by
  obtain ⟨⟨it, inn, il, sr, sm, sg, h1, h2, h3, h4, h5, h6, h6', r⟩, h7, h8⟩ := h
  rcases h5 with ⟨h, _⟩ | ⟨b, par, a1, rfl, a3, a4, a5⟩
  · exact absurd h h0
  rcases h6' with ⟨h, _⟩ | ⟨bg, parg, b1, rfl, b3, b4, b5⟩
  · exact absurd h (by omega)
  exact ⟨b, bg, ⟨⟨_, _, _, _, _, _, _, _, _, h1⟩, ⟨_, _, _, a3⟩, ⟨_, _, _, b3⟩, h8, by omega⟩⟩
def inf20_22 : Info := [([13], [], false), ([71], [], false), ([72], [], false), ([0], [0, 1, 2], false), ([74], [0, 1, 2], false), ([73, 75], [], false), ([76], [], false), ([13, 77], [], false), ([78, 77], [], false), ([79, 77], [], false), ([77, 80], [], false), ([81], [], false), ([13, 82], [], false), ([83, 82], [], false), ([84, 82], [], false), ([0, 82], [12, 13, 14], false), ([13, 82], [12, 13, 14, 15], false), ([87, 82], [12, 13, 14, 15], false), ([86, 88, 82], [12, 13, 14], false), ([89, 82], [12, 13, 14], false), ([90, 82], [12, 13, 14], false), ([85, 91, 82], [], false), ([82, 92], [], false), ([93], [], false)]
def inf20_24 : Info := [([6], [], false), ([95], [], false), ([96], [], false), ([97], [], false), ([13], [0, 1, 2, 3], false), ([98, 99], [], false), ([100], [], false)]
def inf20_26 : Info := [([6], [], false), ([101], [], false), ([102], [], false), ([103], [], false), ([13], [0, 1, 2, 3], false), ([104, 105], [], false)]
def inf20_27 : Info := [([6], [], false), ([6], [0], false), ([107], [0], false), ([108], [0], false), ([109], [0], false), ([13], [0, 1, 2, 3, 4], false), ([111], [0, 1, 2, 3, 4], false), ([110, 112], [0], false), ([106], [], false), ([114], [], false), ([115, 113], [], false)]
theorem look96 {H : AHeap} {r ck : Nat} {ro : Bool} {l : List (Int × Int)} (hg : H.get r = some (.map (entB l) ck ro)) (a b : Int) : aLookup Tryd.prog tb 96 (.map (some r)) (.agg #[.int .u8 a, .int .u16 b]) false H = some (.bool (l.any fun x => (a == x.1) && (b == x.2))) := by
  have hz : zeroT tb 4 = some (.bool false) := by kernel_rfl
  have hf := find96 a b l (entB l) (entB_keys l)
  have hf : aFind Tryd.prog tb 48 (.agg #[.int .u8 a, .int .u16 b]) (entB l) = _ := hf
  unfold aLookup
  simp only [und96, hg, chk48]
  rw [if_pos (show flat 2 (.agg #[.int .u8 a, .int .u16 b]) = true from rfl), hf]
  have := spot_any (fun x : Int × Int => (a == x.1) && (b == x.2)) l 0
  cases h : spot (fun x : Int × Int => (a == x.1) && (b == x.2)) l 0 with
  | none =>
    rw [h] at this
    rw [← this]
    simp only [hz, Option.map_some, Bool.false_eq_true, if_false]; rfl
  | some j =>
    rw [h] at this
    rw [← this]
    obtain ⟨_, x, hx, _⟩ := spot_some l 0 j h
    have he : (entB l)[j]? = some { key := labV x, val := .bool true, born := j } := by
      unfold entB
      rw [List.getElem?_map, List.getElem?_zipIdx]
      rw [Nat.sub_zero] at hx
      simp [hx]
    simp only [Bool.false_eq_true, if_false, List.getD_eq_getElem?_getD, he, Option.getD_some]
    rfl
theorem update96 {H : AHeap} {r : Nat} {l : List (Int × Int)} (hg : H.get r = some (.map (entB l) l.length false)) {a b : Int} (hn : (l.any fun x => (a == x.1) && (b == x.2)) = false) :
    aMapUpdate Tryd.prog tb 96 (.map (some r)) (.agg #[.int .u8 a, .int .u16 b]) (.bool true) H = some (H.set r (.map (entB (l ++ [(a, b)])) (l.length + 1))) := by
  have hf := find96 a b l (entB l) (entB_keys l)
  have hf : aFind Tryd.prog tb 48 (.agg #[.int .u8 a, .int .u16 b]) (entB l) = _ := hf
  unfold aMapUpdate
  simp only [und96, hg, chk48, hf, spot_none hn]
  rw [if_pos (show flat 2 (.agg #[.int .u8 a, .int .u16 b]) = true from rfl), entB_append]
  rfl
theorem s3_44 : s3 44 = none := id rfl
theorem s3_45 : s3 45 = none := id rfl
theorem new_cM {H : AHeap} {sr sm : Value} {regs : List RegD} {marks : List (Int × Int)} (hr : SlcE H sr RegD.cells 9 regs) (hm : SlcE H sm mkC 2 marks) (hmw : ∀ m ∈ marks, 0 ≤ m.1 ∧ m.1 ≤ 255 ∧ 0 ≤ m.2 ∧ m.2 ≤ 65535) (hml : marks.length ≤ 1000) :
    ACalls Tryd.prog 4 20 [sr, sm] H fun v H' => Keeps [] H H' ∧ ((newErr regs marks ≠ 0 ∧ v = .tuple #[.pointer none, .int .i64 (newErr regs marks)]) ∨
      (newErr regs marks = 0 ∧ ∃ i, v = .tuple #[.pointer (some ⟨i, 0, none⟩), .int .i64 0] ∧ regs.length ≠ 0 ∧ regs.length ≤ 64 ∧ ConfM H' H.next i regs (geosFrom 32 regs).1 (geosFrom 32 regs).2 marks)) := by
  have hsl : ∃ ra ca, sr = .slice ra regs.length ca := by
    rcases hr with ⟨rfl, rfl⟩ | ⟨b, c, row, ro, par, gs, rfl, _⟩
    · exact ⟨none, 0, rfl⟩
    · exact ⟨_, _, rfl⟩
  obtain ⟨ra, ca, hsr⟩ := hsl
  refine walk s3_ok (fn := Tryd.f20) (by kernel_rfl) (c := Tryd.f20.body.get (by kernel_rfl)) (by kernel_rfl) (by simp [Tryd.f20]) ?_
  simp only [Tryd.f20, Option.get]
  by_cases c1 : (regs.length : Int) = 0
  · have hv : newErr regs marks = 23 := by unfold newErr; rw [if_pos (.inl (by omega))]
    subst hsr
    simp only [go_sem, Nat.reduceLT, Nat.reduceEqDiff, ↓reduceIte, Nat.reduceAdd, Nat.zero_add, Nat.add_zero, Nat.reduceLeDiff, Int.reduceEq, Nat.reduceMul, List.take_zero, List.drop_succ_cons, List.drop_zero, List.nil_append, List.append_nil, List.drop_nil, List.take_succ_cons, List.take_nil, List.cons_append, Int.toNat_natCast, Int.toNat_zero, Int.toNat_one, c1, hv]
  by_cases c2 : 64 < (regs.length : Int)
  · have hv : newErr regs marks = 23 := by unfold newErr; rw [if_pos (.inr (by omega))]
    subst hsr
    simp only [go_sem, Nat.reduceLT, Nat.reduceEqDiff, ↓reduceIte, Nat.reduceAdd, Nat.zero_add, Nat.add_zero, Nat.reduceLeDiff, Int.reduceEq, Nat.reduceMul, List.take_zero, List.drop_succ_cons, List.drop_zero, List.nil_append, List.append_nil, List.drop_nil, List.take_succ_cons, List.take_nil, List.cons_append, Int.toNat_natCast, Int.toNat_zero, Int.toNat_one, c1, c2, hv]
  rcases hr with ⟨rfl, _⟩ | ⟨ia, ca', row, ro, par, gs, e0, hrow, hel⟩
  · simp at c1
  rw [hsr] at e0
  injection e0 with e1 e2 e3
  subst e1; subst e3
  subst hsr
  have hia : ia < H.next := AHeap.get_lt hrow
  have hnl : regs.length ≤ 64 := by omega
  have hlen0 : ¬ (regs.length = 0 ∨ 64 < regs.length) := by omega
  simp only [go_sem, Nat.reduceLT, Nat.reduceEqDiff, ↓reduceIte, Nat.reduceAdd, Nat.zero_add, Nat.add_zero, Nat.reduceLeDiff, Int.reduceEq, Nat.reduceMul, List.take_zero, List.drop_succ_cons, List.drop_zero, List.nil_append, List.append_nil, List.drop_nil, List.take_succ_cons, List.take_nil, List.cons_append, Int.toNat_natCast, Int.toNat_zero, Int.toNat_one, c1, c2]
  refine codeW_loop (fun nn τ X => ∃ k, nn = regs.length - k ∧ k ≤ regs.length ∧ tget τ 0 = .slice (some ⟨ia, 0, none⟩) regs.length ca ∧ tget τ 1 = sm ∧ tget τ 6 = .pointer (some ⟨H.next + 3, 0, none⟩) ∧ tget τ 27 = .slice (some ⟨ia, 0, none⟩) regs.length ca ∧
    tget τ 28 = .int .i64 regs.length ∧ tget τ 29 = .int .i64 (k : Nat) ∧ KeepLo H.next H X ∧ ConfK X H.next (H.next + 3) (regs.take k) (geosFrom 32 (regs.take k)).1 (geosFrom 32 (regs.take k)).2 ∧ addsErr regs.length [] regs = addsErr regs.length (regs.take k) (regs.drop k)) (n := regs.length) ⟨0, rfl, Nat.zero_le _, ?_, ?_, ?_, ?_, ?_, ?_, ?_, ?_, rfl⟩ ?_
  · simp only [go_sem, Nat.reduceLT, Nat.reduceEqDiff, ↓reduceIte, Nat.reduceAdd, Nat.zero_add, Nat.add_zero, Nat.reduceLeDiff, Int.reduceEq, Nat.reduceMul]
  · simp only [go_sem, Nat.reduceLT, Nat.reduceEqDiff, ↓reduceIte, Nat.reduceAdd, Nat.zero_add, Nat.add_zero, Nat.reduceLeDiff, Int.reduceEq, Nat.reduceMul]
  · simp only [go_sem, Nat.reduceLT, Nat.reduceEqDiff, ↓reduceIte, Nat.reduceAdd, Nat.zero_add, Nat.add_zero, Nat.reduceLeDiff, Int.reduceEq, Nat.reduceMul]
  · simp only [go_sem, Nat.reduceLT, Nat.reduceEqDiff, ↓reduceIte, Nat.reduceAdd, Nat.zero_add, Nat.add_zero, Nat.reduceLeDiff, Int.reduceEq, Nat.reduceMul]
  · simp only [go_sem, Nat.reduceLT, Nat.reduceEqDiff, ↓reduceIte, Nat.reduceAdd, Nat.zero_add, Nat.add_zero, Nat.reduceLeDiff, Int.reduceEq, Nat.reduceMul]
  · simp only [go_sem, Nat.reduceLT, Nat.reduceEqDiff, ↓reduceIte, Nat.reduceAdd, Nat.zero_add, Nat.add_zero, Nat.reduceLeDiff, Int.reduceEq, Nat.reduceMul]; rfl
  · refine ⟨by simp only [go_sem, Nat.reduceLT, Nat.reduceEqDiff, ↓reduceIte, Nat.reduceAdd, Nat.zero_add, Nat.add_zero, Nat.reduceLeDiff, Int.reduceEq, Nat.reduceMul], fun j hj => ?_⟩
    have a1 : ∀ k, j ≠ H.next + k := fun k => by omega
    have a2 : j ≠ H.next := by omega
    simp only [go_sem, Nat.reduceLT, Nat.reduceEqDiff, ↓reduceIte, Nat.reduceAdd, Nat.zero_add, Nat.add_zero, Nat.reduceLeDiff, Int.reduceEq, Nat.reduceMul, a1, a2]
  · refine ⟨⟨H.next, H.next + 1, H.next + 2, .slice none 0 0, .slice none 0 0, ?_, ?_, ?_, ?_, .inl ⟨rfl, rfl, rfl⟩, .inl ⟨rfl, rfl, rfl⟩, by omega, by omega, by omega, by omega, by omega, by omega⟩, by omega, rfl⟩
    · simp only [go_sem, Nat.reduceLT, Nat.reduceEqDiff, ↓reduceIte, Nat.reduceAdd, Nat.zero_add, Nat.add_zero, Nat.reduceLeDiff, Int.reduceEq, Nat.reduceMul]; rfl
    · simp only [go_sem, Nat.reduceLT, Nat.reduceEqDiff, ↓reduceIte, Nat.reduceAdd, Nat.zero_add, Nat.add_zero, Nat.reduceLeDiff, Int.reduceEq, Nat.reduceMul]
    · simp only [go_sem, Nat.reduceLT, Nat.reduceEqDiff, ↓reduceIte, Nat.reduceAdd, Nat.zero_add, Nat.add_zero, Nat.reduceLeDiff, Int.reduceEq, Nat.reduceMul]; rfl
    · simp only [go_sem, Nat.reduceLT, Nat.reduceEqDiff, ↓reduceIte, Nat.reduceAdd, Nat.zero_add, Nat.add_zero, Nat.reduceLeDiff, Int.reduceEq, Nat.reduceMul]; rfl
  · rintro nn τ X ⟨k, rfl, hk, t0, t1, t6, t27, t28, t29, hK, hC, hE⟩
    have xia : X.get ia = some (.cells row ro par gs) := (hK.old ia hia).trans hrow
    have hXl := hK.le
    have hia' : ia < X.next := by omega
    by_cases hlt : k < regs.length
    · obtain ⟨r, hr⟩ : ∃ r, regs[k]? = some r := ⟨_, List.getElem?_eq_getElem hlt⟩
      obtain ⟨e1, e2⟩ := hel k r hr
      have hz : (0 : Int) ≤ (k : Int) := by omega
      have hd : (k : Int) < (regs.length : Int) := by omega
      have hw : IntKind.wrap .i64 ((k : Int) + 1) = ((k + 1 : Nat) : Int) := by rw [wrap64] <;> omega
      have hlk : (regs.take k).length = k := by simp; omega
      have hnext : regs.take (k + 1) = regs.take k ++ [r] := by rw [List.take_add_one, hr]; rfl
      have hadd := add_c (hC.keeps (((Keeps.refl [] X).new' (.cells [.string ⟨#[]⟩, .int .u8 0, .int .u16 0, .int .i64 0, .int .i64 0, .int .i64 0, .int .i64 0, .int .i64 0, .int .i64 0] false [] 0)).set' (o := .cells r.cells false [] 0) (i := X.next) (Nat.le_refl _) (by simp))) (by rw [hlk]; omega) r regs.length
      rw [hlk] at hadd
      simp only [go_sem, Nat.reduceLT, Nat.reduceEqDiff, ↓reduceIte, Nat.reduceAdd, Nat.zero_add, Nat.add_zero, Nat.reduceLeDiff, Int.reduceEq, Nat.reduceMul, List.take_zero, List.drop_succ_cons, List.drop_zero, List.nil_append, List.append_nil, List.drop_nil, List.take_succ_cons, List.take_nil, List.cons_append, Int.toNat_natCast, Int.toNat_zero, Int.toNat_one, t0, t1, t6, t27, t28, t29, xia, hia', hz, hd, e1, e2, RegD.cells, s3_44, hw]
      refine callsx_of (cxS_ok s3_ok) (fn := Tryd.f44) (by kernel_rfl) (by kernel_rfl) hadd ?_
      rintro v X2 ⟨rfl, hk2, hc2⟩
      have hk3 : KeepLo H.next H X2 := hK.trans ((KeepLo.of (((Keeps.refl [] X).new' _).set' (i := X.next) (Nat.le_refl _) (by simp)) hXl).trans hk2)
      by_cases he : addErr regs.length (regs.take k) r = 0
      · have hc3 := hc2 he
        rw [← hnext] at hc3
        have hg : geosFrom 32 (regs.take (k + 1)) = ((geosFrom 32 (regs.take k)).1 ++ [geoOf (geosFrom 32 (regs.take k)).2 r], w64 ((geoOf (geosFrom 32 (regs.take k)).2 r).data + r.blocks)) := by rw [hnext, geosFrom_snoc]
        have hE2 : addsErr regs.length [] regs = addsErr regs.length (regs.take (k + 1)) (regs.drop (k + 1)) := by rw [hE, drop_at hr]; simp only [addsErr, he, if_true, hnext]
        simp only [go_sem, Nat.reduceLT, Nat.reduceEqDiff, ↓reduceIte, Nat.reduceAdd, Nat.zero_add, Nat.add_zero, Nat.reduceLeDiff, Int.reduceEq, Nat.reduceMul, List.take_zero, List.drop_succ_cons, List.drop_zero, List.nil_append, List.append_nil, List.drop_nil, List.take_succ_cons, List.take_nil, List.cons_append, Int.toNat_natCast, Int.toNat_zero, Int.toNat_one, t0, t1, t6, t27, t28, t29, he, hw]
        exact ⟨regs.length - (k + 1), by omega, k + 1, rfl, hlt, rfl, hk3, by rw [hg]; exact hc3, hE2⟩
      · have hE2 : addsErr regs.length [] regs = addErr regs.length (regs.take k) r := by rw [hE, drop_at hr]; simp only [addsErr, he, if_false]
        have hv : newErr regs marks = addErr regs.length (regs.take k) r := by unfold newErr; rw [if_neg hlen0, if_pos (by rw [hE2]; exact he), hE2]
        simp only [go_sem, Nat.reduceLT, Nat.reduceEqDiff, ↓reduceIte, Nat.reduceAdd, Nat.zero_add, Nat.add_zero, Nat.reduceLeDiff, Int.reduceEq, Nat.reduceMul, List.take_zero, List.drop_succ_cons, List.drop_zero, List.nil_append, List.append_nil, List.drop_nil, List.take_succ_cons, List.take_nil, List.cons_append, Int.toNat_natCast, Int.toNat_zero, Int.toNat_one, t0, t1, t6, t27, t28, t29, he, hv]
        exact ⟨hk3.le, fun j hj _ => hk3.old j hj⟩
    · have hk' : k = regs.length := by omega
      subst hk'
      have hd : ¬ ((regs.length : Int) < (regs.length : Int)) := by omega
      rw [List.take_length] at hC hE
      rw [List.drop_length] at hE
      have hE0 : addsErr regs.length [] regs = 0 := by rw [hE]; rfl
      obtain ⟨r0, hr0⟩ : ∃ r, regs[0]? = some r := ⟨_, List.getElem?_eq_getElem (by omega)⟩
      have hgd0 : regs.getD 0 zeroReg = r0 := by simp [List.getD_eq_getElem?_getD, hr0]
      obtain ⟨p1, p2⟩ := hel.part 0 1 2 r0 hr0 (by omega)
      simp only [Nat.zero_mul, Nat.zero_add] at p1 p2
      have hpos : (0 : Int) < (regs.length : Int) := by omega
      have hz0 : ((0 : Int) ≤ 0) = True := by simp
      cases c3 : ((r0.lev == 0) && (r0.cats == 0))
      · have hv : newErr regs marks = 25 := by unfold newErr; rw [if_neg hlen0, if_neg (by rw [hE0]; simp), hgd0, if_pos c3]
        simp only [go_sem, Nat.reduceLT, Nat.reduceEqDiff, ↓reduceIte, Nat.reduceAdd, Nat.zero_add, Nat.add_zero, Nat.reduceLeDiff, Int.reduceEq, Nat.reduceMul, List.take_zero, List.drop_succ_cons, List.drop_zero, List.nil_append, List.append_nil, List.drop_nil, List.take_succ_cons, List.take_nil, List.cons_append, Int.toNat_natCast, Int.toNat_zero, Int.toNat_one, t0, t1, t6, t27, t28, t29, xia, hia', hd, hpos, hz0, p1, p2, RegD.cells, neq36, c3, hv]
        exact ⟨hK.le, fun j hj _ => hK.old j hj⟩
      simp only [go_sem, Nat.reduceLT, Nat.reduceEqDiff, ↓reduceIte, Nat.reduceAdd, Nat.zero_add, Nat.add_zero, Nat.reduceLeDiff, Int.reduceEq, Nat.reduceMul, List.take_zero, List.drop_succ_cons, List.drop_zero, List.nil_append, List.append_nil, List.drop_nil, List.take_succ_cons, List.take_nil, List.cons_append, Int.toNat_natCast, Int.toNat_zero, Int.toNat_one, t0, t1, t6, t27, t28, t29, xia, hia', hd, hpos, hz0, p1, p2, RegD.cells, neq36, c3]
      have hM := hC.toM
      refine codeW_loop (fun nn τ X => ∃ k, nn = regs.length - k ∧ k ≤ regs.length ∧ tget τ 0 = .slice (some ⟨ia, 0, none⟩) regs.length ca ∧ tget τ 1 = sm ∧ tget τ 6 = .pointer (some ⟨H.next + 3, 0, none⟩) ∧ tget τ 50 = .slice (some ⟨ia, 0, none⟩) regs.length ca ∧
        tget τ 51 = .int .i64 regs.length ∧ tget τ 52 = .int .i64 (k : Nat) ∧ KeepLo H.next H X ∧ ConfM X H.next (H.next + 3) regs (geosFrom 32 regs).1 (geosFrom 32 regs).2 [] ∧ leqsFrom regs regs 0 = leqsFrom regs (regs.drop k) k) (n := regs.length) ⟨0, rfl, Nat.zero_le _, ?_, ?_, ?_, ?_, ?_, ?_, hK, hM, rfl⟩ ?_
      · simp only [go_sem, Nat.reduceLT, Nat.reduceEqDiff, ↓reduceIte, Nat.reduceAdd, Nat.zero_add, Nat.add_zero, Nat.reduceLeDiff, Int.reduceEq, Nat.reduceMul, t0]
      · simp only [go_sem, Nat.reduceLT, Nat.reduceEqDiff, ↓reduceIte, Nat.reduceAdd, Nat.zero_add, Nat.add_zero, Nat.reduceLeDiff, Int.reduceEq, Nat.reduceMul, t1]
      · simp only [go_sem, Nat.reduceLT, Nat.reduceEqDiff, ↓reduceIte, Nat.reduceAdd, Nat.zero_add, Nat.add_zero, Nat.reduceLeDiff, Int.reduceEq, Nat.reduceMul, t6]
      · simp only [go_sem, Nat.reduceLT, Nat.reduceEqDiff, ↓reduceIte, Nat.reduceAdd, Nat.zero_add, Nat.add_zero, Nat.reduceLeDiff, Int.reduceEq, Nat.reduceMul]
      · simp only [go_sem, Nat.reduceLT, Nat.reduceEqDiff, ↓reduceIte, Nat.reduceAdd, Nat.zero_add, Nat.add_zero, Nat.reduceLeDiff, Int.reduceEq, Nat.reduceMul]
      · simp only [go_sem, Nat.reduceLT, Nat.reduceEqDiff, ↓reduceIte, Nat.reduceAdd, Nat.zero_add, Nat.add_zero, Nat.reduceLeDiff, Int.reduceEq, Nat.reduceMul]; rfl
      clear hK hC hM hE t0 t1 t6 t27 t28 t29 xia hXl hia' hk hlt
      rintro nn τ X ⟨k, rfl, hk, t0, t1, t6, t50, t51, t52, hK, hM, hE⟩
      have xia : X.get ia = some (.cells row ro par gs) := (hK.old ia hia).trans hrow
      have hXl := hK.le
      have hia' : ia < X.next := by omega
      by_cases hlt : k < regs.length
      · obtain ⟨r, hr⟩ : ∃ r, regs[k]? = some r := ⟨_, List.getElem?_eq_getElem hlt⟩
        obtain ⟨e1, e2⟩ := hel k r hr
        have hz : (0 : Int) ≤ (k : Int) := by omega
        have hd : (k : Int) < (regs.length : Int) := by omega
        have hw : IntKind.wrap .i64 ((k : Int) + 1) = ((k + 1 : Nat) : Int) := by rw [wrap64] <;> omega
        have hX : ∀ o o2 : AObj, Keeps [] X ((X.new o).set X.next o2) := fun o o2 => ((Keeps.refl [] X).new' o).set' (i := X.next) (Nat.le_refl _) (by simp)
        have hM2 := hM.keeps (hX (.cells [.string ⟨#[]⟩, .int .u8 0, .int .u16 0, .int .i64 0, .int .i64 0, .int .i64 0, .int .i64 0, .int .i64 0, .int .i64 0] false [] 0) (.cells r.cells false [] 0))
        obtain ⟨ir, ig, hI⟩ := hM2.isConf (by omega) hnl
        have hq := leq_c hI k r.clear
        have hs : leqsFrom regs (regs.drop k) k = (leqR regs k r.clear && leqsFrom regs (regs.drop (k + 1)) (k + 1)) := by rw [drop_at hr]; rfl
        simp only [go_sem, Nat.reduceLT, Nat.reduceEqDiff, ↓reduceIte, Nat.reduceAdd, Nat.zero_add, Nat.add_zero, Nat.reduceLeDiff, Int.reduceEq, Nat.reduceMul, List.take_zero, List.drop_succ_cons, List.drop_zero, List.nil_append, List.append_nil, List.drop_nil, List.take_succ_cons, List.take_nil, List.cons_append, Int.toNat_natCast, Int.toNat_zero, Int.toNat_one, t0, t1, t6, t50, t51, t52, xia, hia', hz, hd, e1, e2, RegD.cells, s3_45, hw]
        refine callsx_of (cxS_ok s3_ok) (fn := Tryd.f45) (by kernel_rfl) (by kernel_rfl) hq ?_
        rintro v X2 ⟨rfl, rfl⟩
        have hk3 := hK.trans (KeepLo.of (hX (.cells [.string ⟨#[]⟩, .int .u8 0, .int .u16 0, .int .i64 0, .int .i64 0, .int .i64 0, .int .i64 0, .int .i64 0, .int .i64 0] false [] 0) (.cells r.cells false [] 0)) hXl)
        cases c4 : leqR regs k r.clear
        · have hv : newErr regs marks = 2 := by
            unfold newErr; rw [if_neg hlen0, if_neg (by rw [hE0]; simp), hgd0, if_neg (by rw [c3]; simp), if_pos (by rw [hE, hs, c4]; rfl)]
          simp only [go_sem, Nat.reduceLT, Nat.reduceEqDiff, ↓reduceIte, Nat.reduceAdd, Nat.zero_add, Nat.add_zero, Nat.reduceLeDiff, Int.reduceEq, Nat.reduceMul, List.take_zero, List.drop_succ_cons, List.drop_zero, List.nil_append, List.append_nil, List.drop_nil, List.take_succ_cons, List.take_nil, List.cons_append, Int.toNat_natCast, Int.toNat_zero, Int.toNat_one, t0, t1, t6, t50, t51, t52, hw, c4, hv]
          exact ⟨hk3.le, fun j hj _ => hk3.old j hj⟩
        · simp only [go_sem, Nat.reduceLT, Nat.reduceEqDiff, ↓reduceIte, Nat.reduceAdd, Nat.zero_add, Nat.add_zero, Nat.reduceLeDiff, Int.reduceEq, Nat.reduceMul, List.take_zero, List.drop_succ_cons, List.drop_zero, List.nil_append, List.append_nil, List.drop_nil, List.take_succ_cons, List.take_nil, List.cons_append, Int.toNat_natCast, Int.toNat_zero, Int.toNat_one, t0, t1, t6, t50, t51, t52, hw, c4]
          exact ⟨regs.length - (k + 1), by omega, k + 1, rfl, hlt, rfl, hk3, hM2, by rw [hE, hs, c4, Bool.true_and]⟩
      · have hk' : k = regs.length := by omega
        subst hk'
        have hd : ¬ ((regs.length : Int) < (regs.length : Int)) := by omega
        rw [List.drop_length] at hE
        have hL : leqsFrom regs regs 0 = true := by rw [hE]; rfl
        have hv0 : newErr regs marks = marksErr regs [] marks := by unfold newErr; rw [if_neg hlen0, if_neg (by rw [hE0]; simp), hgd0, if_neg (by rw [c3]; simp), if_neg (by rw [hL]; simp)]
        have hsm : ∃ ra ca, sm = .slice ra marks.length ca := by
          rcases hm with ⟨rfl, rfl⟩ | ⟨b, c, row, ro, par, gs, rfl, _⟩
          · exact ⟨none, 0, rfl⟩
          · exact ⟨_, _, rfl⟩
        obtain ⟨rm, cm, hsm⟩ := hsm
        subst hsm
        simp only [go_sem, Nat.reduceLT, Nat.reduceEqDiff, ↓reduceIte, Nat.reduceAdd, Nat.zero_add, Nat.add_zero, Nat.reduceLeDiff, Int.reduceEq, Nat.reduceMul, List.take_zero, List.drop_succ_cons, List.drop_zero, List.nil_append, List.append_nil, List.drop_nil, List.take_succ_cons, List.take_nil, List.cons_append, Int.toNat_natCast, Int.toNat_zero, Int.toNat_one, t0, t1, t6, t50, t51, t52, hd]
        refine codeW_loop (fun nn τ X => ∃ k, nn = marks.length - k ∧ k ≤ marks.length ∧ tget τ 0 = .slice (some ⟨ia, 0, none⟩) regs.length ca ∧ tget τ 6 = .pointer (some ⟨H.next + 3, 0, none⟩) ∧ tget τ 64 = .slice rm marks.length cm ∧
          tget τ 65 = .int .i64 marks.length ∧ tget τ 66 = .int .i64 (k : Nat) ∧ KeepLo H.next H X ∧ ConfM X H.next (H.next + 3) regs (geosFrom 32 regs).1 (geosFrom 32 regs).2 (marks.take k) ∧ marksErr regs [] marks = marksErr regs (marks.take k) (marks.drop k)) (n := marks.length) ⟨0, rfl, Nat.zero_le _, ?_, ?_, ?_, ?_, ?_, hK, hM, rfl⟩ ?_
        · simp only [go_sem, Nat.reduceLT, Nat.reduceEqDiff, ↓reduceIte, Nat.reduceAdd, Nat.zero_add, Nat.add_zero, Nat.reduceLeDiff, Int.reduceEq, Nat.reduceMul, t0]
        · simp only [go_sem, Nat.reduceLT, Nat.reduceEqDiff, ↓reduceIte, Nat.reduceAdd, Nat.zero_add, Nat.add_zero, Nat.reduceLeDiff, Int.reduceEq, Nat.reduceMul, t6]
        · simp only [go_sem, Nat.reduceLT, Nat.reduceEqDiff, ↓reduceIte, Nat.reduceAdd, Nat.zero_add, Nat.add_zero, Nat.reduceLeDiff, Int.reduceEq, Nat.reduceMul]
        · simp only [go_sem, Nat.reduceLT, Nat.reduceEqDiff, ↓reduceIte, Nat.reduceAdd, Nat.zero_add, Nat.add_zero, Nat.reduceLeDiff, Int.reduceEq, Nat.reduceMul]
        · simp only [go_sem, Nat.reduceLT, Nat.reduceEqDiff, ↓reduceIte, Nat.reduceAdd, Nat.zero_add, Nat.add_zero, Nat.reduceLeDiff, Int.reduceEq, Nat.reduceMul]; rfl
        clear hK hM hE t0 t1 t6 t50 t51 t52 xia hXl hia' hk hlt
        rintro nn τ X ⟨k, rfl, hk, t0, t6, t64, t65, t66, hK, hM, hE⟩
        have xia : X.get ia = some (.cells row ro par gs) := (hK.old ia hia).trans hrow
        have hXl := hK.le
        by_cases hlt : k < marks.length
        · rcases hm with ⟨rfl, _⟩ | ⟨im, cm', rowm, rom, parm, gsm, e0, hrowm, helm⟩
          · simp at hlt
          injection e0 with e1 _ e3
          subst e1; subst e3
          have him : im < H.next := AHeap.get_lt hrowm
          have xim : X.get im = some (.cells rowm rom parm gsm) := (hK.old im him).trans hrowm
          obtain ⟨m, hmk⟩ : ∃ m, marks[k]? = some m := ⟨_, List.getElem?_eq_getElem hlt⟩
          obtain ⟨g1, g2, g3, g4⟩ := hmw m (List.mem_of_getElem? hmk)
          obtain ⟨ma, mb⟩ := m
          simp only at g1 g2 g3 g4
          obtain ⟨e1, e2⟩ := helm k (ma, mb) hmk
          have hz : (0 : Int) ≤ (k : Int) := by omega
          have hd : (k : Int) < (marks.length : Int) := by omega
          have hw : IntKind.wrap .i64 ((k : Int) + 1) = ((k + 1 : Nat) : Int) := by rw [wrap64] <;> omega
          have hwa : IntKind.wrap .i64 ma = ma := by rw [wrap64] <;> omega
          have hwb : IntKind.wrap .i64 mb = mb := by rw [wrap64] <;> omega
          have hs : marksErr regs (marks.take k) (marks.drop k) = marksErr regs (marks.take k) ((ma, mb) :: marks.drop (k + 1)) := by rw [drop_at hmk]
          have hnext : marks.take (k + 1) = marks.take k ++ [(ma, mb)] := by rw [List.take_add_one, hmk]; rfl
          simp only [go_sem, Nat.reduceLT, Nat.reduceEqDiff, ↓reduceIte, Nat.reduceAdd, Nat.zero_add, Nat.add_zero, Nat.reduceLeDiff, Int.reduceEq, Nat.reduceMul, List.take_zero, List.drop_succ_cons, List.drop_zero, List.nil_append, List.append_nil, List.drop_nil, List.take_succ_cons, List.take_nil, List.cons_append, Int.toNat_natCast, Int.toNat_zero, Int.toNat_one, t0, t6, t64, t65, t66, xim, hz, hd, e1, e2, mkC]
          refine codeW_forget (fun τ Y => tget τ 0 = .slice (some ⟨ia, 0, none⟩) regs.length ca ∧ tget τ 6 = .pointer (some ⟨H.next + 3, 0, none⟩) ∧ tget τ 13 = .pointer (some ⟨X.next, 0, none⟩) ∧ tget τ 64 = .slice (some ⟨im, 0, none⟩) marks.length cm ∧
            tget τ 65 = .int .i64 marks.length ∧ tget τ 66 = .int .i64 (k : Nat) ∧ Keeps [] X Y ∧ Y.get X.next = some (.cells [.int .u8 ma, .int .u16 mb] false [] 0)) ?_ ?_
          · refine ⟨?_, ?_, ?_, ?_, ?_, ?_, ((Keeps.refl [] X).new' _).set' (i := X.next) (Nat.le_refl _) (by simp), ?_⟩
            · simp only [go_sem, Nat.reduceLT, Nat.reduceEqDiff, ↓reduceIte, Nat.reduceAdd, Nat.zero_add, Nat.add_zero, Nat.reduceLeDiff, Int.reduceEq, Nat.reduceMul, t0]
            · simp only [go_sem, Nat.reduceLT, Nat.reduceEqDiff, ↓reduceIte, Nat.reduceAdd, Nat.zero_add, Nat.add_zero, Nat.reduceLeDiff, Int.reduceEq, Nat.reduceMul, t6]
            · simp only [go_sem, Nat.reduceLT, Nat.reduceEqDiff, ↓reduceIte, Nat.reduceAdd, Nat.zero_add, Nat.add_zero, Nat.reduceLeDiff, Int.reduceEq, Nat.reduceMul]
            · simp only [go_sem, Nat.reduceLT, Nat.reduceEqDiff, ↓reduceIte, Nat.reduceAdd, Nat.zero_add, Nat.add_zero, Nat.reduceLeDiff, Int.reduceEq, Nat.reduceMul, t64]
            · simp only [go_sem, Nat.reduceLT, Nat.reduceEqDiff, ↓reduceIte, Nat.reduceAdd, Nat.zero_add, Nat.add_zero, Nat.reduceLeDiff, Int.reduceEq, Nat.reduceMul, t65]
            · simp only [go_sem, Nat.reduceLT, Nat.reduceEqDiff, ↓reduceIte, Nat.reduceAdd, Nat.zero_add, Nat.add_zero, Nat.reduceLeDiff, Int.reduceEq, Nat.reduceMul, t66]
            · simp only [go_sem, Nat.reduceLT, Nat.reduceEqDiff, ↓reduceIte, Nat.reduceAdd, Nat.zero_add, Nat.add_zero, Nat.reduceLeDiff, Int.reduceEq, Nat.reduceMul]
          clear t0 t6 t64 t65 t66
          rintro τ Y ⟨t0, t6, t13, t64, t65, t66, hXY, yx⟩
          have hKY := hK.trans (KeepLo.of hXY hXl)
          have hMY := hM.keeps hXY
          have yia : Y.get ia = some (.cells row ro par gs) := hXY.get xia (by simp)
          have ixl : H.next + 3 < X.next := by obtain ⟨⟨_, _, _, _, _, _, h, _⟩, _⟩ := hM; exact AHeap.get_lt h
          have hXn : X.next < Y.next := AHeap.get_lt yx
          have fail : ∀ (Z : AHeap), Keeps [] Y Z → Keeps [] H Z := fun Z hZ => by
            have h1 := hKY.trans (KeepLo.of hZ hKY.le)
            exact ⟨h1.le, fun j hj _ => h1.old j hj⟩
          refine codeW_any (cxS_ok s3_ok) inf20_22 (by kernel_rfl) fun _ => ?_
          by_cases c5 : (regs.length : Int) ≤ ma
          · have hv : newErr regs marks = 27 := by rw [hv0, hE, hs]; simp only [marksErr]; rw [if_pos (.inl c5)]
            simp only [inf20_22, go_sem, Nat.reduceLT, Nat.reduceEqDiff, ↓reduceIte, Nat.reduceAdd, Nat.zero_add, Nat.add_zero, Nat.reduceLeDiff, Int.reduceEq, Nat.reduceMul, List.take_zero, List.drop_succ_cons, List.drop_zero, List.nil_append, List.append_nil, List.drop_nil, List.take_succ_cons, List.take_nil, List.cons_append, Int.toNat_natCast, Int.toNat_zero, Int.toNat_one, t0, t6, t13, yx, hwa, hwb, c5, hv]
            exact fail _ (Keeps.refl _ _)
          by_cases c6 : mb < 1
          · have hv : newErr regs marks = 27 := by rw [hv0, hE, hs]; simp only [marksErr]; rw [if_pos (.inr (.inl c6))]
            simp only [inf20_22, go_sem, Nat.reduceLT, Nat.reduceEqDiff, ↓reduceIte, Nat.reduceAdd, Nat.zero_add, Nat.add_zero, Nat.reduceLeDiff, Int.reduceEq, Nat.reduceMul, List.take_zero, List.drop_succ_cons, List.drop_zero, List.nil_append, List.append_nil, List.drop_nil, List.take_succ_cons, List.take_nil, List.cons_append, Int.toNat_natCast, Int.toNat_zero, Int.toNat_one, t0, t6, t13, yx, hwa, hwb, c5, c6, hv]
            exact fail _ (Keeps.refl _ _)
          obtain ⟨p, rfl⟩ : ∃ p : Nat, ma = p := ⟨ma.toNat, by omega⟩
          obtain ⟨q, hq⟩ : ∃ q, regs[p]? = some q := ⟨_, List.getElem?_eq_getElem (by omega)⟩
          obtain ⟨w1, w2⟩ := hel.part p 4 1 q hq (by omega)
          have hgd : regs.getD p zeroReg = q := by simp [List.getD_eq_getElem?_getD, hq]
          have hzp : (0 : Int) ≤ (p : Int) := by omega
          have hpl : (p : Int) < (regs.length : Int) := by omega
          have hnode : row[p * 9 + 4]? = some (.int .i64 q.nodes) := by
            have h := congrArg (fun l => l[0]?) w1
            simp only [List.getElem?_take, List.getElem?_drop] at h
            simpa [RegD.cells] using h
          by_cases c7 : q.nodes < mb
          · have hv : newErr regs marks = 27 := by rw [hv0, hE, hs]; simp only [marksErr]; rw [if_pos (.inr (.inr (by simp only [Int.toNat_natCast, hgd]; exact c7)))]
            simp only [inf20_22, go_sem, Nat.reduceLT, Nat.reduceEqDiff, ↓reduceIte, Nat.reduceAdd, Nat.zero_add, Nat.add_zero, Nat.reduceLeDiff, Int.reduceEq, Nat.reduceMul, List.take_zero, List.drop_succ_cons, List.drop_zero, List.nil_append, List.append_nil, List.drop_nil, List.take_succ_cons, List.take_nil, List.cons_append, Int.toNat_natCast, Int.toNat_zero, Int.toNat_one, t0, t6, t13, yx, yia, hwa, hwb, c5, c6, c7, hzp, hpl, hnode, hv]
            exact fail _ (Keeps.refl _ _)
          simp only [inf20_22, go_sem, Nat.reduceLT, Nat.reduceEqDiff, ↓reduceIte, Nat.reduceAdd, Nat.zero_add, Nat.add_zero, Nat.reduceLeDiff, Int.reduceEq, Nat.reduceMul, List.take_zero, List.drop_succ_cons, List.drop_zero, List.nil_append, List.append_nil, List.drop_nil, List.take_succ_cons, List.take_nil, List.cons_append, Int.toNat_natCast, Int.toNat_zero, Int.toNat_one, t0, t6, t13, yx, yia, hwa, hwb, c5, c6, c7, hzp, hpl, hnode]
          obtain ⟨⟨it, inn, il, sr, smc, sg, yi, yit, yinn, yil, rsr, rsm, rsg, l1, l2, l3, d1, d2, d3⟩, hlow, hsame⟩ := hMY
          have hlk : (marks.take k).length = k := by simp; omega
          have hlook := look96 yit p mb
          refine codeW_any (cxS_ok s3_ok) inf20_24 (by kernel_rfl) fun _ => ?_
          cases c8 : (marks.take k).any fun x => (p : Int) == x.1 && mb == x.2
          rotate_left
          · have hv : newErr regs marks = 29 := by
              rw [hv0, hE, hs]; simp only [marksErr]
              rw [if_neg (by simp only [Int.toNat_natCast, hgd]; omega), if_pos c8]
            simp only [inf20_24, go_sem, Nat.reduceLT, Nat.reduceEqDiff, ↓reduceIte, Nat.reduceAdd, Nat.zero_add, Nat.add_zero, Nat.reduceLeDiff, Int.reduceEq, Nat.reduceMul, List.take_zero, List.drop_succ_cons, List.drop_zero, List.nil_append, List.append_nil, List.drop_nil, List.take_succ_cons, List.take_nil, List.cons_append, Int.toNat_natCast, Int.toNat_zero, Int.toNat_one, t0, t6, t13, yx, yi, hlook, c8, hv]
            exact fail _ (Keeps.refl _ _)
          have hs2 : marksErr regs (marks.take k) (marks.drop k) = marksErr regs (marks.take (k + 1)) (marks.drop (k + 1)) := by
            rw [hs, hnext]; simp only [marksErr]
            rw [if_neg (by simp only [Int.toNat_natCast, hgd]; omega), if_neg (by rw [c8]; simp)]
          simp only [inf20_24, go_sem, Nat.reduceLT, Nat.reduceEqDiff, ↓reduceIte, Nat.reduceAdd, Nat.zero_add, Nat.add_zero, Nat.reduceLeDiff, Int.reduceEq, Nat.reduceMul, List.take_zero, List.drop_succ_cons, List.drop_zero, List.nil_append, List.append_nil, List.drop_nil, List.take_succ_cons, List.take_nil, List.cons_append, Int.toNat_natCast, Int.toNat_zero, Int.toNat_one, t0, t6, t13, yx, yi, hlook, c8]
          have hup := update96 yit c8
          refine codeW_any (cxS_ok s3_ok) inf20_26 (by kernel_rfl) fun _ => ?_
          have itl : it < Y.next := AHeap.get_lt yit
          simp only [inf20_26, go_sem, Nat.reduceLT, Nat.reduceEqDiff, ↓reduceIte, Nat.reduceAdd, Nat.zero_add, Nat.add_zero, Nat.reduceLeDiff, Int.reduceEq, Nat.reduceMul, List.take_zero, List.drop_succ_cons, List.drop_zero, List.nil_append, List.append_nil, List.drop_nil, List.take_succ_cons, List.take_nil, List.cons_append, Int.toNat_natCast, Int.toNat_zero, Int.toNat_one, t0, t6, t13, yx, yi, hup]
          have hYN : KeepLo H.next Y (Y.set it (.map (entB (marks.take k ++ [((p : Int), mb)])) ((marks.take k).length + 1))) := ⟨by simp, fun j hj => by rw [AHeap.get_set _ _ _ _ itl, if_neg (by omega)]⟩
          refine codeW_forget (fun τ Z => tget τ 0 = .slice (some ⟨ia, 0, none⟩) regs.length ca ∧ tget τ 6 = .pointer (some ⟨H.next + 3, 0, none⟩) ∧ tget τ 13 = .pointer (some ⟨X.next, 0, none⟩) ∧ tget τ 64 = .slice (some ⟨im, 0, none⟩) marks.length cm ∧
            tget τ 65 = .int .i64 marks.length ∧ tget τ 66 = .int .i64 (k : Nat) ∧ Z.next = Y.next ∧ Z.get it = some (.map (entB (marks.take (k + 1))) (marks.take (k + 1)).length false) ∧ (∀ j, j ≠ it → Z.get j = Y.get j)) ?_ ?_
          · refine ⟨?_, ?_, ?_, ?_, ?_, ?_, ?_, ?_, ?_⟩
            · simp only [go_sem, Nat.reduceLT, Nat.reduceEqDiff, ↓reduceIte, Nat.reduceAdd, Nat.zero_add, Nat.add_zero, Nat.reduceLeDiff, Int.reduceEq, Nat.reduceMul, t0]
            · simp only [go_sem, Nat.reduceLT, Nat.reduceEqDiff, ↓reduceIte, Nat.reduceAdd, Nat.zero_add, Nat.add_zero, Nat.reduceLeDiff, Int.reduceEq, Nat.reduceMul, t6]
            · simp only [go_sem, Nat.reduceLT, Nat.reduceEqDiff, ↓reduceIte, Nat.reduceAdd, Nat.zero_add, Nat.add_zero, Nat.reduceLeDiff, Int.reduceEq, Nat.reduceMul, t13]
            · simp only [go_sem, Nat.reduceLT, Nat.reduceEqDiff, ↓reduceIte, Nat.reduceAdd, Nat.zero_add, Nat.add_zero, Nat.reduceLeDiff, Int.reduceEq, Nat.reduceMul, t64]
            · simp only [go_sem, Nat.reduceLT, Nat.reduceEqDiff, ↓reduceIte, Nat.reduceAdd, Nat.zero_add, Nat.add_zero, Nat.reduceLeDiff, Int.reduceEq, Nat.reduceMul, t65]
            · simp only [go_sem, Nat.reduceLT, Nat.reduceEqDiff, ↓reduceIte, Nat.reduceAdd, Nat.zero_add, Nat.add_zero, Nat.reduceLeDiff, Int.reduceEq, Nat.reduceMul, t66]
            · simp only [go_sem, Nat.reduceLT, Nat.reduceEqDiff, ↓reduceIte, Nat.reduceAdd, Nat.zero_add, Nat.add_zero, Nat.reduceLeDiff, Int.reduceEq, Nat.reduceMul]
            · rw [AHeap.get_set _ _ _ _ itl, if_pos rfl, hnext]; simp
            · intro j hj; rw [AHeap.get_set _ _ _ _ itl, if_neg (by omega)]
          clear t0 t6 t13 t64 t65 t66
          rintro τ Z ⟨t0, t6, t13, t64, t65, t66, zn, zit, zk⟩
          have nm : ∀ j o, Y.get j = some o → (∀ e c r, o ≠ .map e c r) → j ≠ it := fun j o h1 h2 e => by rw [e, yit] at h1; injection h1 with h1; exact h2 _ _ _ h1.symm
          have zi := (zk _ (nm _ _ yi (by intros; simp))).trans yi
          have zx := (zk _ (nm _ _ yx (by intros; simp))).trans yx
          have zinn := (zk _ (Ne.symm d1)).trans yinn
          have zil := (zk _ (Ne.symm d2)).trans yil
          have hil3 : H.next + 3 < Z.next := by omega
          have hx3 : X.next < Z.next := by omega
          have iA : ∀ k, H.next + 3 < Z.next + k := fun k => by omega
          have iB : ∀ k, H.next + 3 ≠ Z.next + k := fun k => by omega
          have iC : H.next + 3 ≠ Z.next := by omega
          have xA : ∀ k, X.next < Z.next + k := fun k => by omega
          have xB : ∀ k, X.next ≠ Z.next + k := fun k => by omega
          have xC : X.next ≠ Z.next := by omega
          have ix : H.next + 3 ≠ X.next := by omega
          have fin : ∀ (U : AHeap) (sm' : Value), Z.next ≤ U.next → (∀ j, j < H.next → U.get j = Z.get j) → U.get it = Z.get it → U.get inn = Z.get inn → U.get il = Z.get il →
              U.get (H.next + 3) = some (.cells [sr, .map (some it), sm', .map (some inn), .map (some il), sg, .int .i64 (geosFrom 32 regs).2] false [] 0) →
              RowS U H.next (H.next + 3) sm' (marks.take (k + 1)).length 2 ((marks.take (k + 1)).flatMap mkC) → (∀ b cs ro par sz, Z.get b = some (.cells cs ro par sz) → sz = 9 ∨ sz = 6 → U.get b = Z.get b) →
              KeepLo H.next H U ∧ ConfM U H.next (H.next + 3) regs (geosFrom 32 regs).1 (geosFrom 32 regs).2 (marks.take (k + 1)) := by
            intro U sm' f1 f2 f3 f4 f5 f6 f7 f8
            have rs : ∀ {s n sz cs}, sz = 9 ∨ sz = 6 → RowS Y H.next (H.next + 3) s n sz cs → RowS U H.next (H.next + 3) s n sz cs := by
              rintro s n sz cs hsz (h | ⟨b, par, a1, a2, a3, a4, a5⟩)
              · exact .inl h
              · have b1 := (zk _ (nm _ _ a3 (by intros; simp))).trans a3
                exact .inr ⟨b, par, a1, a2, (f8 _ _ _ _ _ b1 hsz).trans b1, a4, a5⟩
            refine ⟨⟨by have := hKY.le; omega, fun j hj => ?_⟩, ⟨it, inn, il, sr, sm', sg, f6, f3.trans zit, f4.trans zinn, f5.trans zil, rs (.inl rfl) rsr, f7, rs (.inr rfl) rsg, l1, l2, l3, d1, d2, d3⟩, hlow, hsame⟩
            rw [f2 j hj, zk j (by omega), hKY.old j hj]
          have w1 : it < Z.next := AHeap.get_lt zit
          have w2 : inn < Z.next := AHeap.get_lt zinn
          have w3 : il < Z.next := AHeap.get_lt zil
          have n1 : it ≠ H.next + 3 := fun e => by rw [e, zi] at zit; cases zit
          have n2 : inn ≠ H.next + 3 := fun e => by rw [e, zi] at zinn; cases zinn
          have n3 : il ≠ H.next + 3 := fun e => by rw [e, zi] at zil; cases zil
          refine codeW_any (cxS_ok s3_ok) inf20_27 (by kernel_rfl) fun hL => ?_
          rcases rsm with ⟨z1, rfl, z3⟩ | ⟨b, par, z1, rfl, z3, z4, z5⟩
          · rw [hlk] at z1
            subst z1
            simp only [inf20_27, go_sem, Nat.reduceLT, Nat.reduceEqDiff, ↓reduceIte, Nat.reduceAdd, Nat.zero_add, Nat.add_zero, Nat.reduceLeDiff, Int.reduceEq, Nat.reduceMul, List.take_zero, List.drop_succ_cons, List.drop_zero, List.nil_append, List.append_nil, List.drop_nil, List.take_succ_cons, List.take_nil, List.cons_append, Int.toNat_natCast, Int.toNat_zero, Int.toNat_one, t0, t6, t13, t64, t65, t66, zi, zx, hil3, hx3, iA, iB, iC, xA, xB, xC, ix, Ne.symm ix, hw]
            obtain ⟨u1, u2⟩ := fin (((Z.new (.cells [.int .u8 (p : Int), .int .u16 mb] false [] 2)).new (.cells [.int .u8 (p : Int), .int .u16 mb] false [] 2)).set (H.next + 3) (.cells [sr, .map (some it), .slice (some ⟨Z.next + 1, 0, none⟩) 1 (grow + 1), .map (some inn), .map (some il), sg, .int .i64 (geosFrom 32 regs).2] false [] 0)) (.slice (some ⟨Z.next + 1, 0, none⟩) 1 (grow + 1))
              (by simp only [go_sem, Nat.reduceLT, Nat.reduceEqDiff, ↓reduceIte, Nat.reduceAdd, Nat.zero_add, Nat.add_zero, Nat.reduceLeDiff, Int.reduceEq, Nat.reduceMul]) (fun j hj => by
                have a1 : j ≠ H.next + 3 := by omega
                have a2 : ∀ k, j ≠ Z.next + k := fun k => by omega
                have a3 : j ≠ Z.next := by omega
                simp only [go_sem, Nat.reduceLT, Nat.reduceEqDiff, ↓reduceIte, Nat.reduceAdd, Nat.zero_add, Nat.add_zero, Nat.reduceLeDiff, Int.reduceEq, Nat.reduceMul, a1, a2, a3, hil3, iA])
              (by
                have a2 : ∀ k, it ≠ Z.next + k := fun k => by omega
                have a3 : it ≠ Z.next := by omega
                simp only [go_sem, Nat.reduceLT, Nat.reduceEqDiff, ↓reduceIte, Nat.reduceAdd, Nat.zero_add, Nat.add_zero, Nat.reduceLeDiff, Int.reduceEq, Nat.reduceMul, a2, a3, n1, hil3, iA])
              (by
                have a2 : ∀ k, inn ≠ Z.next + k := fun k => by omega
                have a3 : inn ≠ Z.next := by omega
                simp only [go_sem, Nat.reduceLT, Nat.reduceEqDiff, ↓reduceIte, Nat.reduceAdd, Nat.zero_add, Nat.add_zero, Nat.reduceLeDiff, Int.reduceEq, Nat.reduceMul, a2, a3, n2, hil3, iA])
              (by
                have a2 : ∀ k, il ≠ Z.next + k := fun k => by omega
                have a3 : il ≠ Z.next := by omega
                simp only [go_sem, Nat.reduceLT, Nat.reduceEqDiff, ↓reduceIte, Nat.reduceAdd, Nat.zero_add, Nat.add_zero, Nat.reduceLeDiff, Int.reduceEq, Nat.reduceMul, a2, a3, n3, hil3, iA])
              (by simp only [go_sem, Nat.reduceLT, Nat.reduceEqDiff, ↓reduceIte, Nat.reduceAdd, Nat.zero_add, Nat.add_zero, Nat.reduceLeDiff, Int.reduceEq, Nat.reduceMul, hil3, iA])
              (by
                rw [hnext]
                refine .inr ⟨Z.next + 1, [], by simp, by simp, ?_, by omega, by omega⟩
                have a1 : Z.next + 1 ≠ H.next + 3 := by omega
                simp only [go_sem, Nat.reduceLT, Nat.reduceEqDiff, ↓reduceIte, Nat.reduceAdd, Nat.zero_add, Nat.add_zero, Nat.reduceLeDiff, Int.reduceEq, Nat.reduceMul, hil3, iA, a1, List.take_zero, List.nil_append, List.flatMap_cons, List.flatMap_nil, List.append_nil, mkC])
              (fun b cs ro par sz hb hsz => by
                have hbl := AHeap.get_lt hb
                have a1 : b ≠ H.next + 3 := fun e => by rw [e, zi] at hb; injection hb with hb; injection hb with _ _ _ h; omega
                have a2 : ∀ k, b ≠ Z.next + k := fun k => by omega
                have a3 : b ≠ Z.next := by omega
                simp only [go_sem, Nat.reduceLT, Nat.reduceEqDiff, ↓reduceIte, Nat.reduceAdd, Nat.zero_add, Nat.add_zero, Nat.reduceLeDiff, Int.reduceEq, Nat.reduceMul, hil3, iA, a1, a2, a3])
            exact ⟨marks.length - 1, by omega, 1, rfl, hlt, rfl, u1, u2, by rw [hE, hs2]⟩
          · have zb := (zk b (nm _ _ z3 (by intros; simp))).trans z3
            have hbZ : b < Z.next := AHeap.get_lt zb
            have b1 : b ≠ H.next + 3 := fun e => by rw [e, zi] at zb; injection zb with zb; injection zb with _ _ _ h; omega
            have b2 : b ≠ X.next := fun e => by rw [e, zx] at zb; injection zb with zb; injection zb with _ _ _ h; omega
            have bA : ∀ k, b < Z.next + k := fun k => by omega
            have bB : ∀ k, b ≠ Z.next + k := fun k => by omega
            have bC : b ≠ Z.next := by omega
            have hlen : (marks.take k).length * 2 = ((marks.take k).flatMap mkC).length := (flat_len (f := mkC) (fun _ => rfl) _).symm
            have a1 := fun o vs => appW_more (sz := 2) (by_ := 4) (n := 1) (l := (marks.take k).length) (b := b) (vs := vs) (cs := (marks.take k).flatMap mkC) (par := par) (H := Z.new o) (by omega) (by rw [get_new_old o (by omega)]; exact zb) hlen (by omega) (by unfold grow; omega)
            have hgr : Grew Z := by obtain ⟨μ, a, w, hR, _⟩ := hL; exact hR.grew
            have pr := hgr b _ zb
            have p1 : H.next + 3 ∉ par := fun h => by have := (pr _ h).2 _ zi; cases this
            have p2 : X.next ∉ par := fun h => by have := (pr _ h).2 _ zx; cases this
            simp only [inf20_27, go_sem, Nat.reduceLT, Nat.reduceEqDiff, ↓reduceIte, Nat.reduceAdd, Nat.zero_add, Nat.add_zero, Nat.reduceLeDiff, Int.reduceEq, Nat.reduceMul, List.take_zero, List.drop_succ_cons, List.drop_zero, List.nil_append, List.append_nil, List.drop_nil, List.take_succ_cons, List.take_nil, List.cons_append, Int.toNat_natCast, Int.toNat_zero, Int.toNat_one, t0, t6, t13, t64, t65, t66, zi, zx, zb, hil3, hx3, iA, iB, iC, xA, xB, xC, ix, Ne.symm ix, hw, a1, hbZ, bA, bB, bC, b1, b2, Ne.symm b1, Ne.symm b2, z5, Ne.symm z5, p1, p2]
            have e0 : b ≠ it := fun e => by rw [e, zit] at zb; cases zb
            have e1 : b ≠ inn := fun e => by rw [e, zinn] at zb; cases zb
            have e2 : b ≠ il := fun e => by rw [e, zil] at zb; cases zb
            obtain ⟨u1, u2⟩ := fin ((((Z.new (.cells [.int .u8 (p : Int), .int .u16 mb] false [] 2)).set b (.cells ((marks.take k).flatMap mkC) true par 2)).new (.cells ((marks.take k).flatMap mkC ++ [.int .u8 (p : Int), .int .u16 mb]) false (b :: par) 2)).set (H.next + 3) (.cells [sr, .map (some it), .slice (some ⟨Z.next + 1, 0, none⟩) ((marks.take k).length + 1) (grow + ((marks.take k).length + 1)), .map (some inn), .map (some il), sg, .int .i64 (geosFrom 32 regs).2] false [] 0)) (.slice (some ⟨Z.next + 1, 0, none⟩) ((marks.take k).length + 1) (grow + ((marks.take k).length + 1)))
              (by simp only [go_sem, Nat.reduceLT, Nat.reduceEqDiff, ↓reduceIte, Nat.reduceAdd, Nat.zero_add, Nat.add_zero, Nat.reduceLeDiff, Int.reduceEq, Nat.reduceMul]) (fun j hj => by
                have a1 : j ≠ H.next + 3 := by omega
                have a2 : ∀ k, j ≠ Z.next + k := fun k => by omega
                have a3 : j ≠ Z.next := by omega
                have a4 : j ≠ b := by omega
                simp only [go_sem, Nat.reduceLT, Nat.reduceEqDiff, ↓reduceIte, Nat.reduceAdd, Nat.zero_add, Nat.add_zero, Nat.reduceLeDiff, Int.reduceEq, Nat.reduceMul, a1, a2, a3, a4, hil3, iA, hbZ, bA])
              (by
                have a2 : ∀ k, it ≠ Z.next + k := fun k => by omega
                have a3 : it ≠ Z.next := by omega
                simp only [go_sem, Nat.reduceLT, Nat.reduceEqDiff, ↓reduceIte, Nat.reduceAdd, Nat.zero_add, Nat.add_zero, Nat.reduceLeDiff, Int.reduceEq, Nat.reduceMul, a2, a3, n1, hil3, iA, hbZ, bA, Ne.symm e0])
              (by
                have a2 : ∀ k, inn ≠ Z.next + k := fun k => by omega
                have a3 : inn ≠ Z.next := by omega
                simp only [go_sem, Nat.reduceLT, Nat.reduceEqDiff, ↓reduceIte, Nat.reduceAdd, Nat.zero_add, Nat.add_zero, Nat.reduceLeDiff, Int.reduceEq, Nat.reduceMul, a2, a3, n2, hil3, iA, hbZ, bA, Ne.symm e1])
              (by
                have a2 : ∀ k, il ≠ Z.next + k := fun k => by omega
                have a3 : il ≠ Z.next := by omega
                simp only [go_sem, Nat.reduceLT, Nat.reduceEqDiff, ↓reduceIte, Nat.reduceAdd, Nat.zero_add, Nat.add_zero, Nat.reduceLeDiff, Int.reduceEq, Nat.reduceMul, a2, a3, n3, hil3, iA, hbZ, bA, Ne.symm e2])
              (by simp only [go_sem, Nat.reduceLT, Nat.reduceEqDiff, ↓reduceIte, Nat.reduceAdd, Nat.zero_add, Nat.add_zero, Nat.reduceLeDiff, Int.reduceEq, Nat.reduceMul, hil3, iA, hbZ, bA])
              (by
                rw [hnext]
                refine .inr ⟨Z.next + 1, b :: par, by simp, by simp, ?_, by omega, by omega⟩
                have a1 : Z.next + 1 ≠ H.next + 3 := by omega
                simp only [go_sem, Nat.reduceLT, Nat.reduceEqDiff, ↓reduceIte, Nat.reduceAdd, Nat.zero_add, Nat.add_zero, Nat.reduceLeDiff, Int.reduceEq, Nat.reduceMul, hil3, iA, a1, hbZ, bA, List.flatMap_append, List.flatMap_cons, List.flatMap_nil, List.append_nil, mkC])
              (fun b' cs ro par' sz hb hsz => by
                have hbl := AHeap.get_lt hb
                have a1 : b' ≠ H.next + 3 := fun e => by rw [e, zi] at hb; injection hb with hb; injection hb with _ _ _ h; omega
                have a2 : ∀ k, b' ≠ Z.next + k := fun k => by omega
                have a3 : b' ≠ Z.next := by omega
                have a4 : b' ≠ b := fun e => by rw [e, zb] at hb; injection hb with hb; injection hb with _ _ _ h; omega
                simp only [go_sem, Nat.reduceLT, Nat.reduceEqDiff, ↓reduceIte, Nat.reduceAdd, Nat.zero_add, Nat.add_zero, Nat.reduceLeDiff, Int.reduceEq, Nat.reduceMul, hil3, iA, a1, a2, a3, a4, hbZ, bA])
            exact ⟨marks.length - (k + 1), by omega, k + 1, rfl, hlt, rfl, u1, u2, by rw [hE, hs2]⟩
        · have hk' : k = marks.length := by omega
          subst hk'
          have hd : ¬ ((marks.length : Int) < (marks.length : Int)) := by omega
          rw [List.drop_length] at hE
          have hv : newErr regs marks = 0 := by rw [hv0, hE]; rfl
          simp only [go_sem, Nat.reduceLT, Nat.reduceEqDiff, ↓reduceIte, Nat.reduceAdd, Nat.zero_add, Nat.add_zero, Nat.reduceLeDiff, Int.reduceEq, Nat.reduceMul, List.take_zero, List.drop_succ_cons, List.drop_zero, List.nil_append, List.append_nil, List.drop_nil, List.take_succ_cons, List.take_nil, List.cons_append, Int.toNat_natCast, Int.toNat_zero, Int.toNat_one, t0, t6, t64, t65, t66, hd, hv]
          exact ⟨⟨hK.le, fun j hj _ => hK.old j hj⟩, .inr ⟨H.next + 3, rfl, by omega, hnl, by simpa using hM⟩⟩
theorem new_c {H : AHeap} {sr sm : Value} {regs : List RegD} {marks : List (Int × Int)} (hr : SlcE H sr RegD.cells 9 regs) (hm : SlcE H sm mkC 2 marks) (hmw : ∀ m ∈ marks, 0 ≤ m.1 ∧ m.1 ≤ 255 ∧ 0 ≤ m.2 ∧ m.2 ≤ 65535) (hml : marks.length ≤ 1000) :
    ACalls Tryd.prog 4 20 [sr, sm] H fun v H' => Keeps [] H H' ∧ ((newErr regs marks ≠ 0 ∧ v = .tuple #[.pointer none, .int .i64 (newErr regs marks)]) ∨
      (newErr regs marks = 0 ∧ ∃ i ir ig, v = .tuple #[.pointer (some ⟨i, 0, none⟩), .int .i64 0] ∧ IsConf H' i ir ig regs (geosFrom 32 regs).1 (geosFrom 32 regs).2)) :=
  (new_cM hr hm hmw hml).mono fun v H' ⟨hK, h⟩ => ⟨hK, h.imp id fun ⟨h0, i, hv, h1, h2, hM⟩ => by
    obtain ⟨ir, ig, hI⟩ := hM.isConf h1 h2
    exact ⟨h0, i, ir, ig, hv, hI⟩⟩
end Go.Proofs.YtkjclebafpomhaaDoor
set_option linter.unusedVariables false
set_option linter.unusedSimpArgs false
set_option maxRecDepth 100000
namespace Go.Proofs.YtkjclebafpomhaaDoor
open Go Go.Eng

def nmB (k : Nat) : ByteArray := if k = 0 then ⟨#[108, 111, 119]⟩ else if k = 1 then ⟨#[114, 101, 100]⟩ else if k = 2 then ⟨#[98, 108, 117, 101]⟩ else if k = 3 then ⟨#[116, 111, 112]⟩ else ⟨#[104, 105, 103, 104]⟩
def lbL (k : Nat) : Int := if k = 0 then 0 else if k = 1 then 1 else if k = 2 then 1 else if k = 3 then 2 else 9
def lbC (k : Nat) : Int := if k = 0 then 0 else if k = 1 then 1 else if k = 2 then 2 else if k = 3 then 3 else 7
def nmCells : List Value := [.string ⟨#[108, 111, 119]⟩, .string ⟨#[114, 101, 100]⟩, .string ⟨#[98, 108, 117, 101]⟩, .string ⟨#[116, 111, 112]⟩, .string ⟨#[104, 105, 103, 104]⟩]
def lbCells : List Value := [.int .u8 0, .int .u16 0, .int .u8 1, .int .u16 1, .int .u8 1, .int .u16 2, .int .u8 2, .int .u16 3, .int .u8 9, .int .u16 7]
theorem nm_at {k : Nat} (h : k < 5) : nmCells[k]? = some (.string (nmB k)) := by
  rcases k with _ | _ | _ | _ | _ | k <;> first | rfl | omega
theorem lb_at {k : Nat} (h : k < 5) : (lbCells.drop (k * 2)).take 2 = [.int .u8 (lbL k), .int .u16 (lbC k)] ∧ k * 2 + 2 ≤ lbCells.length := by
  rcases k with _ | _ | _ | _ | _ | k <;> first | exact ⟨rfl, by decide⟩ | omega
def F42 : Spec := fun vs H => match vs with
  | [] => some (.slice (some ⟨H.next, 0, none⟩) 5 5, H.new (.cells nmCells false [] 1))
  | _ => none
def F43 : Spec := fun vs H => match vs with
  | [] => some (.slice (some ⟨H.next, 0, none⟩) 5 5, H.new (.cells lbCells false [] 2))
  | _ => none
theorem F42_eq (H : AHeap) : F42 [] H = some (.slice (some ⟨H.next, 0, none⟩) 5 5, H.new (.cells nmCells false [] 1)) := id rfl
theorem F43_eq (H : AHeap) : F43 [] H = some (.slice (some ⟨H.next, 0, none⟩) 5 5, H.new (.cells lbCells false [] 2)) := id rfl
theorem sp42 : SpOK 42 F42 := by
  refine .of (fn := Tryd.f42) (by kernel_rfl) (by kernel_rfl) ?_
  intro vs H v H' h
  unfold F42 at h
  split at h
  · injection h with h; injection h with h1 h2; subst h1; subst h2
    refine walk s3_ok (fn := Tryd.f42) (by kernel_rfl) (c := Tryd.f42.body.get (by kernel_rfl)) (by kernel_rfl) (by simp [Tryd.f42]) ?_
    simp only [Tryd.f42, Option.get]
    simp only [go_sem, Nat.reduceLT, Nat.reduceEqDiff, ↓reduceIte, Nat.reduceAdd, Nat.zero_add, Nat.add_zero, Nat.reduceLeDiff, Int.reduceEq, Nat.reduceMul, List.take_zero, List.drop_succ_cons, List.drop_zero, List.nil_append, List.append_nil, List.drop_nil, List.take_succ_cons, List.take_nil, List.cons_append, Int.toNat_natCast, Int.toNat_zero, Int.toNat_one, nmCells]
  · cases h
theorem sp43 : SpOK 43 F43 := by
  refine .of (fn := Tryd.f43) (by kernel_rfl) (by kernel_rfl) ?_
  intro vs H v H' h
  unfold F43 at h
  split at h
  · injection h with h; injection h with h1 h2; subst h1; subst h2
    refine walk s3_ok (fn := Tryd.f43) (by kernel_rfl) (c := Tryd.f43.body.get (by kernel_rfl)) (by kernel_rfl) (by simp [Tryd.f43]) ?_
    simp only [Tryd.f43, Option.get]
    simp only [go_sem, Nat.reduceLT, Nat.reduceEqDiff, ↓reduceIte, Nat.reduceAdd, Nat.zero_add, Nat.add_zero, Nat.reduceLeDiff, Int.reduceEq, Nat.reduceMul, List.take_zero, List.drop_succ_cons, List.drop_zero, List.nil_append, List.append_nil, List.drop_nil, List.take_succ_cons, List.take_nil, List.cons_append, Int.toNat_natCast, Int.toNat_zero, Int.toNat_one, lbCells]
  · cases h
def s8 : Specs := spAdd (spAdd s3 42 F42) 43 F43
theorem s8_42 : s8 42 = some F42 := id rfl
theorem s8_43 : s8 43 = some F43 := id rfl
theorem s8_ok : SpsOK s8 := spAdd_ok (spAdd_ok s3_ok sp42) sp43
theorem call42 (H : AHeap) : callS (cxS s8) 42 [] H = some (.slice (some ⟨H.next, 0, none⟩) 5 5, H.new (.cells nmCells false [] 1)) := by rw [callS_cxS s8 (by decide), s8_42]; rfl
theorem call43 (H : AHeap) : callS (cxS s8) 43 [] H = some (.slice (some ⟨H.next, 0, none⟩) 5 5, H.new (.cells lbCells false [] 2)) := by rw [callS_cxS s8 (by decide), s8_43]; rfl
theorem loc42 {H : AHeap} {n : Nat} (hn : H.next = n) : Local (callS (cxS s8) 42 []) H [] [] (.slice (some ⟨n, 0, none⟩) 5 5) (H.new (.cells nmCells false [] 1)) = True := by
  subst hn
  simp only [eq_iff_iff, iff_true]
  exact .new fun E hE => by rw [call42, hE]
theorem loc43 {H : AHeap} {n : Nat} (hn : H.next = n) : Local (callS (cxS s8) 43 []) H [] [] (.slice (some ⟨n, 0, none⟩) 5 5) (H.new (.cells lbCells false [] 2)) = True := by
  subst hn
  simp only [eq_iff_iff, iff_true]
  exact .new fun E hE => by rw [call43, hE]

theorem codeW_any_cut {cx : Cx} {N : Nat} (hc : CxOK cx) {id : Nat} {l : List Oper} {Q : PostW} {τ : Tmps} {H : AHeap} (inf : Info) (hs : statAll l.toArray inf = true) (F : Tmps → AHeap → Prop) (h : Lives cx N τ H → regL cx N l F l inf 0 [] τ H) (k : ∀ τ' H', F τ' H' → Q .normal τ' H') : codeW cx N (.region id l.toArray true) Q τ H := by
  have h1 : codeW cx N (.region id l.toArray true) (fun e τ' H' => e = .normal ∧ F τ' H') τ H := codeW_any hc inf hs fun hL => by
    have : (fun τ' H' => (Exit.normal = Exit.normal ∧ F τ' H')) = F := by funext τ' H'; simp
    show regL cx N l (fun τ' H' => (Exit.normal = Exit.normal ∧ F τ' H')) l inf 0 [] τ H
    rw [this]; exact h hL
  rw [codeW_draws] at h1 ⊢
  exact h1.mono fun e τ' H' ⟨h2, h3⟩ => by subst h2; exact k _ _ h3

/-- A growing row of our own. -/
def RowL (H : AHeap) (lo i : Nat) (s : Value) (n sz : Nat) (cs : List Value) : Prop :=
  (n = 0 ∧ s = .slice none 0 0 ∧ cs = []) ∨ ∃ b par, 0 < n ∧ s = .slice (some ⟨b, 0, none⟩) n (grow + n) ∧ H.get b = some (.cells cs false par sz) ∧ lo ≤ b ∧ b ≠ i ∧ ∀ j ∈ par, lo ≤ j ∧ j ≠ i
theorem RowL.keeps {H H' : AHeap} {lo i n sz : Nat} {s : Value} {cs : List Value} (h : RowL H lo i s n sz cs) (k : Keeps [] H H') : RowL H' lo i s n sz cs := by
  rcases h with h | ⟨b, par, h1, h2, h3, h4⟩
  · exact .inl h
  · exact .inr ⟨b, par, h1, h2, k.get h3 (by simp), h4⟩
theorem RowL.slc {α : Type} {f : α → List Value} {H : AHeap} {lo i sz : Nat} {s : Value} {l : List α} (h : RowL H lo i s l.length sz (l.flatMap f)) (hf : ∀ a, (f a).length = sz) : SlcE H s f sz l := by
  rcases h with ⟨h1, h2, h3⟩ | ⟨b, par, h1, h2, h3, h4⟩
  · exact .inl ⟨List.length_eq_zero_iff.1 h1, h2⟩
  · refine .inr ⟨b, _, _, _, _, _, h2, h3, fun k a ha => ?_⟩
    exact flat_at hf l k a ha
/-- One more at a row's end. -/
theorem app_row {H : AHeap} {lo i n sz by_ : Nat} {s : Value} {cs vs : List Value} (h : RowL H lo i s n sz cs) (hl : n * sz = cs.length) (hv : vs.all one = true) (hb : (n + 1) * by_ ≤ 140737488355328) (hn : n < grow) (hi : i < H.next) (hlo : lo ≤ H.next) :
    ∃ s' H', appW sz by_ s (some (1, vs)) H = some (s', H') ∧ RowL H' lo i s' (n + 1) sz (cs ++ vs) ∧ H.next < H'.next ∧ ∀ j, j < H.next → (j < lo ∨ j = i ∨ ∀ cs par, H.get j ≠ some (.cells cs false par sz)) → H'.get j = H.get j := by
  rcases h with ⟨rfl, rfl, rfl⟩ | ⟨b, par, h1, rfl, h3, h4, h5, h6⟩
  · refine ⟨_, _, appW_nil (by omega) (by omega) hv, .inr ⟨H.next, [], by omega, rfl, get_new_self _ _, hlo, by omega, by simp⟩, by simp, fun j hj _ => get_new_old _ hj⟩
  · have hb' := AHeap.get_lt h3
    refine ⟨_, _, appW_more (by omega) h3 hl (by omega) hn, .inr ⟨H.next, b :: par, by omega, rfl, get_new_self _ _, hlo, by omega, ?_⟩, by simp, fun j hj hc => ?_⟩
    · intro j hj
      rcases List.mem_cons.1 hj with rfl | hj
      · exact ⟨h4, h5⟩
      · exact h6 j hj
    rw [get_new_old _ (by simpa using hj), get_set_ne _ ?_ hb']
    rcases hc with hc | hc | hc
    · omega
    · omega
    · intro e; subst e; exact hc _ _ h3

/-- Two marks held against each other. -/
@[go_sem] theorem eql48 (ox oy : Operand) (H : AHeap) (a b c d : Int) : aBinF Tryd.prog tb .eql 48 ox oy (.agg #[.int .u8 a, .int .u16 b]) (.agg #[.int .u8 c, .int .u16 d]) H = some (.bool ((a == c) && (b == d))) := by
  have hq : prun Tryd.prog (eqGuard .eql 48 ox oy (.agg #[.int .u8 a, .int .u16 b]) (.agg #[.int .u8 c, .int .u16 d])) = some () := by
    have : (Tryd.prog).eqGuardType (Tryd.prog).depth 48 = false := by kernel_rfl
    unfold eqGuard
    simp [this]
  have e : prun Tryd.prog (do eqGuard .eql 48 ox oy (.agg #[.int .u8 a, .int .u16 b]) (.agg #[.int .u8 c, .int .u16 d]); binOp .eql 48 (.agg #[.int .u8 a, .int .u16 b]) (.agg #[.int .u8 c, .int .u16 d])) = some (.bool ((a == c) && (b == d))) := by
    simp only [prun_bind, hq, Option.bind_some]
    have h2 : binOp .eql 48 (.agg #[.int .u8 a, .int .u16 b]) (.agg #[.int .u8 c, .int .u16 d]) = (do pure (.bool (← Op.equal 48 (.agg #[.int .u8 a, .int .u16 b]) (.agg #[.int .u8 c, .int .u16 d])))) := rfl
    rw [h2]
    simp only [prun_bind, eq48, Option.bind_some, prun_pure]
  unfold aBinF aBin
  rw [if_pos (by rfl), e]
  rfl
theorem get_dels1 {H : AHeap} {l : List Nat} {j : Nat} (h : j ∉ l) : (H.dels l).get j = H.get j := by rw [AHeap.get_dels, if_neg h]

def sizeCells (a : Int) (arr : List Int) (sl : Value) : List Value := .int .u8 a :: (arr.map (Value.int .u8) ++ [sl])
def mkReg (many : Int) (k : Nat) (b0 b1 b2 b3 b4 clear : Int) : RegD := ⟨nmB k, lbL k, lbC k, 8 + b0.tmod 60, 8 + 2 * b1.tmod 12, 4 + b2.tmod 40, 1 + b3.tmod 6, 2 + b4.tmod 14, clear⟩
def clr0 (many k : Nat) : Int := if many = 2 then 1 else if many < 4 ∧ 0 < k then k else (many : Int) - 1
def preReg (many : Nat) (arr : List Int) (k : Nat) : RegD := mkReg many k (arr.getD (k * 5) 0) (arr.getD (k * 5 + 1) 0) (arr.getD (k * 5 + 2) 0) (arr.getD (k * 5 + 3) 0) (arr.getD (k * 5 + 4) 0) (clr0 many k)
def preRegs (many : Nat) (arr : List Int) (k : Nat) : List RegD := (List.range k).map (preReg many arr)
theorem preRegs_succ (many : Nat) (arr : List Int) (k : Nat) : preRegs many arr (k + 1) = preRegs many arr k ++ [preReg many arr k] := by
  unfold preRegs; rw [List.range_succ, List.map_append]; rfl
def clr (many k : Nat) : Int := if many = 3 ∧ k = 0 then 1 else clr0 many k
def finReg (many : Nat) (arr : List Int) (k : Nat) : RegD := { preReg many arr k with clear := clr many k }
def finRegs (many : Nat) (arr : List Int) : List RegD := (List.range many).map (finReg many arr)
theorem finRegs_ne {many : Nat} (arr : List Int) (h : many ≠ 3) : finRegs many arr = preRegs many arr many := by
  unfold finRegs preRegs
  apply List.map_congr_left
  intro k _
  have : clr many k = clr0 many k := by unfold clr; rw [if_neg (by omega)]
  unfold finReg
  rw [this]; rfl
def markOf (many : Int) (x : Int) : Int × Int := (x.tmod many, 4 + (x.tdiv 8).tmod 4)
def marksOf (many : Int) : List Int → Nat → List (Int × Int) → List (Int × Int)
  | [], _, acc => acc
  | x :: l, k, acc => if 8 < k ∨ (acc.any fun y => (y.1 == (markOf many x).1) && (y.2 == (markOf many x).2)) = true then marksOf many l (k + 1) acc else marksOf many l (k + 1) (acc ++ [markOf many x])
theorem size_b {arr : List Int} (h : arr.length = 25) (hb : ∀ x ∈ arr, 0 ≤ x ∧ x ≤ 255) (a : Int) (sl : Value) {k : Nat} (hk : k < 5) : ∃ b0 b1 b2 b3 b4 : Int, (0 ≤ b0 ∧ b0 ≤ 255) ∧ (0 ≤ b1 ∧ b1 ≤ 255) ∧ (0 ≤ b2 ∧ b2 ≤ 255) ∧ (0 ≤ b3 ∧ b3 ≤ 255) ∧ (0 ≤ b4 ∧ b4 ≤ 255) ∧
    arr.getD (k * 5) 0 = b0 ∧ arr.getD (k * 5 + 1) 0 = b1 ∧ arr.getD (k * 5 + 2) 0 = b2 ∧ arr.getD (k * 5 + 3) 0 = b3 ∧ arr.getD (k * 5 + 4) 0 = b4 ∧
    ((sizeCells a arr sl).drop (1 + k * 5)).take 5 = [.int .u8 b0, .int .u8 b1, .int .u8 b2, .int .u8 b3, .int .u8 b4] ∧ 1 + k * 5 + 5 ≤ (sizeCells a arr sl).length := by
  have g : ∀ j, j < 25 → 0 ≤ arr.getD j 0 ∧ arr.getD j 0 ≤ 255 := fun j hj => by
    rw [List.getD_eq_getElem?_getD, List.getElem?_eq_getElem (by omega)]
    exact hb _ (List.getElem_mem _)
  refine ⟨_, _, _, _, _, g (k * 5) (by omega), g (k * 5 + 1) (by omega), g (k * 5 + 2) (by omega), g (k * 5 + 3) (by omega), g (k * 5 + 4) (by omega), rfl, rfl, rfl, rfl, rfl, ?_, ?_⟩
  · have e : ∀ j, j < 25 → (arr.map (Value.int .u8) ++ [sl])[j]? = some (.int .u8 (arr.getD j 0)) := fun j hj => by
      rw [List.getElem?_append_left (by simp; omega), List.getElem?_map, List.getD_eq_getElem?_getD, List.getElem?_eq_getElem (by omega)]; rfl
    unfold sizeCells
    rw [Nat.add_comm 1, List.drop_succ_cons]
    apply List.ext_getElem?
    intro j
    rcases Nat.lt_or_ge j 5 with hj | hj
    · rw [List.getElem?_take_of_lt hj, List.getElem?_drop, e _ (by omega)]
      rcases j with _ | _ | _ | _ | _ | j <;> first | rfl | omega
    · rw [List.getElem?_eq_none (by simp; omega), List.getElem?_eq_none (by simpa using hj)]
  · simp [sizeCells, h]; omega
end Go.Proofs.YtkjclebafpomhaaDoor
