/- Contracts: conf.New. -/
import Derived.Test.YtkjclebafpomhaaDoorPDA5
set_option linter.unusedVariables false
set_option linter.unusedSimpArgs false
set_option maxRecDepth 100000
namespace Go.Proofs.YtkjclebafpomhaaDoor
open Go Go.Eng

theorem ConfK.keeps {H H' : AHeap} {lo i : Nat} {regs : List RegD} {geos : List GeoD} {total : Int} (h : ConfK H lo i regs geos total) (k : Keeps [] H H') : ConfK H' lo i regs geos total := by
  obtain ⟨⟨it, inn, il, sr, sg, h1, h2, h3, h4, h5, h6, r⟩, h7, h8⟩ := h
  have rs : ∀ {s n sz cs}, RowS H lo i s n sz cs → RowS H' lo i s n sz cs := by
    rintro s n sz cs (h | ⟨b, par, a1, a2, a3, a4, a5⟩)
    · exact .inl h
    · exact .inr ⟨b, par, a1, a2, k.get a3 (by simp), a4, a5⟩
  exact ⟨⟨it, inn, il, sr, sg, k.get h1 (by simp), k.get h2 (by simp), k.get h3 (by simp), k.get h4 (by simp), rs h5, rs h6, r⟩, h7, h8⟩
theorem KeepLo.trans {lo : Nat} {H H1 H2 : AHeap} (a : KeepLo lo H H1) (b : KeepLo lo H1 H2) : KeepLo lo H H2 := ⟨Nat.le_trans a.le b.le, fun j hj => (b.old j hj).trans (a.old j hj)⟩
theorem KeepLo.of {lo : Nat} {H H1 : AHeap} (k : Keeps [] H H1) (h : lo ≤ H.next) : KeepLo lo H H1 := ⟨k.le, fun j hj => k.old j (by omega) (by simp)⟩

def addsErr (many : Int) : List RegD → List RegD → Int
  | _, [] => 0
  | d, r :: l => if addErr many d r = 0 then addsErr many (d ++ [r]) l else addErr many d r
def geosFrom : Int → List RegD → List GeoD × Int
  | t, [] => ([], t)
  | t, r :: l => (geoOf t r :: (geosFrom (w64 ((geoOf t r).data + r.blocks)) l).1, (geosFrom (w64 ((geoOf t r).data + r.blocks)) l).2)
theorem geosFrom_snoc (r : RegD) : ∀ (l : List RegD) (t : Int), geosFrom t (l ++ [r]) = ((geosFrom t l).1 ++ [geoOf (geosFrom t l).2 r], w64 ((geoOf (geosFrom t l).2 r).data + r.blocks)) := by
  intro l
  induction l with
  | nil => intro t; rfl
  | cons a l ih => intro t; simp only [List.cons_append, geosFrom, ih]
def marksErr (regs : List RegD) : List (Int × Int) → List (Int × Int) → Int
  | _, [] => 0
  | d, m :: l => if (regs.length : Int) ≤ m.1 ∨ m.2 < 1 ∨ (regs.getD m.1.toNat zeroReg).nodes < m.2 then 27 else if (d.any fun x => (m.1 == x.1) && (m.2 == x.2)) = true then 29 else marksErr regs (d ++ [m]) l
def leqsFrom (regs : List RegD) : List RegD → Nat → Bool
  | [], _ => true
  | r :: l, k => leqR regs k r.clear && leqsFrom regs l (k + 1)
def newErr (regs : List RegD) (marks : List (Int × Int)) : Int :=
  if regs.length = 0 ∨ 64 < regs.length then 23 else if addsErr regs.length [] regs ≠ 0 then addsErr regs.length [] regs else
  if ((regs.getD 0 zeroReg).lev == 0 && (regs.getD 0 zeroReg).cats == 0) = false then 25 else if leqsFrom regs regs 0 = false then 2 else marksErr regs [] marks
def mkC (m : Int × Int) : List Value := [.int .u8 m.1, .int .u16 m.2]

/-- What New brings forth: with what is trusted. -/
def entB (l : List (Int × Int)) : List MapEntry := l.zipIdx.map fun p => { key := labV p.1, val := .bool true, born := p.2 }
theorem entB_append (l : List (Int × Int)) (a : Int × Int) : entB (l ++ [a]) = entB l ++ [{ key := labV a, val := .bool true, born := l.length }] := by
  unfold entB
  rw [List.zipIdx_append, List.map_append]
  simp
theorem entB_keys (l : List (Int × Int)) : (entB l).map (·.key) = l.map labV := by
  unfold entB
  rw [List.map_map]
  have : ((fun x : MapEntry => x.key) ∘ fun p : (Int × Int) × Nat => ({ key := labV p.1, val := .bool true, born := p.2 } : MapEntry)) = labV ∘ Prod.fst := rfl
  rw [this, ← List.map_map, List.zipIdx_map_fst]
structure ConfM (H : AHeap) (lo i : Nat) (regs : List RegD) (geos : List GeoD) (total : Int) (marks : List (Int × Int)) : Prop where
  all : ∃ it inn il sr sm sg, H.get i = some (.cells [sr, .map (some it), sm, .map (some inn), .map (some il), sg, .int .i64 total] false [] 0) ∧ H.get it = some (.map (entB marks) marks.length false) ∧
    H.get inn = some (.map (ents .string (regs.map (·.name))) regs.length false) ∧ H.get il = some (.map (ents labV (regs.map fun r => (r.lev, r.cats))) regs.length false) ∧
    RowS H lo i sr regs.length 9 (regs.flatMap RegD.cells) ∧ RowS H lo i sm marks.length 2 (marks.flatMap mkC) ∧ RowS H lo i sg geos.length 6 (geos.flatMap GeoD.cells) ∧ lo ≤ it ∧ lo ≤ inn ∧ lo ≤ il ∧ it ≠ inn ∧ it ≠ il ∧ inn ≠ il
  low : lo ≤ i
  same : geos.length = regs.length
theorem ConfK.toM {H : AHeap} {lo i : Nat} {regs : List RegD} {geos : List GeoD} {total : Int} (h : ConfK H lo i regs geos total) : ConfM H lo i regs geos total [] := by
  obtain ⟨⟨it, inn, il, sr, sg, h1, h2, h3, h4, h5, h6, r⟩, h7, h8⟩ := h
  exact ⟨⟨it, inn, il, sr, _, sg, h1, h2, h3, h4, h5, .inl ⟨rfl, rfl, rfl⟩, h6, r⟩, h7, h8⟩
theorem ConfM.keeps {H H' : AHeap} {lo i : Nat} {regs : List RegD} {geos : List GeoD} {total : Int} {marks : List (Int × Int)} (h : ConfM H lo i regs geos total marks) (k : Keeps [] H H') : ConfM H' lo i regs geos total marks := by
  obtain ⟨⟨it, inn, il, sr, sm, sg, h1, h2, h3, h4, h5, h6, h6', r⟩, h7, h8⟩ := h
  have rs : ∀ {s n sz cs}, RowS H lo i s n sz cs → RowS H' lo i s n sz cs := by
    rintro s n sz cs (h | ⟨b, par, a1, a2, a3, a4, a5⟩)
    · exact .inl h
    · exact .inr ⟨b, par, a1, a2, k.get a3 (by simp), a4, a5⟩
  exact ⟨⟨it, inn, il, sr, sm, sg, k.get h1 (by simp), k.get h2 (by simp), k.get h3 (by simp), k.get h4 (by simp), rs h5, rs h6, rs h6', r⟩, h7, h8⟩
theorem ConfM.isConf {H : AHeap} {lo i : Nat} {regs : List RegD} {geos : List GeoD} {total : Int} {marks : List (Int × Int)} (h : ConfM H lo i regs geos total marks) (h0 : regs.length ≠ 0) (hn : regs.length ≤ 64) : ∃ ir ig, IsConf H i ir ig regs geos total := by
  obtain ⟨⟨it, inn, il, sr, sm, sg, h1, h2, h3, h4, h5, h6, h6', r⟩, h7, h8⟩ := h
  rcases h5 with ⟨h, _⟩ | ⟨b, par, a1, rfl, a3, a4, a5⟩
  · exact absurd h h0
  rcases h6' with ⟨h, _⟩ | ⟨bg, parg, b1, rfl, b3, b4, b5⟩
  · exact absurd h (by omega)
  exact ⟨b, bg, ⟨⟨_, _, _, _, _, _, _, _, _, h1⟩, ⟨_, _, _, a3⟩, ⟨_, _, _, b3⟩, h8, by omega⟩⟩
def inf20_22 : Info := [([13], [], false), ([71], [], false), ([72], [], false), ([0], [0, 1, 2], false), ([74], [0, 1, 2], false), ([73, 75], [], false), ([76], [], false), ([13, 77], [], false), ([78, 77], [], false), ([79, 77], [], false), ([77, 80], [], false), ([81], [], false), ([13, 82], [], false), ([83, 82], [], false), ([84, 82], [], false), ([0, 82], [12, 13, 14], false), ([13, 82], [12, 13, 14, 15], false), ([87, 82], [12, 13, 14, 15], false), ([86, 88, 82], [12, 13, 14], false), ([89, 82], [12, 13, 14], false), ([90, 82], [12, 13, 14], false), ([85, 91, 82], [], false), ([82, 92], [], false), ([93], [], false)]
def inf20_24 : Info := [([6], [], false), ([95], [], false), ([96], [], false), ([97], [], false), ([13], [0, 1, 2, 3], false), ([98, 99], [], false), ([100], [], false)]
def inf20_26 : Info := [([6], [], false), ([101], [], false), ([102], [], false), ([103], [], false), ([13], [0, 1, 2, 3], false), ([104, 105], [], false)]
def inf20_27 : Info := [([6], [], false), ([6], [0], false), ([107], [0], false), ([108], [0], false), ([109], [0], false), ([13], [0, 1, 2, 3, 4], false), ([111], [0, 1, 2, 3, 4], false), ([110, 112], [0], false), ([106], [], false), ([114], [], false), ([115, 113], [], false)]
theorem look96 {H : AHeap} {r ck : Nat} {ro : Bool} {l : List (Int × Int)} (hg : H.get r = some (.map (entB l) ck ro)) (a b : Int) : aLookup Tryd.prog tb 96 (.map (some r)) (.agg #[.int .u8 a, .int .u16 b]) false H = some (.bool (l.any fun x => (a == x.1) && (b == x.2))) := by
  have hz : zeroT tb 4 = some (.bool false) := by kernel_rfl
  have hf := find96 a b l (entB l) (entB_keys l)
  have hf : aFind Tryd.prog tb 48 (.agg #[.int .u8 a, .int .u16 b]) (entB l) = _ := hf
  unfold aLookup
  simp only [und96, hg, chk48]
  rw [if_pos (show flat 2 (.agg #[.int .u8 a, .int .u16 b]) = true from rfl), hf]
  have := spot_any (fun x : Int × Int => (a == x.1) && (b == x.2)) l 0
  cases h : spot (fun x : Int × Int => (a == x.1) && (b == x.2)) l 0 with
  | none =>
    rw [h] at this
    rw [← this]
    simp only [hz, Option.map_some, Bool.false_eq_true, if_false]; rfl
  | some j =>
    rw [h] at this
    rw [← this]
    obtain ⟨_, x, hx, _⟩ := spot_some l 0 j h
    have he : (entB l)[j]? = some { key := labV x, val := .bool true, born := j } := by
      unfold entB
      rw [List.getElem?_map, List.getElem?_zipIdx]
      rw [Nat.sub_zero] at hx
      simp [hx]
    simp only [Bool.false_eq_true, if_false, List.getD_eq_getElem?_getD, he, Option.getD_some]
    rfl
theorem update96 {H : AHeap} {r : Nat} {l : List (Int × Int)} (hg : H.get r = some (.map (entB l) l.length false)) {a b : Int} (hn : (l.any fun x => (a == x.1) && (b == x.2)) = false) :
    aMapUpdate Tryd.prog tb 96 (.map (some r)) (.agg #[.int .u8 a, .int .u16 b]) (.bool true) H = some (H.set r (.map (entB (l ++ [(a, b)])) (l.length + 1))) := by
  have hf := find96 a b l (entB l) (entB_keys l)
  have hf : aFind Tryd.prog tb 48 (.agg #[.int .u8 a, .int .u16 b]) (entB l) = _ := hf
  unfold aMapUpdate
  simp only [und96, hg, chk48, hf, spot_none hn]
  rw [if_pos (show flat 2 (.agg #[.int .u8 a, .int .u16 b]) = true from rfl), entB_append]
  rfl
theorem s3_44 : s3 44 = none := id rfl
theorem s3_45 : s3 45 = none := id rfl
theorem new_cM {H : AHeap} {sr sm : Value} {regs : List RegD} {marks : List (Int × Int)} (hr : SlcE H sr RegD.cells 9 regs) (hm : SlcE H sm mkC 2 marks) (hmw : ∀ m ∈ marks, 0 ≤ m.1 ∧ m.1 ≤ 255 ∧ 0 ≤ m.2 ∧ m.2 ≤ 65535) (hml : marks.length ≤ 1000) :
    ACalls Tryd.prog 4 20 [sr, sm] H fun v H' => Keeps [] H H' ∧ ((newErr regs marks ≠ 0 ∧ v = .tuple #[.pointer none, .int .i64 (newErr regs marks)]) ∨
      (newErr regs marks = 0 ∧ ∃ i, v = .tuple #[.pointer (some ⟨i, 0, none⟩), .int .i64 0] ∧ regs.length ≠ 0 ∧ regs.length ≤ 64 ∧ ConfM H' H.next i regs (geosFrom 32 regs).1 (geosFrom 32 regs).2 marks)) := by
  have hsl : ∃ ra ca, sr = .slice ra regs.length ca := by
    rcases hr with ⟨rfl, rfl⟩ | ⟨b, c, row, ro, par, gs, rfl, _⟩
    · exact ⟨none, 0, rfl⟩
    · exact ⟨_, _, rfl⟩
  obtain ⟨ra, ca, hsr⟩ := hsl
  refine walk s3_ok (fn := Tryd.f20) (by kernel_rfl) (c := Tryd.f20.body.get (by kernel_rfl)) (by kernel_rfl) (by simp [Tryd.f20]) ?_
  simp only [Tryd.f20, Option.get]
  by_cases c1 : (regs.length : Int) = 0
  · have hv : newErr regs marks = 23 := by unfold newErr; rw [if_pos (.inl (by omega))]
    subst hsr
    simp only [go_sem, Nat.reduceLT, Nat.reduceEqDiff, ↓reduceIte, Nat.reduceAdd, Nat.zero_add, Nat.add_zero, Nat.reduceLeDiff, Int.reduceEq, Nat.reduceMul, List.take_zero, List.drop_succ_cons, List.drop_zero, List.nil_append, List.append_nil, List.drop_nil, List.take_succ_cons, List.take_nil, List.cons_append, Int.toNat_natCast, Int.toNat_zero, Int.toNat_one, c1, hv]
  by_cases c2 : 64 < (regs.length : Int)
  · have hv : newErr regs marks = 23 := by unfold newErr; rw [if_pos (.inr (by omega))]
    subst hsr
    simp only [go_sem, Nat.reduceLT, Nat.reduceEqDiff, ↓reduceIte, Nat.reduceAdd, Nat.zero_add, Nat.add_zero, Nat.reduceLeDiff, Int.reduceEq, Nat.reduceMul, List.take_zero, List.drop_succ_cons, List.drop_zero, List.nil_append, List.append_nil, List.drop_nil, List.take_succ_cons, List.take_nil, List.cons_append, Int.toNat_natCast, Int.toNat_zero, Int.toNat_one, c1, c2, hv]
  rcases hr with ⟨rfl, _⟩ | ⟨ia, ca', row, ro, par, gs, e0, hrow, hel⟩
  · simp at c1
  rw [hsr] at e0
  injection e0 with e1 e2 e3
  subst e1; subst e3
  subst hsr
  have hia : ia < H.next := AHeap.get_lt hrow
  have hnl : regs.length ≤ 64 := by omega
  have hlen0 : ¬ (regs.length = 0 ∨ 64 < regs.length) := by omega
  simp only [go_sem, Nat.reduceLT, Nat.reduceEqDiff, ↓reduceIte, Nat.reduceAdd, Nat.zero_add, Nat.add_zero, Nat.reduceLeDiff, Int.reduceEq, Nat.reduceMul, List.take_zero, List.drop_succ_cons, List.drop_zero, List.nil_append, List.append_nil, List.drop_nil, List.take_succ_cons, List.take_nil, List.cons_append, Int.toNat_natCast, Int.toNat_zero, Int.toNat_one, c1, c2]
  refine codeW_loop (fun nn τ X => ∃ k, nn = regs.length - k ∧ k ≤ regs.length ∧ tget τ 0 = .slice (some ⟨ia, 0, none⟩) regs.length ca ∧ tget τ 1 = sm ∧ tget τ 6 = .pointer (some ⟨H.next + 3, 0, none⟩) ∧ tget τ 27 = .slice (some ⟨ia, 0, none⟩) regs.length ca ∧
    tget τ 28 = .int .i64 regs.length ∧ tget τ 29 = .int .i64 (k : Nat) ∧ KeepLo H.next H X ∧ ConfK X H.next (H.next + 3) (regs.take k) (geosFrom 32 (regs.take k)).1 (geosFrom 32 (regs.take k)).2 ∧ addsErr regs.length [] regs = addsErr regs.length (regs.take k) (regs.drop k)) (n := regs.length) ⟨0, rfl, Nat.zero_le _, ?_, ?_, ?_, ?_, ?_, ?_, ?_, ?_, rfl⟩ ?_
  · simp only [go_sem, Nat.reduceLT, Nat.reduceEqDiff, ↓reduceIte, Nat.reduceAdd, Nat.zero_add, Nat.add_zero, Nat.reduceLeDiff, Int.reduceEq, Nat.reduceMul]
  · simp only [go_sem, Nat.reduceLT, Nat.reduceEqDiff, ↓reduceIte, Nat.reduceAdd, Nat.zero_add, Nat.add_zero, Nat.reduceLeDiff, Int.reduceEq, Nat.reduceMul]
  · simp only [go_sem, Nat.reduceLT, Nat.reduceEqDiff, ↓reduceIte, Nat.reduceAdd, Nat.zero_add, Nat.add_zero, Nat.reduceLeDiff, Int.reduceEq, Nat.reduceMul]
  · simp only [go_sem, Nat.reduceLT, Nat.reduceEqDiff, ↓reduceIte, Nat.reduceAdd, Nat.zero_add, Nat.add_zero, Nat.reduceLeDiff, Int.reduceEq, Nat.reduceMul]
  · simp only [go_sem, Nat.reduceLT, Nat.reduceEqDiff, ↓reduceIte, Nat.reduceAdd, Nat.zero_add, Nat.add_zero, Nat.reduceLeDiff, Int.reduceEq, Nat.reduceMul]
  · simp only [go_sem, Nat.reduceLT, Nat.reduceEqDiff, ↓reduceIte, Nat.reduceAdd, Nat.zero_add, Nat.add_zero, Nat.reduceLeDiff, Int.reduceEq, Nat.reduceMul]; rfl
  · refine ⟨by simp only [go_sem, Nat.reduceLT, Nat.reduceEqDiff, ↓reduceIte, Nat.reduceAdd, Nat.zero_add, Nat.add_zero, Nat.reduceLeDiff, Int.reduceEq, Nat.reduceMul], fun j hj => ?_⟩
    have a1 : ∀ k, j ≠ H.next + k := fun k => by omega
    have a2 : j ≠ H.next := by omega
    simp only [go_sem, Nat.reduceLT, Nat.reduceEqDiff, ↓reduceIte, Nat.reduceAdd, Nat.zero_add, Nat.add_zero, Nat.reduceLeDiff, Int.reduceEq, Nat.reduceMul, a1, a2]
  · refine ⟨⟨H.next, H.next + 1, H.next + 2, .slice none 0 0, .slice none 0 0, ?_, ?_, ?_, ?_, .inl ⟨rfl, rfl, rfl⟩, .inl ⟨rfl, rfl, rfl⟩, by omega, by omega, by omega, by omega, by omega, by omega⟩, by omega, rfl⟩
    · simp only [go_sem, Nat.reduceLT, Nat.reduceEqDiff, ↓reduceIte, Nat.reduceAdd, Nat.zero_add, Nat.add_zero, Nat.reduceLeDiff, Int.reduceEq, Nat.reduceMul]; rfl
    · simp only [go_sem, Nat.reduceLT, Nat.reduceEqDiff, ↓reduceIte, Nat.reduceAdd, Nat.zero_add, Nat.add_zero, Nat.reduceLeDiff, Int.reduceEq, Nat.reduceMul]
    · simp only [go_sem, Nat.reduceLT, Nat.reduceEqDiff, ↓reduceIte, Nat.reduceAdd, Nat.zero_add, Nat.add_zero, Nat.reduceLeDiff, Int.reduceEq, Nat.reduceMul]; rfl
    · simp only [go_sem, Nat.reduceLT, Nat.reduceEqDiff, ↓reduceIte, Nat.reduceAdd, Nat.zero_add, Nat.add_zero, Nat.reduceLeDiff, Int.reduceEq, Nat.reduceMul]; rfl
  · rintro nn τ X ⟨k, rfl, hk, t0, t1, t6, t27, t28, t29, hK, hC, hE⟩
    have xia : X.get ia = some (.cells row ro par gs) := (hK.old ia hia).trans hrow
    have hXl := hK.le
    have hia' : ia < X.next := by omega
    by_cases hlt : k < regs.length
    · obtain ⟨r, hr⟩ : ∃ r, regs[k]? = some r := ⟨_, List.getElem?_eq_getElem hlt⟩
      obtain ⟨e1, e2⟩ := hel k r hr
      have hz : (0 : Int) ≤ (k : Int) := by omega
      have hd : (k : Int) < (regs.length : Int) := by omega
      have hw : IntKind.wrap .i64 ((k : Int) + 1) = ((k + 1 : Nat) : Int) := by rw [wrap64] <;> omega
      have hlk : (regs.take k).length = k := by simp; omega
      have hnext : regs.take (k + 1) = regs.take k ++ [r] := by rw [List.take_add_one, hr]; rfl
      have hadd := add_c (hC.keeps (((Keeps.refl [] X).new' (.cells [.string ⟨#[]⟩, .int .u8 0, .int .u16 0, .int .i64 0, .int .i64 0, .int .i64 0, .int .i64 0, .int .i64 0, .int .i64 0] false [] 0)).set' (o := .cells r.cells false [] 0) (i := X.next) (Nat.le_refl _) (by simp))) (by rw [hlk]; omega) r regs.length
      rw [hlk] at hadd
      simp only [go_sem, Nat.reduceLT, Nat.reduceEqDiff, ↓reduceIte, Nat.reduceAdd, Nat.zero_add, Nat.add_zero, Nat.reduceLeDiff, Int.reduceEq, Nat.reduceMul, List.take_zero, List.drop_succ_cons, List.drop_zero, List.nil_append, List.append_nil, List.drop_nil, List.take_succ_cons, List.take_nil, List.cons_append, Int.toNat_natCast, Int.toNat_zero, Int.toNat_one, t0, t1, t6, t27, t28, t29, xia, hia', hz, hd, e1, e2, RegD.cells, s3_44, hw]
      refine callsx_of (cxS_ok s3_ok) (fn := Tryd.f44) (by kernel_rfl) (by kernel_rfl) hadd ?_
      rintro v X2 ⟨rfl, hk2, hc2⟩
      have hk3 : KeepLo H.next H X2 := hK.trans ((KeepLo.of (((Keeps.refl [] X).new' _).set' (i := X.next) (Nat.le_refl _) (by simp)) hXl).trans hk2)
      by_cases he : addErr regs.length (regs.take k) r = 0
      · have hc3 := hc2 he
        rw [← hnext] at hc3
        have hg : geosFrom 32 (regs.take (k + 1)) = ((geosFrom 32 (regs.take k)).1 ++ [geoOf (geosFrom 32 (regs.take k)).2 r], w64 ((geoOf (geosFrom 32 (regs.take k)).2 r).data + r.blocks)) := by rw [hnext, geosFrom_snoc]
        have hE2 : addsErr regs.length [] regs = addsErr regs.length (regs.take (k + 1)) (regs.drop (k + 1)) := by rw [hE, drop_at hr]; simp only [addsErr, he, if_true, hnext]
        simp only [go_sem, Nat.reduceLT, Nat.reduceEqDiff, ↓reduceIte, Nat.reduceAdd, Nat.zero_add, Nat.add_zero, Nat.reduceLeDiff, Int.reduceEq, Nat.reduceMul, List.take_zero, List.drop_succ_cons, List.drop_zero, List.nil_append, List.append_nil, List.drop_nil, List.take_succ_cons, List.take_nil, List.cons_append, Int.toNat_natCast, Int.toNat_zero, Int.toNat_one, t0, t1, t6, t27, t28, t29, he, hw]
        exact ⟨regs.length - (k + 1), by omega, k + 1, rfl, hlt, rfl, hk3, by rw [hg]; exact hc3, hE2⟩
      · have hE2 : addsErr regs.length [] regs = addErr regs.length (regs.take k) r := by rw [hE, drop_at hr]; simp only [addsErr, he, if_false]
        have hv : newErr regs marks = addErr regs.length (regs.take k) r := by unfold newErr; rw [if_neg hlen0, if_pos (by rw [hE2]; exact he), hE2]
        simp only [go_sem, Nat.reduceLT, Nat.reduceEqDiff, ↓reduceIte, Nat.reduceAdd, Nat.zero_add, Nat.add_zero, Nat.reduceLeDiff, Int.reduceEq, Nat.reduceMul, List.take_zero, List.drop_succ_cons, List.drop_zero, List.nil_append, List.append_nil, List.drop_nil, List.take_succ_cons, List.take_nil, List.cons_append, Int.toNat_natCast, Int.toNat_zero, Int.toNat_one, t0, t1, t6, t27, t28, t29, he, hv]
        exact ⟨hk3.le, fun j hj _ => hk3.old j hj⟩
    · have hk' : k = regs.length := by omega
      subst hk'
      have hd : ¬ ((regs.length : Int) < (regs.length : Int)) := by omega
      rw [List.take_length] at hC hE
      rw [List.drop_length] at hE
      have hE0 : addsErr regs.length [] regs = 0 := by rw [hE]; rfl
      obtain ⟨r0, hr0⟩ : ∃ r, regs[0]? = some r := ⟨_, List.getElem?_eq_getElem (by omega)⟩
      have hgd0 : regs.getD 0 zeroReg = r0 := by simp [List.getD_eq_getElem?_getD, hr0]
      obtain ⟨p1, p2⟩ := hel.part 0 1 2 r0 hr0 (by omega)
      simp only [Nat.zero_mul, Nat.zero_add] at p1 p2
      have hpos : (0 : Int) < (regs.length : Int) := by omega
      have hz0 : ((0 : Int) ≤ 0) = True := by simp
      cases c3 : ((r0.lev == 0) && (r0.cats == 0))
      · have hv : newErr regs marks = 25 := by unfold newErr; rw [if_neg hlen0, if_neg (by rw [hE0]; simp), hgd0, if_pos c3]
        simp only [go_sem, Nat.reduceLT, Nat.reduceEqDiff, ↓reduceIte, Nat.reduceAdd, Nat.zero_add, Nat.add_zero, Nat.reduceLeDiff, Int.reduceEq, Nat.reduceMul, List.take_zero, List.drop_succ_cons, List.drop_zero, List.nil_append, List.append_nil, List.drop_nil, List.take_succ_cons, List.take_nil, List.cons_append, Int.toNat_natCast, Int.toNat_zero, Int.toNat_one, t0, t1, t6, t27, t28, t29, xia, hia', hd, hpos, hz0, p1, p2, RegD.cells, neq36, c3, hv]
        exact ⟨hK.le, fun j hj _ => hK.old j hj⟩
      simp only [go_sem, Nat.reduceLT, Nat.reduceEqDiff, ↓reduceIte, Nat.reduceAdd, Nat.zero_add, Nat.add_zero, Nat.reduceLeDiff, Int.reduceEq, Nat.reduceMul, List.take_zero, List.drop_succ_cons, List.drop_zero, List.nil_append, List.append_nil, List.drop_nil, List.take_succ_cons, List.take_nil, List.cons_append, Int.toNat_natCast, Int.toNat_zero, Int.toNat_one, t0, t1, t6, t27, t28, t29, xia, hia', hd, hpos, hz0, p1, p2, RegD.cells, neq36, c3]
      have hM := hC.toM
      refine codeW_loop (fun nn τ X => ∃ k, nn = regs.length - k ∧ k ≤ regs.length ∧ tget τ 0 = .slice (some ⟨ia, 0, none⟩) regs.length ca ∧ tget τ 1 = sm ∧ tget τ 6 = .pointer (some ⟨H.next + 3, 0, none⟩) ∧ tget τ 50 = .slice (some ⟨ia, 0, none⟩) regs.length ca ∧
        tget τ 51 = .int .i64 regs.length ∧ tget τ 52 = .int .i64 (k : Nat) ∧ KeepLo H.next H X ∧ ConfM X H.next (H.next + 3) regs (geosFrom 32 regs).1 (geosFrom 32 regs).2 [] ∧ leqsFrom regs regs 0 = leqsFrom regs (regs.drop k) k) (n := regs.length) ⟨0, rfl, Nat.zero_le _, ?_, ?_, ?_, ?_, ?_, ?_, hK, hM, rfl⟩ ?_
      · simp only [go_sem, Nat.reduceLT, Nat.reduceEqDiff, ↓reduceIte, Nat.reduceAdd, Nat.zero_add, Nat.add_zero, Nat.reduceLeDiff, Int.reduceEq, Nat.reduceMul, t0]
      · simp only [go_sem, Nat.reduceLT, Nat.reduceEqDiff, ↓reduceIte, Nat.reduceAdd, Nat.zero_add, Nat.add_zero, Nat.reduceLeDiff, Int.reduceEq, Nat.reduceMul, t1]
      · simp only [go_sem, Nat.reduceLT, Nat.reduceEqDiff, ↓reduceIte, Nat.reduceAdd, Nat.zero_add, Nat.add_zero, Nat.reduceLeDiff, Int.reduceEq, Nat.reduceMul, t6]
      · simp only [go_sem, Nat.reduceLT, Nat.reduceEqDiff, ↓reduceIte, Nat.reduceAdd, Nat.zero_add, Nat.add_zero, Nat.reduceLeDiff, Int.reduceEq, Nat.reduceMul]
      · simp only [go_sem, Nat.reduceLT, Nat.reduceEqDiff, ↓reduceIte, Nat.reduceAdd, Nat.zero_add, Nat.add_zero, Nat.reduceLeDiff, Int.reduceEq, Nat.reduceMul]
      · simp only [go_sem, Nat.reduceLT, Nat.reduceEqDiff, ↓reduceIte, Nat.reduceAdd, Nat.zero_add, Nat.add_zero, Nat.reduceLeDiff, Int.reduceEq, Nat.reduceMul]; rfl
      clear hK hC hM hE t0 t1 t6 t27 t28 t29 xia hXl hia' hk hlt
      rintro nn τ X ⟨k, rfl, hk, t0, t1, t6, t50, t51, t52, hK, hM, hE⟩
      have xia : X.get ia = some (.cells row ro par gs) := (hK.old ia hia).trans hrow
      have hXl := hK.le
      have hia' : ia < X.next := by omega
      by_cases hlt : k < regs.length
      · obtain ⟨r, hr⟩ : ∃ r, regs[k]? = some r := ⟨_, List.getElem?_eq_getElem hlt⟩
        obtain ⟨e1, e2⟩ := hel k r hr
        have hz : (0 : Int) ≤ (k : Int) := by omega
        have hd : (k : Int) < (regs.length : Int) := by omega
        have hw : IntKind.wrap .i64 ((k : Int) + 1) = ((k + 1 : Nat) : Int) := by rw [wrap64] <;> omega
        have hX : ∀ o o2 : AObj, Keeps [] X ((X.new o).set X.next o2) := fun o o2 => ((Keeps.refl [] X).new' o).set' (i := X.next) (Nat.le_refl _) (by simp)
        have hM2 := hM.keeps (hX (.cells [.string ⟨#[]⟩, .int .u8 0, .int .u16 0, .int .i64 0, .int .i64 0, .int .i64 0, .int .i64 0, .int .i64 0, .int .i64 0] false [] 0) (.cells r.cells false [] 0))
        obtain ⟨ir, ig, hI⟩ := hM2.isConf (by omega) hnl
        have hq := leq_c hI k r.clear
        have hs : leqsFrom regs (regs.drop k) k = (leqR regs k r.clear && leqsFrom regs (regs.drop (k + 1)) (k + 1)) := by rw [drop_at hr]; rfl
        simp only [go_sem, Nat.reduceLT, Nat.reduceEqDiff, ↓reduceIte, Nat.reduceAdd, Nat.zero_add, Nat.add_zero, Nat.reduceLeDiff, Int.reduceEq, Nat.reduceMul, List.take_zero, List.drop_succ_cons, List.drop_zero, List.nil_append, List.append_nil, List.drop_nil, List.take_succ_cons, List.take_nil, List.cons_append, Int.toNat_natCast, Int.toNat_zero, Int.toNat_one, t0, t1, t6, t50, t51, t52, xia, hia', hz, hd, e1, e2, RegD.cells, s3_45, hw]
        refine callsx_of (cxS_ok s3_ok) (fn := Tryd.f45) (by kernel_rfl) (by kernel_rfl) hq ?_
        rintro v X2 ⟨rfl, rfl⟩
        have hk3 := hK.trans (KeepLo.of (hX (.cells [.string ⟨#[]⟩, .int .u8 0, .int .u16 0, .int .i64 0, .int .i64 0, .int .i64 0, .int .i64 0, .int .i64 0, .int .i64 0] false [] 0) (.cells r.cells false [] 0)) hXl)
        cases c4 : leqR regs k r.clear
        · have hv : newErr regs marks = 2 := by
            unfold newErr; rw [if_neg hlen0, if_neg (by rw [hE0]; simp), hgd0, if_neg (by rw [c3]; simp), if_pos (by rw [hE, hs, c4]; rfl)]
          simp only [go_sem, Nat.reduceLT, Nat.reduceEqDiff, ↓reduceIte, Nat.reduceAdd, Nat.zero_add, Nat.add_zero, Nat.reduceLeDiff, Int.reduceEq, Nat.reduceMul, List.take_zero, List.drop_succ_cons, List.drop_zero, List.nil_append, List.append_nil, List.drop_nil, List.take_succ_cons, List.take_nil, List.cons_append, Int.toNat_natCast, Int.toNat_zero, Int.toNat_one, t0, t1, t6, t50, t51, t52, hw, c4, hv]
          exact ⟨hk3.le, fun j hj _ => hk3.old j hj⟩
        · simp only [go_sem, Nat.reduceLT, Nat.reduceEqDiff, ↓reduceIte, Nat.reduceAdd, Nat.zero_add, Nat.add_zero, Nat.reduceLeDiff, Int.reduceEq, Nat.reduceMul, List.take_zero, List.drop_succ_cons, List.drop_zero, List.nil_append, List.append_nil, List.drop_nil, List.take_succ_cons, List.take_nil, List.cons_append, Int.toNat_natCast, Int.toNat_zero, Int.toNat_one, t0, t1, t6, t50, t51, t52, hw, c4]
          exact ⟨regs.length - (k + 1), by omega, k + 1, rfl, hlt, rfl, hk3, hM2, by rw [hE, hs, c4, Bool.true_and]⟩
      · have hk' : k = regs.length := by omega
        subst hk'
        have hd : ¬ ((regs.length : Int) < (regs.length : Int)) := by omega
        rw [List.drop_length] at hE
        have hL : leqsFrom regs regs 0 = true := by rw [hE]; rfl
        have hv0 : newErr regs marks = marksErr regs [] marks := by unfold newErr; rw [if_neg hlen0, if_neg (by rw [hE0]; simp), hgd0, if_neg (by rw [c3]; simp), if_neg (by rw [hL]; simp)]
        have hsm : ∃ ra ca, sm = .slice ra marks.length ca := by
          rcases hm with ⟨rfl, rfl⟩ | ⟨b, c, row, ro, par, gs, rfl, _⟩
          · exact ⟨none, 0, rfl⟩
          · exact ⟨_, _, rfl⟩
        obtain ⟨rm, cm, hsm⟩ := hsm
        subst hsm
        simp only [go_sem, Nat.reduceLT, Nat.reduceEqDiff, ↓reduceIte, Nat.reduceAdd, Nat.zero_add, Nat.add_zero, Nat.reduceLeDiff, Int.reduceEq, Nat.reduceMul, List.take_zero, List.drop_succ_cons, List.drop_zero, List.nil_append, List.append_nil, List.drop_nil, List.take_succ_cons, List.take_nil, List.cons_append, Int.toNat_natCast, Int.toNat_zero, Int.toNat_one, t0, t1, t6, t50, t51, t52, hd]
        refine codeW_loop (fun nn τ X => ∃ k, nn = marks.length - k ∧ k ≤ marks.length ∧ tget τ 0 = .slice (some ⟨ia, 0, none⟩) regs.length ca ∧ tget τ 6 = .pointer (some ⟨H.next + 3, 0, none⟩) ∧ tget τ 64 = .slice rm marks.length cm ∧
          tget τ 65 = .int .i64 marks.length ∧ tget τ 66 = .int .i64 (k : Nat) ∧ KeepLo H.next H X ∧ ConfM X H.next (H.next + 3) regs (geosFrom 32 regs).1 (geosFrom 32 regs).2 (marks.take k) ∧ marksErr regs [] marks = marksErr regs (marks.take k) (marks.drop k)) (n := marks.length) ⟨0, rfl, Nat.zero_le _, ?_, ?_, ?_, ?_, ?_, hK, hM, rfl⟩ ?_
        · simp only [go_sem, Nat.reduceLT, Nat.reduceEqDiff, ↓reduceIte, Nat.reduceAdd, Nat.zero_add, Nat.add_zero, Nat.reduceLeDiff, Int.reduceEq, Nat.reduceMul, t0]
        · simp only [go_sem, Nat.reduceLT, Nat.reduceEqDiff, ↓reduceIte, Nat.reduceAdd, Nat.zero_add, Nat.add_zero, Nat.reduceLeDiff, Int.reduceEq, Nat.reduceMul, t6]
        · simp only [go_sem, Nat.reduceLT, Nat.reduceEqDiff, ↓reduceIte, Nat.reduceAdd, Nat.zero_add, Nat.add_zero, Nat.reduceLeDiff, Int.reduceEq, Nat.reduceMul]
        · simp only [go_sem, Nat.reduceLT, Nat.reduceEqDiff, ↓reduceIte, Nat.reduceAdd, Nat.zero_add, Nat.add_zero, Nat.reduceLeDiff, Int.reduceEq, Nat.reduceMul]
        · simp only [go_sem, Nat.reduceLT, Nat.reduceEqDiff, ↓reduceIte, Nat.reduceAdd, Nat.zero_add, Nat.add_zero, Nat.reduceLeDiff, Int.reduceEq, Nat.reduceMul]; rfl
        clear hK hM hE t0 t1 t6 t50 t51 t52 xia hXl hia' hk hlt
        rintro nn τ X ⟨k, rfl, hk, t0, t6, t64, t65, t66, hK, hM, hE⟩
        have xia : X.get ia = some (.cells row ro par gs) := (hK.old ia hia).trans hrow
        have hXl := hK.le
        by_cases hlt : k < marks.length
        · rcases hm with ⟨rfl, _⟩ | ⟨im, cm', rowm, rom, parm, gsm, e0, hrowm, helm⟩
          · simp at hlt
          injection e0 with e1 _ e3
          subst e1; subst e3
          have him : im < H.next := AHeap.get_lt hrowm
          have xim : X.get im = some (.cells rowm rom parm gsm) := (hK.old im him).trans hrowm
          obtain ⟨m, hmk⟩ : ∃ m, marks[k]? = some m := ⟨_, List.getElem?_eq_getElem hlt⟩
          obtain ⟨g1, g2, g3, g4⟩ := hmw m (List.mem_of_getElem? hmk)
          obtain ⟨ma, mb⟩ := m
          simp only at g1 g2 g3 g4
          obtain ⟨e1, e2⟩ := helm k (ma, mb) hmk
          have hz : (0 : Int) ≤ (k : Int) := by omega
          have hd : (k : Int) < (marks.length : Int) := by omega
          have hw : IntKind.wrap .i64 ((k : Int) + 1) = ((k + 1 : Nat) : Int) := by rw [wrap64] <;> omega
          have hwa : IntKind.wrap .i64 ma = ma := by rw [wrap64] <;> omega
          have hwb : IntKind.wrap .i64 mb = mb := by rw [wrap64] <;> omega
          have hs : marksErr regs (marks.take k) (marks.drop k) = marksErr regs (marks.take k) ((ma, mb) :: marks.drop (k + 1)) := by rw [drop_at hmk]
          have hnext : marks.take (k + 1) = marks.take k ++ [(ma, mb)] := by rw [List.take_add_one, hmk]; rfl
          simp only [go_sem, Nat.reduceLT, Nat.reduceEqDiff, ↓reduceIte, Nat.reduceAdd, Nat.zero_add, Nat.add_zero, Nat.reduceLeDiff, Int.reduceEq, Nat.reduceMul, List.take_zero, List.drop_succ_cons, List.drop_zero, List.nil_append, List.append_nil, List.drop_nil, List.take_succ_cons, List.take_nil, List.cons_append, Int.toNat_natCast, Int.toNat_zero, Int.toNat_one, t0, t6, t64, t65, t66, xim, hz, hd, e1, e2, mkC]
          refine codeW_forget (fun τ Y => tget τ 0 = .slice (some ⟨ia, 0, none⟩) regs.length ca ∧ tget τ 6 = .pointer (some ⟨H.next + 3, 0, none⟩) ∧ tget τ 13 = .pointer (some ⟨X.next, 0, none⟩) ∧ tget τ 64 = .slice (some ⟨im, 0, none⟩) marks.length cm ∧
            tget τ 65 = .int .i64 marks.length ∧ tget τ 66 = .int .i64 (k : Nat) ∧ Keeps [] X Y ∧ Y.get X.next = some (.cells [.int .u8 ma, .int .u16 mb] false [] 0)) ?_ ?_
          · refine ⟨?_, ?_, ?_, ?_, ?_, ?_, ((Keeps.refl [] X).new' _).set' (i := X.next) (Nat.le_refl _) (by simp), ?_⟩
            · simp only [go_sem, Nat.reduceLT, Nat.reduceEqDiff, ↓reduceIte, Nat.reduceAdd, Nat.zero_add, Nat.add_zero, Nat.reduceLeDiff, Int.reduceEq, Nat.reduceMul, t0]
            · simp only [go_sem, Nat.reduceLT, Nat.reduceEqDiff, ↓reduceIte, Nat.reduceAdd, Nat.zero_add, Nat.add_zero, Nat.reduceLeDiff, Int.reduceEq, Nat.reduceMul, t6]
            · simp only [go_sem, Nat.reduceLT, Nat.reduceEqDiff, ↓reduceIte, Nat.reduceAdd, Nat.zero_add, Nat.add_zero, Nat.reduceLeDiff, Int.reduceEq, Nat.reduceMul]
            · simp only [go_sem, Nat.reduceLT, Nat.reduceEqDiff, ↓reduceIte, Nat.reduceAdd, Nat.zero_add, Nat.add_zero, Nat.reduceLeDiff, Int.reduceEq, Nat.reduceMul, t64]
            · simp only [go_sem, Nat.reduceLT, Nat.reduceEqDiff, ↓reduceIte, Nat.reduceAdd, Nat.zero_add, Nat.add_zero, Nat.reduceLeDiff, Int.reduceEq, Nat.reduceMul, t65]
            · simp only [go_sem, Nat.reduceLT, Nat.reduceEqDiff, ↓reduceIte, Nat.reduceAdd, Nat.zero_add, Nat.add_zero, Nat.reduceLeDiff, Int.reduceEq, Nat.reduceMul, t66]
            · simp only [go_sem, Nat.reduceLT, Nat.reduceEqDiff, ↓reduceIte, Nat.reduceAdd, Nat.zero_add, Nat.add_zero, Nat.reduceLeDiff, Int.reduceEq, Nat.reduceMul]
          clear t0 t6 t64 t65 t66
          rintro τ Y ⟨t0, t6, t13, t64, t65, t66, hXY, yx⟩
          have hKY := hK.trans (KeepLo.of hXY hXl)
          have hMY := hM.keeps hXY
          have yia : Y.get ia = some (.cells row ro par gs) := hXY.get xia (by simp)
          have ixl : H.next + 3 < X.next := by obtain ⟨⟨_, _, _, _, _, _, h, _⟩, _⟩ := hM; exact AHeap.get_lt h
          have hXn : X.next < Y.next := AHeap.get_lt yx
          have fail : ∀ (Z : AHeap), Keeps [] Y Z → Keeps [] H Z := fun Z hZ => by
            have h1 := hKY.trans (KeepLo.of hZ hKY.le)
            exact ⟨h1.le, fun j hj _ => h1.old j hj⟩
          refine codeW_any (cxS_ok s3_ok) inf20_22 (by kernel_rfl) fun _ => ?_
          by_cases c5 : (regs.length : Int) ≤ ma
          · have hv : newErr regs marks = 27 := by rw [hv0, hE, hs]; simp only [marksErr]; rw [if_pos (.inl c5)]
            simp only [inf20_22, go_sem, Nat.reduceLT, Nat.reduceEqDiff, ↓reduceIte, Nat.reduceAdd, Nat.zero_add, Nat.add_zero, Nat.reduceLeDiff, Int.reduceEq, Nat.reduceMul, List.take_zero, List.drop_succ_cons, List.drop_zero, List.nil_append, List.append_nil, List.drop_nil, List.take_succ_cons, List.take_nil, List.cons_append, Int.toNat_natCast, Int.toNat_zero, Int.toNat_one, t0, t6, t13, yx, hwa, hwb, c5, hv]
            exact fail _ (Keeps.refl _ _)
          by_cases c6 : mb < 1
          · have hv : newErr regs marks = 27 := by rw [hv0, hE, hs]; simp only [marksErr]; rw [if_pos (.inr (.inl c6))]
            simp only [inf20_22, go_sem, Nat.reduceLT, Nat.reduceEqDiff, ↓reduceIte, Nat.reduceAdd, Nat.zero_add, Nat.add_zero, Nat.reduceLeDiff, Int.reduceEq, Nat.reduceMul, List.take_zero, List.drop_succ_cons, List.drop_zero, List.nil_append, List.append_nil, List.drop_nil, List.take_succ_cons, List.take_nil, List.cons_append, Int.toNat_natCast, Int.toNat_zero, Int.toNat_one, t0, t6, t13, yx, hwa, hwb, c5, c6, hv]
            exact fail _ (Keeps.refl _ _)
          obtain ⟨p, rfl⟩ : ∃ p : Nat, ma = p := ⟨ma.toNat, by omega⟩
          obtain ⟨q, hq⟩ : ∃ q, regs[p]? = some q := ⟨_, List.getElem?_eq_getElem (by omega)⟩
          obtain ⟨w1, w2⟩ := hel.part p 4 1 q hq (by omega)
          have hgd : regs.getD p zeroReg = q := by simp [List.getD_eq_getElem?_getD, hq]
          have hzp : (0 : Int) ≤ (p : Int) := by omega
          have hpl : (p : Int) < (regs.length : Int) := by omega
          have hnode : row[p * 9 + 4]? = some (.int .i64 q.nodes) := by
            have h := congrArg (fun l => l[0]?) w1
            simp only [List.getElem?_take, List.getElem?_drop] at h
            simpa [RegD.cells] using h
          by_cases c7 : q.nodes < mb
          · have hv : newErr regs marks = 27 := by rw [hv0, hE, hs]; simp only [marksErr]; rw [if_pos (.inr (.inr (by simp only [Int.toNat_natCast, hgd]; exact c7)))]
            simp only [inf20_22, go_sem, Nat.reduceLT, Nat.reduceEqDiff, ↓reduceIte, Nat.reduceAdd, Nat.zero_add, Nat.add_zero, Nat.reduceLeDiff, Int.reduceEq, Nat.reduceMul, List.take_zero, List.drop_succ_cons, List.drop_zero, List.nil_append, List.append_nil, List.drop_nil, List.take_succ_cons, List.take_nil, List.cons_append, Int.toNat_natCast, Int.toNat_zero, Int.toNat_one, t0, t6, t13, yx, yia, hwa, hwb, c5, c6, c7, hzp, hpl, hnode, hv]
            exact fail _ (Keeps.refl _ _)
          simp only [inf20_22, go_sem, Nat.reduceLT, Nat.reduceEqDiff, ↓reduceIte, Nat.reduceAdd, Nat.zero_add, Nat.add_zero, Nat.reduceLeDiff, Int.reduceEq, Nat.reduceMul, List.take_zero, List.drop_succ_cons, List.drop_zero, List.nil_append, List.append_nil, List.drop_nil, List.take_succ_cons, List.take_nil, List.cons_append, Int.toNat_natCast, Int.toNat_zero, Int.toNat_one, t0, t6, t13, yx, yia, hwa, hwb, c5, c6, c7, hzp, hpl, hnode]
          obtain ⟨⟨it, inn, il, sr, smc, sg, yi, yit, yinn, yil, rsr, rsm, rsg, l1, l2, l3, d1, d2, d3⟩, hlow, hsame⟩ := hMY
          have hlk : (marks.take k).length = k := by simp; omega
          have hlook := look96 yit p mb
          refine codeW_any (cxS_ok s3_ok) inf20_24 (by kernel_rfl) fun _ => ?_
          cases c8 : (marks.take k).any fun x => (p : Int) == x.1 && mb == x.2
          rotate_left
          · have hv : newErr regs marks = 29 := by
              rw [hv0, hE, hs]; simp only [marksErr]
              rw [if_neg (by simp only [Int.toNat_natCast, hgd]; omega), if_pos c8]
            simp only [inf20_24, go_sem, Nat.reduceLT, Nat.reduceEqDiff, ↓reduceIte, Nat.reduceAdd, Nat.zero_add, Nat.add_zero, Nat.reduceLeDiff, Int.reduceEq, Nat.reduceMul, List.take_zero, List.drop_succ_cons, List.drop_zero, List.nil_append, List.append_nil, List.drop_nil, List.take_succ_cons, List.take_nil, List.cons_append, Int.toNat_natCast, Int.toNat_zero, Int.toNat_one, t0, t6, t13, yx, yi, hlook, c8, hv]
            exact fail _ (Keeps.refl _ _)
          have hs2 : marksErr regs (marks.take k) (marks.drop k) = marksErr regs (marks.take (k + 1)) (marks.drop (k + 1)) := by
            rw [hs, hnext]; simp only [marksErr]
            rw [if_neg (by simp only [Int.toNat_natCast, hgd]; omega), if_neg (by rw [c8]; simp)]
          simp only [inf20_24, go_sem, Nat.reduceLT, Nat.reduceEqDiff, ↓reduceIte, Nat.reduceAdd, Nat.zero_add, Nat.add_zero, Nat.reduceLeDiff, Int.reduceEq, Nat.reduceMul, List.take_zero, List.drop_succ_cons, List.drop_zero, List.nil_append, List.append_nil, List.drop_nil, List.take_succ_cons, List.take_nil, List.cons_append, Int.toNat_natCast, Int.toNat_zero, Int.toNat_one, t0, t6, t13, yx, yi, hlook, c8]
          have hup := update96 yit c8
          refine codeW_any (cxS_ok s3_ok) inf20_26 (by kernel_rfl) fun _ => ?_
          have itl : it < Y.next := AHeap.get_lt yit
          simp only [inf20_26, go_sem, Nat.reduceLT, Nat.reduceEqDiff, ↓reduceIte, Nat.reduceAdd, Nat.zero_add, Nat.add_zero, Nat.reduceLeDiff, Int.reduceEq, Nat.reduceMul, List.take_zero, List.drop_succ_cons, List.drop_zero, List.nil_append, List.append_nil, List.drop_nil, List.take_succ_cons, List.take_nil, List.cons_append, Int.toNat_natCast, Int.toNat_zero, Int.toNat_one, t0, t6, t13, yx, yi, hup]
          have hYN : KeepLo H.next Y (Y.set it (.map (entB (marks.take k ++ [((p : Int), mb)])) ((marks.take k).length + 1))) := ⟨by simp, fun j hj => by rw [AHeap.get_set _ _ _ _ itl, if_neg (by omega)]⟩
          refine codeW_forget (fun τ Z => tget τ 0 = .slice (some ⟨ia, 0, none⟩) regs.length ca ∧ tget τ 6 = .pointer (some ⟨H.next + 3, 0, none⟩) ∧ tget τ 13 = .pointer (some ⟨X.next, 0, none⟩) ∧ tget τ 64 = .slice (some ⟨im, 0, none⟩) marks.length cm ∧
            tget τ 65 = .int .i64 marks.length ∧ tget τ 66 = .int .i64 (k : Nat) ∧ Z.next = Y.next ∧ Z.get it = some (.map (entB (marks.take (k + 1))) (marks.take (k + 1)).length false) ∧ (∀ j, j ≠ it → Z.get j = Y.get j)) ?_ ?_
          · refine ⟨?_, ?_, ?_, ?_, ?_, ?_, ?_, ?_, ?_⟩
            · simp only [go_sem, Nat.reduceLT, Nat.reduceEqDiff, ↓reduceIte, Nat.reduceAdd, Nat.zero_add, Nat.add_zero, Nat.reduceLeDiff, Int.reduceEq, Nat.reduceMul, t0]
            · simp only [go_sem, Nat.reduceLT, Nat.reduceEqDiff, ↓reduceIte, Nat.reduceAdd, Nat.zero_add, Nat.add_zero, Nat.reduceLeDiff, Int.reduceEq, Nat.reduceMul, t6]
            · simp only [go_sem, Nat.reduceLT, Nat.reduceEqDiff, ↓reduceIte, Nat.reduceAdd, Nat.zero_add, Nat.add_zero, Nat.reduceLeDiff, Int.reduceEq, Nat.reduceMul, t13]
            · simp only [go_sem, Nat.reduceLT, Nat.reduceEqDiff, ↓reduceIte, Nat.reduceAdd, Nat.zero_add, Nat.add_zero, Nat.reduceLeDiff, Int.reduceEq, Nat.reduceMul, t64]
            · simp only [go_sem, Nat.reduceLT, Nat.reduceEqDiff, ↓reduceIte, Nat.reduceAdd, Nat.zero_add, Nat.add_zero, Nat.reduceLeDiff, Int.reduceEq, Nat.reduceMul, t65]
            · simp only [go_sem, Nat.reduceLT, Nat.reduceEqDiff, ↓reduceIte, Nat.reduceAdd, Nat.zero_add, Nat.add_zero, Nat.reduceLeDiff, Int.reduceEq, Nat.reduceMul, t66]
            · simp only [go_sem, Nat.reduceLT, Nat.reduceEqDiff, ↓reduceIte, Nat.reduceAdd, Nat.zero_add, Nat.add_zero, Nat.reduceLeDiff, Int.reduceEq, Nat.reduceMul]
            · rw [AHeap.get_set _ _ _ _ itl, if_pos rfl, hnext]; simp
            · intro j hj; rw [AHeap.get_set _ _ _ _ itl, if_neg (by omega)]
          clear t0 t6 t13 t64 t65 t66
          rintro τ Z ⟨t0, t6, t13, t64, t65, t66, zn, zit, zk⟩
          have nm : ∀ j o, Y.get j = some o → (∀ e c r, o ≠ .map e c r) → j ≠ it := fun j o h1 h2 e => by rw [e, yit] at h1; injection h1 with h1; exact h2 _ _ _ h1.symm
          have zi := (zk _ (nm _ _ yi (by intros; simp))).trans yi
          have zx := (zk _ (nm _ _ yx (by intros; simp))).trans yx
          have zinn := (zk _ (Ne.symm d1)).trans yinn
          have zil := (zk _ (Ne.symm d2)).trans yil
          have hil3 : H.next + 3 < Z.next := by omega
          have hx3 : X.next < Z.next := by omega
          have iA : ∀ k, H.next + 3 < Z.next + k := fun k => by omega
          have iB : ∀ k, H.next + 3 ≠ Z.next + k := fun k => by omega
          have iC : H.next + 3 ≠ Z.next := by omega
          have xA : ∀ k, X.next < Z.next + k := fun k => by omega
          have xB : ∀ k, X.next ≠ Z.next + k := fun k => by omega
          have xC : X.next ≠ Z.next := by omega
          have ix : H.next + 3 ≠ X.next := by omega
          have fin : ∀ (U : AHeap) (sm' : Value), Z.next ≤ U.next → (∀ j, j < H.next → U.get j = Z.get j) → U.get it = Z.get it → U.get inn = Z.get inn → U.get il = Z.get il →
              U.get (H.next + 3) = some (.cells [sr, .map (some it), sm', .map (some inn), .map (some il), sg, .int .i64 (geosFrom 32 regs).2] false [] 0) →
              RowS U H.next (H.next + 3) sm' (marks.take (k + 1)).length 2 ((marks.take (k + 1)).flatMap mkC) → (∀ b cs ro par sz, Z.get b = some (.cells cs ro par sz) → sz = 9 ∨ sz = 6 → U.get b = Z.get b) →
              KeepLo H.next H U ∧ ConfM U H.next (H.next + 3) regs (geosFrom 32 regs).1 (geosFrom 32 regs).2 (marks.take (k + 1)) := by
            intro U sm' f1 f2 f3 f4 f5 f6 f7 f8
            have rs : ∀ {s n sz cs}, sz = 9 ∨ sz = 6 → RowS Y H.next (H.next + 3) s n sz cs → RowS U H.next (H.next + 3) s n sz cs := by
              rintro s n sz cs hsz (h | ⟨b, par, a1, a2, a3, a4, a5⟩)
              · exact .inl h
              · have b1 := (zk _ (nm _ _ a3 (by intros; simp))).trans a3
                exact .inr ⟨b, par, a1, a2, (f8 _ _ _ _ _ b1 hsz).trans b1, a4, a5⟩
            refine ⟨⟨by have := hKY.le; omega, fun j hj => ?_⟩, ⟨it, inn, il, sr, sm', sg, f6, f3.trans zit, f4.trans zinn, f5.trans zil, rs (.inl rfl) rsr, f7, rs (.inr rfl) rsg, l1, l2, l3, d1, d2, d3⟩, hlow, hsame⟩
            rw [f2 j hj, zk j (by omega), hKY.old j hj]
          have w1 : it < Z.next := AHeap.get_lt zit
          have w2 : inn < Z.next := AHeap.get_lt zinn
          have w3 : il < Z.next := AHeap.get_lt zil
          have n1 : it ≠ H.next + 3 := fun e => by rw [e, zi] at zit; cases zit
          have n2 : inn ≠ H.next + 3 := fun e => by rw [e, zi] at zinn; cases zinn
          have n3 : il ≠ H.next + 3 := fun e => by rw [e, zi] at zil; cases zil
          refine codeW_any (cxS_ok s3_ok) inf20_27 (by kernel_rfl) fun hL => ?_
          rcases rsm with ⟨z1, rfl, z3⟩ | ⟨b, par, z1, rfl, z3, z4, z5⟩
          · rw [hlk] at z1
            subst z1
            simp only [inf20_27, go_sem, Nat.reduceLT, Nat.reduceEqDiff, ↓reduceIte, Nat.reduceAdd, Nat.zero_add, Nat.add_zero, Nat.reduceLeDiff, Int.reduceEq, Nat.reduceMul, List.take_zero, List.drop_succ_cons, List.drop_zero, List.nil_append, List.append_nil, List.drop_nil, List.take_succ_cons, List.take_nil, List.cons_append, Int.toNat_natCast, Int.toNat_zero, Int.toNat_one, t0, t6, t13, t64, t65, t66, zi, zx, hil3, hx3, iA, iB, iC, xA, xB, xC, ix, Ne.symm ix, hw]
            obtain ⟨u1, u2⟩ := fin (((Z.new (.cells [.int .u8 (p : Int), .int .u16 mb] false [] 2)).new (.cells [.int .u8 (p : Int), .int .u16 mb] false [] 2)).set (H.next + 3) (.cells [sr, .map (some it), .slice (some ⟨Z.next + 1, 0, none⟩) 1 (grow + 1), .map (some inn), .map (some il), sg, .int .i64 (geosFrom 32 regs).2] false [] 0)) (.slice (some ⟨Z.next + 1, 0, none⟩) 1 (grow + 1))
              (by simp only [go_sem, Nat.reduceLT, Nat.reduceEqDiff, ↓reduceIte, Nat.reduceAdd, Nat.zero_add, Nat.add_zero, Nat.reduceLeDiff, Int.reduceEq, Nat.reduceMul]) (fun j hj => by
                have a1 : j ≠ H.next + 3 := by omega
                have a2 : ∀ k, j ≠ Z.next + k := fun k => by omega
                have a3 : j ≠ Z.next := by omega
                simp only [go_sem, Nat.reduceLT, Nat.reduceEqDiff, ↓reduceIte, Nat.reduceAdd, Nat.zero_add, Nat.add_zero, Nat.reduceLeDiff, Int.reduceEq, Nat.reduceMul, a1, a2, a3, hil3, iA])
              (by
                have a2 : ∀ k, it ≠ Z.next + k := fun k => by omega
                have a3 : it ≠ Z.next := by omega
                simp only [go_sem, Nat.reduceLT, Nat.reduceEqDiff, ↓reduceIte, Nat.reduceAdd, Nat.zero_add, Nat.add_zero, Nat.reduceLeDiff, Int.reduceEq, Nat.reduceMul, a2, a3, n1, hil3, iA])
              (by
                have a2 : ∀ k, inn ≠ Z.next + k := fun k => by omega
                have a3 : inn ≠ Z.next := by omega
                simp only [go_sem, Nat.reduceLT, Nat.reduceEqDiff, ↓reduceIte, Nat.reduceAdd, Nat.zero_add, Nat.add_zero, Nat.reduceLeDiff, Int.reduceEq, Nat.reduceMul, a2, a3, n2, hil3, iA])
              (by
                have a2 : ∀ k, il ≠ Z.next + k := fun k => by omega
                have a3 : il ≠ Z.next := by omega
                simp only [go_sem, Nat.reduceLT, Nat.reduceEqDiff, ↓reduceIte, Nat.reduceAdd, Nat.zero_add, Nat.add_zero, Nat.reduceLeDiff, Int.reduceEq, Nat.reduceMul, a2, a3, n3, hil3, iA])
              (by simp only [go_sem, Nat.reduceLT, Nat.reduceEqDiff, ↓reduceIte, Nat.reduceAdd, Nat.zero_add, Nat.add_zero, Nat.reduceLeDiff, Int.reduceEq, Nat.reduceMul, hil3, iA])
              (by
                rw [hnext]
                refine .inr ⟨Z.next + 1, [], by simp, by simp, ?_, by omega, by omega⟩
                have a1 : Z.next + 1 ≠ H.next + 3 := by omega
                simp only [go_sem, Nat.reduceLT, Nat.reduceEqDiff, ↓reduceIte, Nat.reduceAdd, Nat.zero_add, Nat.add_zero, Nat.reduceLeDiff, Int.reduceEq, Nat.reduceMul, hil3, iA, a1, List.take_zero, List.nil_append, List.flatMap_cons, List.flatMap_nil, List.append_nil, mkC])
              (fun b cs ro par sz hb hsz => by
                have hbl := AHeap.get_lt hb
                have a1 : b ≠ H.next + 3 := fun e => by rw [e, zi] at hb; injection hb with hb; injection hb with _ _ _ h; omega
                have a2 : ∀ k, b ≠ Z.next + k := fun k => by omega
                have a3 : b ≠ Z.next := by omega
                simp only [go_sem, Nat.reduceLT, Nat.reduceEqDiff, ↓reduceIte, Nat.reduceAdd, Nat.zero_add, Nat.add_zero, Nat.reduceLeDiff, Int.reduceEq, Nat.reduceMul, hil3, iA, a1, a2, a3])
            exact ⟨marks.length - 1, by omega, 1, rfl, hlt, rfl, u1, u2, by rw [hE, hs2]⟩
          · have zb := (zk b (nm _ _ z3 (by intros; simp))).trans z3
            have hbZ : b < Z.next := AHeap.get_lt zb
            have b1 : b ≠ H.next + 3 := fun e => by rw [e, zi] at zb; injection zb with zb; injection zb with _ _ _ h; omega
            have b2 : b ≠ X.next := fun e => by rw [e, zx] at zb; injection zb with zb; injection zb with _ _ _ h; omega
            have bA : ∀ k, b < Z.next + k := fun k => by omega
            have bB : ∀ k, b ≠ Z.next + k := fun k => by omega
            have bC : b ≠ Z.next := by omega
            have hlen : (marks.take k).length * 2 = ((marks.take k).flatMap mkC).length := (flat_len (f := mkC) (fun _ => rfl) _).symm
            have a1 := fun o vs => appW_more (sz := 2) (by_ := 4) (n := 1) (l := (marks.take k).length) (b := b) (vs := vs) (cs := (marks.take k).flatMap mkC) (par := par) (H := Z.new o) (by omega) (by rw [get_new_old o (by omega)]; exact zb) hlen (by omega) (by unfold grow; omega)
            have hgr : Grew Z := by obtain ⟨μ, a, w, hR, _⟩ := hL; exact hR.grew
            have pr := hgr b _ zb
            have p1 : H.next + 3 ∉ par := fun h => by have := (pr _ h).2 _ zi; cases this
            have p2 : X.next ∉ par := fun h => by have := (pr _ h).2 _ zx; cases this
            simp only [inf20_27, go_sem, Nat.reduceLT, Nat.reduceEqDiff, ↓reduceIte, Nat.reduceAdd, Nat.zero_add, Nat.add_zero, Nat.reduceLeDiff, Int.reduceEq, Nat.reduceMul, List.take_zero, List.drop_succ_cons, List.drop_zero, List.nil_append, List.append_nil, List.drop_nil, List.take_succ_cons, List.take_nil, List.cons_append, Int.toNat_natCast, Int.toNat_zero, Int.toNat_one, t0, t6, t13, t64, t65, t66, zi, zx, zb, hil3, hx3, iA, iB, iC, xA, xB, xC, ix, Ne.symm ix, hw, a1, hbZ, bA, bB, bC, b1, b2, Ne.symm b1, Ne.symm b2, z5, Ne.symm z5, p1, p2]
            have e0 : b ≠ it := fun e => by rw [e, zit] at zb; cases zb
            have e1 : b ≠ inn := fun e => by rw [e, zinn] at zb; cases zb
            have e2 : b ≠ il := fun e => by rw [e, zil] at zb; cases zb
            obtain ⟨u1, u2⟩ := fin ((((Z.new (.cells [.int .u8 (p : Int), .int .u16 mb] false [] 2)).set b (.cells ((marks.take k).flatMap mkC) true par 2)).new (.cells ((marks.take k).flatMap mkC ++ [.int .u8 (p : Int), .int .u16 mb]) false (b :: par) 2)).set (H.next + 3) (.cells [sr, .map (some it), .slice (some ⟨Z.next + 1, 0, none⟩) ((marks.take k).length + 1) (grow + ((marks.take k).length + 1)), .map (some inn), .map (some il), sg, .int .i64 (geosFrom 32 regs).2] false [] 0)) (.slice (some ⟨Z.next + 1, 0, none⟩) ((marks.take k).length + 1) (grow + ((marks.take k).length + 1)))
              (by simp only [go_sem, Nat.reduceLT, Nat.reduceEqDiff, ↓reduceIte, Nat.reduceAdd, Nat.zero_add, Nat.add_zero, Nat.reduceLeDiff, Int.reduceEq, Nat.reduceMul]) (fun j hj => by
                have a1 : j ≠ H.next + 3 := by omega
                have a2 : ∀ k, j ≠ Z.next + k := fun k => by omega
                have a3 : j ≠ Z.next := by omega
                have a4 : j ≠ b := by omega
                simp only [go_sem, Nat.reduceLT, Nat.reduceEqDiff, ↓reduceIte, Nat.reduceAdd, Nat.zero_add, Nat.add_zero, Nat.reduceLeDiff, Int.reduceEq, Nat.reduceMul, a1, a2, a3, a4, hil3, iA, hbZ, bA])
              (by
                have a2 : ∀ k, it ≠ Z.next + k := fun k => by omega
                have a3 : it ≠ Z.next := by omega
                simp only [go_sem, Nat.reduceLT, Nat.reduceEqDiff, ↓reduceIte, Nat.reduceAdd, Nat.zero_add, Nat.add_zero, Nat.reduceLeDiff, Int.reduceEq, Nat.reduceMul, a2, a3, n1, hil3, iA, hbZ, bA, Ne.symm e0])
              (by
                have a2 : ∀ k, inn ≠ Z.next + k := fun k => by omega
                have a3 : inn ≠ Z.next := by omega
                simp only [go_sem, Nat.reduceLT, Nat.reduceEqDiff, ↓reduceIte, Nat.reduceAdd, Nat.zero_add, Nat.add_zero, Nat.reduceLeDiff, Int.reduceEq, Nat.reduceMul, a2, a3, n2, hil3, iA, hbZ, bA, Ne.symm e1])
              (by
                have a2 : ∀ k, il ≠ Z.next + k := fun k => by omega
                have a3 : il ≠ Z.next := by omega
                simp only [go_sem, Nat.reduceLT, Nat.reduceEqDiff, ↓reduceIte, Nat.reduceAdd, Nat.zero_add, Nat.add_zero, Nat.reduceLeDiff, Int.reduceEq, Nat.reduceMul, a2, a3, n3, hil3, iA, hbZ, bA, Ne.symm e2])
              (by simp only [go_sem, Nat.reduceLT, Nat.reduceEqDiff, ↓reduceIte, Nat.reduceAdd, Nat.zero_add, Nat.add_zero, Nat.reduceLeDiff, Int.reduceEq, Nat.reduceMul, hil3, iA, hbZ, bA])
              (by
                rw [hnext]
                refine .inr ⟨Z.next + 1, b :: par, by simp, by simp, ?_, by omega, by omega⟩
                have a1 : Z.next + 1 ≠ H.next + 3 := by omega
                simp only [go_sem, Nat.reduceLT, Nat.reduceEqDiff, ↓reduceIte, Nat.reduceAdd, Nat.zero_add, Nat.add_zero, Nat.reduceLeDiff, Int.reduceEq, Nat.reduceMul, hil3, iA, a1, hbZ, bA, List.flatMap_append, List.flatMap_cons, List.flatMap_nil, List.append_nil, mkC])
              (fun b' cs ro par' sz hb hsz => by
                have hbl := AHeap.get_lt hb
                have a1 : b' ≠ H.next + 3 := fun e => by rw [e, zi] at hb; injection hb with hb; injection hb with _ _ _ h; omega
                have a2 : ∀ k, b' ≠ Z.next + k := fun k => by omega
                have a3 : b' ≠ Z.next := by omega
                have a4 : b' ≠ b := fun e => by rw [e, zb] at hb; injection hb with hb; injection hb with _ _ _ h; omega
                simp only [go_sem, Nat.reduceLT, Nat.reduceEqDiff, ↓reduceIte, Nat.reduceAdd, Nat.zero_add, Nat.add_zero, Nat.reduceLeDiff, Int.reduceEq, Nat.reduceMul, hil3, iA, a1, a2, a3, a4, hbZ, bA])
            exact ⟨marks.length - (k + 1), by omega, k + 1, rfl, hlt, rfl, u1, u2, by rw [hE, hs2]⟩
        · have hk' : k = marks.length := by omega
          subst hk'
          have hd : ¬ ((marks.length : Int) < (marks.length : Int)) := by omega
          rw [List.drop_length] at hE
          have hv : newErr regs marks = 0 := by rw [hv0, hE]; rfl
          simp only [go_sem, Nat.reduceLT, Nat.reduceEqDiff, ↓reduceIte, Nat.reduceAdd, Nat.zero_add, Nat.add_zero, Nat.reduceLeDiff, Int.reduceEq, Nat.reduceMul, List.take_zero, List.drop_succ_cons, List.drop_zero, List.nil_append, List.append_nil, List.drop_nil, List.take_succ_cons, List.take_nil, List.cons_append, Int.toNat_natCast, Int.toNat_zero, Int.toNat_one, t0, t6, t64, t65, t66, hd, hv]
          exact ⟨⟨hK.le, fun j hj _ => hK.old j hj⟩, .inr ⟨H.next + 3, rfl, by omega, hnl, by simpa using hM⟩⟩
theorem new_c {H : AHeap} {sr sm : Value} {regs : List RegD} {marks : List (Int × Int)} (hr : SlcE H sr RegD.cells 9 regs) (hm : SlcE H sm mkC 2 marks) (hmw : ∀ m ∈ marks, 0 ≤ m.1 ∧ m.1 ≤ 255 ∧ 0 ≤ m.2 ∧ m.2 ≤ 65535) (hml : marks.length ≤ 1000) :
    ACalls Tryd.prog 4 20 [sr, sm] H fun v H' => Keeps [] H H' ∧ ((newErr regs marks ≠ 0 ∧ v = .tuple #[.pointer none, .int .i64 (newErr regs marks)]) ∨
      (newErr regs marks = 0 ∧ ∃ i ir ig, v = .tuple #[.pointer (some ⟨i, 0, none⟩), .int .i64 0] ∧ IsConf H' i ir ig regs (geosFrom 32 regs).1 (geosFrom 32 regs).2)) :=
  (new_cM hr hm hmw hml).mono fun v H' ⟨hK, h⟩ => ⟨hK, h.imp id fun ⟨h0, i, hv, h1, h2, hM⟩ => by
    obtain ⟨ir, ig, hI⟩ := hM.isConf h1 h2
    exact ⟨h0, i, ir, ig, hv, hI⟩⟩
end Go.Proofs.YtkjclebafpomhaaDoor
set_option linter.unusedVariables false
set_option linter.unusedSimpArgs false
set_option maxRecDepth 100000
namespace Go.Proofs.YtkjclebafpomhaaDoor
open Go Go.Eng

def nmB (k : Nat) : ByteArray := if k = 0 then ⟨#[108, 111, 119]⟩ else if k = 1 then ⟨#[114, 101, 100]⟩ else if k = 2 then ⟨#[98, 108, 117, 101]⟩ else if k = 3 then ⟨#[116, 111, 112]⟩ else ⟨#[104, 105, 103, 104]⟩
def lbL (k : Nat) : Int := if k = 0 then 0 else if k = 1 then 1 else if k = 2 then 1 else if k = 3 then 2 else 9
def lbC (k : Nat) : Int := if k = 0 then 0 else if k = 1 then 1 else if k = 2 then 2 else if k = 3 then 3 else 7
def nmCells : List Value := [.string ⟨#[108, 111, 119]⟩, .string ⟨#[114, 101, 100]⟩, .string ⟨#[98, 108, 117, 101]⟩, .string ⟨#[116, 111, 112]⟩, .string ⟨#[104, 105, 103, 104]⟩]
def lbCells : List Value := [.int .u8 0, .int .u16 0, .int .u8 1, .int .u16 1, .int .u8 1, .int .u16 2, .int .u8 2, .int .u16 3, .int .u8 9, .int .u16 7]
theorem nm_at {k : Nat} (h : k < 5) : nmCells[k]? = some (.string (nmB k)) := by
  rcases k with _ | _ | _ | _ | _ | k <;> first | rfl | omega
theorem lb_at {k : Nat} (h : k < 5) : (lbCells.drop (k * 2)).take 2 = [.int .u8 (lbL k), .int .u16 (lbC k)] ∧ k * 2 + 2 ≤ lbCells.length := by
  rcases k with _ | _ | _ | _ | _ | k <;> first | exact ⟨rfl, by decide⟩ | omega
def F42 : Spec := fun vs H => match vs with
  | [] => some (.slice (some ⟨H.next, 0, none⟩) 5 5, H.new (.cells nmCells false [] 1))
  | _ => none
def F43 : Spec := fun vs H => match vs with
  | [] => some (.slice (some ⟨H.next, 0, none⟩) 5 5, H.new (.cells lbCells false [] 2))
  | _ => none
theorem F42_eq (H : AHeap) : F42 [] H = some (.slice (some ⟨H.next, 0, none⟩) 5 5, H.new (.cells nmCells false [] 1)) := id rfl
theorem F43_eq (H : AHeap) : F43 [] H = some (.slice (some ⟨H.next, 0, none⟩) 5 5, H.new (.cells lbCells false [] 2)) := id rfl
theorem sp42 : SpOK 42 F42 := by
  refine .of (fn := Tryd.f42) (by kernel_rfl) (by kernel_rfl) ?_
  intro vs H v H' h
  unfold F42 at h
  split at h
  · injection h with h; injection h with h1 h2; subst h1; subst h2
    refine walk s3_ok (fn := Tryd.f42) (by kernel_rfl) (c := Tryd.f42.body.get (by kernel_rfl)) (by kernel_rfl) (by simp [Tryd.f42]) ?_
    simp only [Tryd.f42, Option.get]
    simp only [go_sem, Nat.reduceLT, Nat.reduceEqDiff, ↓reduceIte, Nat.reduceAdd, Nat.zero_add, Nat.add_zero, Nat.reduceLeDiff, Int.reduceEq, Nat.reduceMul, List.take_zero, List.drop_succ_cons, List.drop_zero, List.nil_append, List.append_nil, List.drop_nil, List.take_succ_cons, List.take_nil, List.cons_append, Int.toNat_natCast, Int.toNat_zero, Int.toNat_one, nmCells]
  · cases h
theorem sp43 : SpOK 43 F43 := by
  refine .of (fn := Tryd.f43) (by kernel_rfl) (by kernel_rfl) ?_
  intro vs H v H' h
  unfold F43 at h
  split at h
  · injection h with h; injection h with h1 h2; subst h1; subst h2
    refine walk s3_ok (fn := Tryd.f43) (by kernel_rfl) (c := Tryd.f43.body.get (by kernel_rfl)) (by kernel_rfl) (by simp [Tryd.f43]) ?_
    simp only [Tryd.f43, Option.get]
    simp only [go_sem, Nat.reduceLT, Nat.reduceEqDiff, ↓reduceIte, Nat.reduceAdd, Nat.zero_add, Nat.add_zero, Nat.reduceLeDiff, Int.reduceEq, Nat.reduceMul, List.take_zero, List.drop_succ_cons, List.drop_zero, List.nil_append, List.append_nil, List.drop_nil, List.take_succ_cons, List.take_nil, List.cons_append, Int.toNat_natCast, Int.toNat_zero, Int.toNat_one, lbCells]
  · cases h
def s8 : Specs := spAdd (spAdd s3 42 F42) 43 F43
theorem s8_42 : s8 42 = some F42 := id rfl
theorem s8_43 : s8 43 = some F43 := id rfl
theorem s8_ok : SpsOK s8 := spAdd_ok (spAdd_ok s3_ok sp42) sp43
theorem call42 (H : AHeap) : callS (cxS s8) 42 [] H = some (.slice (some ⟨H.next, 0, none⟩) 5 5, H.new (.cells nmCells false [] 1)) := by rw [callS_cxS s8 (by decide), s8_42]; rfl
theorem call43 (H : AHeap) : callS (cxS s8) 43 [] H = some (.slice (some ⟨H.next, 0, none⟩) 5 5, H.new (.cells lbCells false [] 2)) := by rw [callS_cxS s8 (by decide), s8_43]; rfl
theorem loc42 {H : AHeap} {n : Nat} (hn : H.next = n) : Local (callS (cxS s8) 42 []) H [] [] (.slice (some ⟨n, 0, none⟩) 5 5) (H.new (.cells nmCells false [] 1)) = True := by
  subst hn
  simp only [eq_iff_iff, iff_true]
  exact .new fun E hE => by rw [call42, hE]
theorem loc43 {H : AHeap} {n : Nat} (hn : H.next = n) : Local (callS (cxS s8) 43 []) H [] [] (.slice (some ⟨n, 0, none⟩) 5 5) (H.new (.cells lbCells false [] 2)) = True := by
  subst hn
  simp only [eq_iff_iff, iff_true]
  exact .new fun E hE => by rw [call43, hE]

theorem codeW_any_cut {cx : Cx} {N : Nat} (hc : CxOK cx) {id : Nat} {l : List Oper} {Q : PostW} {τ : Tmps} {H : AHeap} (inf : Info) (hs : statAll l.toArray inf = true) (F : Tmps → AHeap → Prop) (h : Lives cx N τ H → regL cx N l F l inf 0 [] τ H) (k : ∀ τ' H', F τ' H' → Q .normal τ' H') : codeW cx N (.region id l.toArray true) Q τ H := by
  have h1 : codeW cx N (.region id l.toArray true) (fun e τ' H' => e = .normal ∧ F τ' H') τ H := codeW_any hc inf hs fun hL => by
    have : (fun τ' H' => (Exit.normal = Exit.normal ∧ F τ' H')) = F := by funext τ' H'; simp
    show regL cx N l (fun τ' H' => (Exit.normal = Exit.normal ∧ F τ' H')) l inf 0 [] τ H
    rw [this]; exact h hL
  rw [codeW_draws] at h1 ⊢
  exact h1.mono fun e τ' H' ⟨h2, h3⟩ => by subst h2; exact k _ _ h3

/-- Two marks held against each other. -/
@[go_sem] theorem eql48 (ox oy : Operand) (H : AHeap) (a b c d : Int) : aBinF Tryd.prog tb .eql 48 ox oy (.agg #[.int .u8 a, .int .u16 b]) (.agg #[.int .u8 c, .int .u16 d]) H = some (.bool ((a == c) && (b == d))) := by
  have hq : prun Tryd.prog (eqGuard .eql 48 ox oy (.agg #[.int .u8 a, .int .u16 b]) (.agg #[.int .u8 c, .int .u16 d])) = some () := by
    have : (Tryd.prog).eqGuardType (Tryd.prog).depth 48 = false := by kernel_rfl
    unfold eqGuard
    simp [this]
  have e : prun Tryd.prog (do eqGuard .eql 48 ox oy (.agg #[.int .u8 a, .int .u16 b]) (.agg #[.int .u8 c, .int .u16 d]); binOp .eql 48 (.agg #[.int .u8 a, .int .u16 b]) (.agg #[.int .u8 c, .int .u16 d])) = some (.bool ((a == c) && (b == d))) := by
    simp only [prun_bind, hq, Option.bind_some]
    have h2 : binOp .eql 48 (.agg #[.int .u8 a, .int .u16 b]) (.agg #[.int .u8 c, .int .u16 d]) = (do pure (.bool (← Op.equal 48 (.agg #[.int .u8 a, .int .u16 b]) (.agg #[.int .u8 c, .int .u16 d])))) := rfl
    rw [h2]
    simp only [prun_bind, eq48, Option.bind_some, prun_pure]
  unfold aBinF aBin
  rw [if_pos (by rfl), e]
  rfl
theorem get_dels1 {H : AHeap} {l : List Nat} {j : Nat} (h : j ∉ l) : (H.dels l).get j = H.get j := by rw [AHeap.get_dels, if_neg h]

def sizeCells (a : Int) (arr : List Int) (sl : Value) : List Value := .int .u8 a :: (arr.map (Value.int .u8) ++ [sl])
def mkReg (many : Int) (k : Nat) (b0 b1 b2 b3 b4 clear : Int) : RegD := ⟨nmB k, lbL k, lbC k, 8 + b0.tmod 60, 8 + 2 * b1.tmod 12, 4 + b2.tmod 40, 1 + b3.tmod 6, 2 + b4.tmod 14, clear⟩
def clr0 (many k : Nat) : Int := if many = 2 then 1 else if many < 4 ∧ 0 < k then k else (many : Int) - 1
def preReg (many : Nat) (arr : List Int) (k : Nat) : RegD := mkReg many k (arr.getD (k * 5) 0) (arr.getD (k * 5 + 1) 0) (arr.getD (k * 5 + 2) 0) (arr.getD (k * 5 + 3) 0) (arr.getD (k * 5 + 4) 0) (clr0 many k)
def preRegs (many : Nat) (arr : List Int) (k : Nat) : List RegD := (List.range k).map (preReg many arr)
theorem preRegs_succ (many : Nat) (arr : List Int) (k : Nat) : preRegs many arr (k + 1) = preRegs many arr k ++ [preReg many arr k] := by
  unfold preRegs; rw [List.range_succ, List.map_append]; rfl
def clr (many k : Nat) : Int := if many = 3 ∧ k = 0 then 1 else clr0 many k
def finReg (many : Nat) (arr : List Int) (k : Nat) : RegD := { preReg many arr k with clear := clr many k }
def finRegs (many : Nat) (arr : List Int) : List RegD := (List.range many).map (finReg many arr)
theorem finRegs_ne {many : Nat} (arr : List Int) (h : many ≠ 3) : finRegs many arr = preRegs many arr many := by
  unfold finRegs preRegs
  apply List.map_congr_left
  intro k _
  have : clr many k = clr0 many k := by unfold clr; rw [if_neg (by omega)]
  unfold finReg
  rw [this]; rfl
def markOf (many : Int) (x : Int) : Int × Int := (x.tmod many, 4 + (x.tdiv 8).tmod 4)
def marksOf (many : Int) : List Int → Nat → List (Int × Int) → List (Int × Int)
  | [], _, acc => acc
  | x :: l, k, acc => if 8 < k ∨ (acc.any fun y => (y.1 == (markOf many x).1) && (y.2 == (markOf many x).2)) = true then marksOf many l (k + 1) acc else marksOf many l (k + 1) (acc ++ [markOf many x])
theorem size_b {arr : List Int} (h : arr.length = 25) (hb : ∀ x ∈ arr, 0 ≤ x ∧ x ≤ 255) (a : Int) (sl : Value) {k : Nat} (hk : k < 5) : ∃ b0 b1 b2 b3 b4 : Int, (0 ≤ b0 ∧ b0 ≤ 255) ∧ (0 ≤ b1 ∧ b1 ≤ 255) ∧ (0 ≤ b2 ∧ b2 ≤ 255) ∧ (0 ≤ b3 ∧ b3 ≤ 255) ∧ (0 ≤ b4 ∧ b4 ≤ 255) ∧
    arr.getD (k * 5) 0 = b0 ∧ arr.getD (k * 5 + 1) 0 = b1 ∧ arr.getD (k * 5 + 2) 0 = b2 ∧ arr.getD (k * 5 + 3) 0 = b3 ∧ arr.getD (k * 5 + 4) 0 = b4 ∧
    ((sizeCells a arr sl).drop (1 + k * 5)).take 5 = [.int .u8 b0, .int .u8 b1, .int .u8 b2, .int .u8 b3, .int .u8 b4] ∧ 1 + k * 5 + 5 ≤ (sizeCells a arr sl).length := by
  have g : ∀ j, j < 25 → 0 ≤ arr.getD j 0 ∧ arr.getD j 0 ≤ 255 := fun j hj => by
    rw [List.getD_eq_getElem?_getD, List.getElem?_eq_getElem (by omega)]
    exact hb _ (List.getElem_mem _)
  refine ⟨_, _, _, _, _, g (k * 5) (by omega), g (k * 5 + 1) (by omega), g (k * 5 + 2) (by omega), g (k * 5 + 3) (by omega), g (k * 5 + 4) (by omega), rfl, rfl, rfl, rfl, rfl, ?_, ?_⟩
  · have e : ∀ j, j < 25 → (arr.map (Value.int .u8) ++ [sl])[j]? = some (.int .u8 (arr.getD j 0)) := fun j hj => by
      rw [List.getElem?_append_left (by simp; omega), List.getElem?_map, List.getD_eq_getElem?_getD, List.getElem?_eq_getElem (by omega)]; rfl
    unfold sizeCells
    rw [Nat.add_comm 1, List.drop_succ_cons]
    apply List.ext_getElem?
    intro j
    rcases Nat.lt_or_ge j 5 with hj | hj
    · rw [List.getElem?_take_of_lt hj, List.getElem?_drop, e _ (by omega)]
      rcases j with _ | _ | _ | _ | _ | j <;> first | rfl | omega
    · rw [List.getElem?_eq_none (by simp; omega), List.getElem?_eq_none (by simpa using hj)]
  · simp [sizeCells, h]; omega
end Go.Proofs.YtkjclebafpomhaaDoor
set_option linter.unusedVariables false
set_option linter.unusedSimpArgs false
set_option maxRecDepth 100000
namespace Go.Proofs.YtkjclebafpomhaaDoor
open Go Go.Eng
def inf19_7 : Info := [([], [], true), ([6], [0], false), ([29, 30], [], false), ([31], [], false), ([], [1, 2, 3], true), ([6], [0, 1, 2, 3, 4], false), ([33, 34], [1, 2, 3], false), ([35], [1, 2, 3], false), ([7], [0, 1, 2, 3, 4, 5, 6, 7], false), ([37], [0, 1, 2, 3, 4, 5, 6, 7], false), ([38], [0, 1, 2, 3, 4, 5, 6, 7], false), ([39], [0, 1, 2, 3, 4, 5, 6, 7], false), ([40], [0, 1, 2, 3, 4, 5, 6, 7], false), ([7], [0, 1, 2, 3, 4, 5, 6, 7, 8, 9, 10, 11, 12], false), ([42], [0, 1, 2, 3, 4, 5, 6, 7, 8, 9, 10, 11, 12], false), ([43], [0, 1, 2, 3, 4, 5, 6, 7, 8, 9, 10, 11, 12], false), ([44], [0, 1, 2, 3, 4, 5, 6, 7, 8, 9, 10, 11, 12], false), ([45], [0, 1, 2, 3, 4, 5, 6, 7, 8, 9, 10, 11, 12], false), ([46], [0, 1, 2, 3, 4, 5, 6, 7, 8, 9, 10, 11, 12], false), ([7], [0, 1, 2, 3, 4, 5, 6, 7, 8, 9, 10, 11, 12, 13, 14, 15, 16, 17, 18], false), ([48], [0, 1, 2, 3, 4, 5, 6, 7, 8, 9, 10, 11, 12, 13, 14, 15, 16, 17, 18], false), ([49], [0, 1, 2, 3, 4, 5, 6, 7, 8, 9, 10, 11, 12, 13, 14, 15, 16, 17, 18], false), ([50], [0, 1, 2, 3, 4, 5, 6, 7, 8, 9, 10, 11, 12, 13, 14, 15, 16, 17, 18], false), ([51], [0, 1, 2, 3, 4, 5, 6, 7, 8, 9, 10, 11, 12, 13, 14, 15, 16, 17, 18], false), ([7], [0, 1, 2, 3, 4, 5, 6, 7, 8, 9, 10, 11, 12, 13, 14, 15, 16, 17, 18, 19, 20, 21, 22, 23], false), ([53], [0, 1, 2, 3, 4, 5, 6, 7, 8, 9, 10, 11, 12, 13, 14, 15, 16, 17, 18, 19, 20, 21, 22, 23], false), ([54], [0, 1, 2, 3, 4, 5, 6, 7, 8, 9, 10, 11, 12, 13, 14, 15, 16, 17, 18, 19, 20, 21, 22, 23], false), ([55], [0, 1, 2, 3, 4, 5, 6, 7, 8, 9, 10, 11, 12, 13, 14, 15, 16, 17, 18, 19, 20, 21, 22, 23], false), ([56], [0, 1, 2, 3, 4, 5, 6, 7, 8, 9, 10, 11, 12, 13, 14, 15, 16, 17, 18, 19, 20, 21, 22, 23], false), ([7], [0, 1, 2, 3, 4, 5, 6, 7, 8, 9, 10, 11, 12, 13, 14, 15, 16, 17, 18, 19, 20, 21, 22, 23, 24, 25, 26, 27, 28], false), ([58], [0, 1, 2, 3, 4, 5, 6, 7, 8, 9, 10, 11, 12, 13, 14, 15, 16, 17, 18, 19, 20, 21, 22, 23, 24, 25, 26, 27, 28], false), ([59], [0, 1, 2, 3, 4, 5, 6, 7, 8, 9, 10, 11, 12, 13, 14, 15, 16, 17, 18, 19, 20, 21, 22, 23, 24, 25, 26, 27, 28], false), ([60], [0, 1, 2, 3, 4, 5, 6, 7, 8, 9, 10, 11, 12, 13, 14, 15, 16, 17, 18, 19, 20, 21, 22, 23, 24, 25, 26, 27, 28], false), ([61], [0, 1, 2, 3, 4, 5, 6, 7, 8, 9, 10, 11, 12, 13, 14, 15, 16, 17, 18, 19, 20, 21, 22, 23, 24, 25, 26, 27, 28], false), ([4], [0, 1, 2, 3, 4, 5, 6, 7, 8, 9, 10, 11, 12, 13, 14, 15, 16, 17, 18, 19, 20, 21, 22, 23, 24, 25, 26, 27, 28, 29, 30, 31, 32, 33], false), ([63], [0, 1, 2, 3, 4, 5, 6, 7, 8, 9, 10, 11, 12, 13, 14, 15, 16, 17, 18, 19, 20, 21, 22, 23, 24, 25, 26, 27, 28, 29, 30, 31, 32, 33], false), ([32, 36, 41, 47, 52, 57, 62, 64], [], false), ([], [0, 1, 2, 3, 4, 5, 6, 7, 8, 9, 10, 11, 12, 13, 14, 15, 16, 17, 18, 19, 20, 21, 22, 23, 24, 25, 26, 27, 28, 29, 30, 31, 32, 33, 34, 35, 36], false), ([8, 65], [], false)]
set_option maxHeartbeats 4000000 in
theorem regs_cL {H : AHeap} {a : Int} {arr bytes : List Int} {sl : Value} (ha : 0 ≤ a ∧ a ≤ 255) (h25 : arr.length = 25) (hb : ∀ x ∈ arr, 0 ≤ x ∧ x ≤ 255) (hs : SlcE H sl (fun x => [Value.int .u8 x]) 1 bytes) (hbb : ∀ x ∈ bytes, 0 ≤ x ∧ x ≤ 255) (hlen : bytes.length < 4611686018427387904) :
    ACalls Tryd.prog 4 19 [.agg (sizeCells a arr sl).toArray] H fun v H' => Keeps [] H H' ∧ ∃ sr sm, v = .tuple #[sr, sm] ∧ RowL H' H.next H.next sr (finRegs (2 + a.tmod 4).toNat arr).length 9 ((finRegs (2 + a.tmod 4).toNat arr).flatMap RegD.cells) ∧ RowL H' H.next H.next sm (marksOf (2 + a.tmod 4) bytes 0 []).length 2 ((marksOf (2 + a.tmod 4) bytes 0 []).flatMap mkC) := by
  refine walk s8_ok (fn := Tryd.f19) (by kernel_rfl) (c := Tryd.f19.body.get (by kernel_rfl)) (by kernel_rfl) (by simp [Tryd.f19]) ?_
  simp only [Tryd.f19, Option.get]
  obtain ⟨ra, ca, hsl⟩ : ∃ ra ca, sl = .slice ra bytes.length ca := by
    rcases hs with ⟨rfl, rfl⟩ | ⟨b, c, row, ro, par, gs, rfl, _⟩
    · exact ⟨none, 0, rfl⟩
    · exact ⟨_, _, rfl⟩
  subst hsl
  have q0 : (sizeCells a arr (.slice ra bytes.length ca))[0]? = some (.int .u8 a) := rfl
  have q26 : (sizeCells a arr (.slice ra bytes.length ca))[26]? = some (.slice ra bytes.length ca) := by simp [sizeCells, h25]
  have qone : (sizeCells a arr (.slice ra bytes.length ca)).all one = true := by
    simp only [sizeCells, List.all_cons, List.all_append, one_slice, List.all_nil, Bool.and_true, Bool.and_eq_true, List.all_eq_true, List.mem_map]
    exact ⟨rfl, by rintro x ⟨y, _, rfl⟩; rfl⟩
  obtain ⟨many, hm, hm2, hm5⟩ : ∃ many : Nat, 2 + a.tmod 4 = many ∧ 2 ≤ many ∧ many ≤ 5 := by
    rw [Int.tmod_eq_emod_of_nonneg ha.1]
    exact ⟨(2 + a % 4).toNat, by omega, by omega, by omega⟩
  have w1 : IntKind.wrap .i64 (a.tmod 4) = a.tmod 4 := by rw [wrap64] <;> omega
  have w2 : IntKind.wrap .i64 (2 + a.tmod 4) = many := by rw [hm, wrap64] <;> omega
  rw [hm, Int.toNat_natCast]
  clear hm
  simp only [go_sem, Nat.reduceLT, Nat.reduceEqDiff, ↓reduceIte, Nat.reduceAdd, Nat.zero_add, Nat.add_zero, Nat.reduceLeDiff, Int.reduceEq, Nat.reduceMul, List.take_zero, List.drop_succ_cons, List.drop_zero, List.nil_append, List.append_nil, List.drop_nil, List.take_succ_cons, List.take_nil, List.cons_append, Int.toNat_natCast, Int.toNat_zero, Int.toNat_one, q0, qone, w1, w2]
  have n1 : ¬ ((4 : Int) = 0) := by omega
  refine codeW_loop (fun nn τ X => ∃ k, nn = many - k ∧ k ≤ many ∧ tget τ 1 = .pointer (some ⟨H.next, 0, none⟩) ∧ tget τ 4 = .int .i64 many ∧ tget τ 21 = .int .i64 many ∧ tget τ 22 = .int .i64 (k : Nat) ∧
    Keeps [] H X ∧ X.get H.next = some (.cells (sizeCells a arr (.slice ra bytes.length ca)) false [] 0) ∧ RowL X H.next H.next (tget τ 5) k 9 ((preRegs many arr k).flatMap RegD.cells)) (n := many) ⟨0, rfl, Nat.zero_le _, ?_, ?_, ?_, ?_, ?_, ?_, ?_⟩ ?_
  · simp only [go_sem, Nat.reduceLT, Nat.reduceEqDiff, ↓reduceIte, Nat.reduceAdd, Nat.zero_add, Nat.add_zero, Nat.reduceLeDiff, Int.reduceEq, Nat.reduceMul]
  · simp only [go_sem, Nat.reduceLT, Nat.reduceEqDiff, ↓reduceIte, Nat.reduceAdd, Nat.zero_add, Nat.add_zero, Nat.reduceLeDiff, Int.reduceEq, Nat.reduceMul]
  · simp only [go_sem, Nat.reduceLT, Nat.reduceEqDiff, ↓reduceIte, Nat.reduceAdd, Nat.zero_add, Nat.add_zero, Nat.reduceLeDiff, Int.reduceEq, Nat.reduceMul]
  · simp only [go_sem, Nat.reduceLT, Nat.reduceEqDiff, ↓reduceIte, Nat.reduceAdd, Nat.zero_add, Nat.add_zero, Nat.reduceLeDiff, Int.reduceEq, Nat.reduceMul]; rfl
  · exact (Keeps.refl [] H).new' _
  · simp only [go_sem, Nat.reduceLT, Nat.reduceEqDiff, ↓reduceIte, Nat.reduceAdd, Nat.zero_add, Nat.add_zero, Nat.reduceLeDiff, Int.reduceEq, Nat.reduceMul]
  · simp only [go_sem, Nat.reduceLT, Nat.reduceEqDiff, ↓reduceIte, Nat.reduceAdd, Nat.zero_add, Nat.add_zero, Nat.reduceLeDiff, Int.reduceEq, Nat.reduceMul]; exact .inl ⟨rfl, rfl, rfl⟩
  rintro nn τ X ⟨k, rfl, hk, t1, t4, t21, t22, hK, xb, hr⟩
  have hXl : H.next < X.next := AHeap.get_lt xb
  by_cases hlt : k < many
  · have hd : (k : Int) < (many : Int) := by omega
    obtain ⟨s, t5⟩ : ∃ s, tget τ 5 = s := ⟨_, rfl⟩
    rw [t5] at hr
    obtain ⟨b0, b1, b2, b3, b4, v0, v1, v2, v3, v4, g0, g1, g2, g3, g4, e1, e2⟩ := size_b h25 hb a (.slice ra bytes.length ca) (k := k) (by omega)
    have hz : (0 : Int) ≤ (k : Int) := by omega
    have hk5 : (k : Int) < ((5 : Nat) : Int) := by omega
    have nmk := nm_at (k := k) (by omega)
    obtain ⟨l1, l2⟩ := lb_at (k := k) (by omega)
    have tm : ∀ x n : Int, 0 ≤ x ∧ x ≤ 255 → x.tmod n = x % n := fun x n h => Int.tmod_eq_emod_of_nonneg h.1
    have u0 : IntKind.wrap .i64 (b0.tmod 60) = b0.tmod 60 := by rw [tm _ _ v0, wrap64] <;> omega
    have u1 : IntKind.wrap .i64 (b1.tmod 12) = b1.tmod 12 := by rw [tm _ _ v1, wrap64] <;> omega
    have u2 : IntKind.wrap .i64 (b2.tmod 40) = b2.tmod 40 := by rw [tm _ _ v2, wrap64] <;> omega
    have u3 : IntKind.wrap .i64 (b3.tmod 6) = b3.tmod 6 := by rw [tm _ _ v3, wrap64] <;> omega
    have u4 : IntKind.wrap .i64 (b4.tmod 14) = b4.tmod 14 := by rw [tm _ _ v4, wrap64] <;> omega
    have y0 : IntKind.wrap .i64 (8 + b0.tmod 60) = 8 + b0.tmod 60 := by rw [tm _ _ v0, wrap64] <;> omega
    have y1 : IntKind.wrap .i64 (2 * b1.tmod 12) = 2 * b1.tmod 12 := by rw [tm _ _ v1, wrap64] <;> omega
    have y1' : IntKind.wrap .i64 (8 + 2 * b1.tmod 12) = 8 + 2 * b1.tmod 12 := by rw [tm _ _ v1, wrap64] <;> omega
    have y2 : IntKind.wrap .i64 (4 + b2.tmod 40) = 4 + b2.tmod 40 := by rw [tm _ _ v2, wrap64] <;> omega
    have y3 : IntKind.wrap .i64 (1 + b3.tmod 6) = 1 + b3.tmod 6 := by rw [tm _ _ v3, wrap64] <;> omega
    have y4 : IntKind.wrap .i64 (2 + b4.tmod 14) = 2 + b4.tmod 14 := by rw [tm _ _ v4, wrap64] <;> omega
    have y5 : IntKind.wrap .i64 ((many : Int) - 1) = (many : Int) - 1 := by rw [wrap64] <;> omega
    have hA : ∀ k, H.next < X.next + k := fun k => by omega
    have hB : ∀ k, H.next ≠ X.next + k := fun k => by omega
    have hC : H.next ≠ X.next := by omega
    have e3 : 1 + (k * 5 + 5) ≤ (sizeCells a arr (.slice ra bytes.length ca)).length := by omega
    simp only [go_sem, Nat.reduceLT, Nat.reduceEqDiff, ↓reduceIte, Nat.reduceAdd, Nat.zero_add, Nat.add_zero, Nat.reduceLeDiff, Int.reduceEq, Nat.reduceMul, List.take_zero, List.drop_succ_cons, List.drop_zero, List.nil_append, List.append_nil, List.drop_nil, List.take_succ_cons, List.take_nil, List.cons_append, Int.toNat_natCast, Int.toNat_zero, Int.toNat_one, t1, t4, t5, t21, t22, xb, hd, hXl, hA, hB, hC, hz, hk5, e1, e3, Nat.mul_one]
    have i0 : ((0 : Int) ≤ 0) = True := by simp
    have i5 : (0 : Int) < ((5 : Nat) : Int) ∧ (1 : Int) < ((5 : Nat) : Int) ∧ (2 : Int) < ((5 : Nat) : Int) ∧ (3 : Int) < ((5 : Nat) : Int) ∧ (4 : Int) < ((5 : Nat) : Int) := by omega
    have i1 : (0 : Int) ≤ 1 ∧ (0 : Int) ≤ 2 ∧ (0 : Int) ≤ 3 ∧ (0 : Int) ≤ 4 := by omega
    have i2 : (2 : Int).toNat = 2 ∧ (3 : Int).toNat = 3 ∧ (4 : Int).toNat = 4 := by decide
    have hw : IntKind.wrap .i64 ((k : Int) + 1) = ((k + 1 : Nat) : Int) := by rw [wrap64] <;> omega
    have fin : ∀ (Z : AHeap) (c : Int), c = clr0 many k → Keeps [] X Z → bindR (appW 9 72 s (some (1, [.string (nmB k), .int .u8 (lbL k), .int .u16 (lbC k), .int .i64 (8 + b0.tmod 60), .int .i64 (8 + 2 * b1.tmod 12), .int .i64 (4 + b2.tmod 40), .int .i64 (1 + b3.tmod 6), .int .i64 (2 + b4.tmod 14), .int .i64 c])) Z)
        fun v H' => ∃ m, m < many - k ∧ ∃ k_1, m = many - k_1 ∧ k_1 ≤ many ∧ Value.int .i64 ((k + 1 : Nat) : Int) = .int .i64 ((k_1 : Nat) : Int) ∧ Keeps [] H H' ∧ H'.get H.next = some (.cells (sizeCells a arr (.slice ra bytes.length ca)) false [] 0) ∧ RowL H' H.next H.next v k_1 9 ((preRegs many arr k_1).flatMap RegD.cells) := by
      intro Z c hc hZ
      have hr2 : RowL Z H.next H.next s k 9 ((preRegs many arr k).flatMap RegD.cells) := by
        exact hr.keeps hZ
      have hle := hZ.le
      obtain ⟨s', U, q1, q2, q3, q4⟩ := app_row (by_ := 72) (vs := [.string (nmB k), .int .u8 (lbL k), .int .u16 (lbC k), .int .i64 (8 + b0.tmod 60), .int .i64 (8 + 2 * b1.tmod 12), .int .i64 (4 + b2.tmod 40), .int .i64 (1 + b3.tmod 6), .int .i64 (2 + b4.tmod 14), .int .i64 c]) hr2 (by rw [flat_len RegD.cells_length]; simp [preRegs]) rfl (by omega) (by unfold grow; omega) (by omega) (by omega)
      rw [q1, bindR_some]
      refine ⟨many - (k + 1), by omega, k + 1, rfl, hlt, rfl, ⟨by have := hK.le; omega, fun j hj _ => ?_⟩, ?_, ?_⟩
      · rw [q4 j (by omega) (.inl hj), hZ.old j (by omega) (by simp), hK.old j hj (by simp)]
      · rw [q4 _ (by omega) (.inr (.inl rfl)), hZ.old _ (by omega) (by simp), xb]
      · rw [preRegs_succ, List.flatMap_append]
        subst hc
        have e : (preReg many arr k).cells = [.string (nmB k), .int .u8 (lbL k), .int .u16 (lbC k), .int .i64 (8 + b0.tmod 60), .int .i64 (8 + 2 * b1.tmod 12), .int .i64 (4 + b2.tmod 40), .int .i64 (1 + b3.tmod 6), .int .i64 (2 + b4.tmod 14), .int .i64 (clr0 many k)] := by
          simp only [preReg, mkReg, RegD.cells, g0, g1, g2, g3, g4]
        rw [List.flatMap_cons, List.flatMap_nil, List.append_nil, e]
        exact q2
    refine codeW_any_cut (cxS_ok s8_ok) inf19_7 (by kernel_rfl) (fun τ Y => tget τ 1 = .pointer (some ⟨H.next, 0, none⟩) ∧ tget τ 4 = .int .i64 many ∧ tget τ 5 = s ∧ tget τ 6 = .int .i64 (k : Nat) ∧ tget τ 8 = .pointer (some ⟨X.next + 3, 0, none⟩) ∧ tget τ 21 = .int .i64 many ∧ tget τ 22 = .int .i64 (k : Nat) ∧ Keeps [] X Y ∧
      Y.get (X.next + 3) = some (.cells [.string (nmB k), .int .u8 (lbL k), .int .u16 (lbC k), .int .i64 (8 + b0.tmod 60), .int .i64 (8 + 2 * b1.tmod 12), .int .i64 (4 + b2.tmod 40), .int .i64 (1 + b3.tmod 6), .int .i64 (2 + b4.tmod 14), .int .i64 ((many : Int) - 1)] false [] 0)) (fun _ => ?_) ?_
    · simp only [inf19_7, i0, i5, i1, i2, go_sem, Nat.reduceLT, Nat.reduceEqDiff, ↓reduceIte, Nat.reduceAdd, Nat.zero_add, Nat.add_zero, Nat.reduceLeDiff, Int.reduceEq, Nat.reduceMul, List.take_zero, List.drop_succ_cons, List.drop_zero, List.nil_append, List.append_nil, List.drop_nil, List.take_succ_cons, List.take_nil, List.cons_append, Int.toNat_natCast, Int.toNat_zero, Int.toNat_one, t1, t4, t5, t21, t22, xb, hd, hXl, hA, hB, hC, hz, hk5, nmk, l1, l2, u0, u1, u2, u3, u4, y0, y1, y1', y2, y3, y4, y5, call42, call43, loc42, loc43, Nat.mul_one]
      exact (((((((Keeps.refl [] X).new' _).set' (Nat.le_refl _) (by simp)).new' _).new' _).new' _).set' (i := X.next + 3) (by omega) (by simp only [AHeap.next_new, AHeap.next_set]; omega))
    clear t1 t4 t5 t21 t22
    rintro τ Y ⟨t1, t4, t5, t6, t8, t21, t22, hXY, yr⟩
    have yl : X.next + 3 < Y.next := AHeap.get_lt yr
    have yA : ∀ k, X.next + 3 < Y.next + k := fun k => by omega
    have yB : ∀ k, X.next + 3 ≠ Y.next + k := fun k => by omega
    have yC : X.next + 3 ≠ Y.next := by omega
    have k1 : ∀ o o2, Keeps [] X ((Y.set (X.next + 3) o).new o2) := fun o o2 => (hXY.set' (by omega) yl).new' _
    have k2 : ∀ o o1 o2, Keeps [] X (((Y.set (X.next + 3) o).set (X.next + 3) o1).new o2) := fun o o1 o2 => ((hXY.set' (by omega) yl).set' (by omega) (by simpa using yl)).new' _
    cases c1 : decide ((many : Int) < 4)
    · have d1 := of_decide_eq_false c1
      have c3 : decide ((many : Int) = 2) = false := decide_eq_false (by omega)
      simp only [go_sem, Nat.reduceLT, Nat.reduceEqDiff, ↓reduceIte, Nat.reduceAdd, Nat.zero_add, Nat.add_zero, Nat.reduceLeDiff, Int.reduceEq, Nat.reduceMul, List.take_zero, List.drop_succ_cons, List.drop_zero, List.nil_append, List.append_nil, List.drop_nil, List.take_succ_cons, List.take_nil, List.cons_append, Int.toNat_natCast, Int.toNat_zero, Int.toNat_one, t1, t4, t5, t6, t8, t21, t22, yr, yl, yA, yB, yC, c1, c3, hw]
      exact fin _ _ (by unfold clr0; rw [if_neg (by omega), if_neg (by omega)]) (hXY.new' _)
    · have d1 := of_decide_eq_true c1
      cases c2 : decide ((0 : Int) < (k : Int))
      · have d2 := of_decide_eq_false c2
        cases c3 : decide ((many : Int) = 2)
        · have d3 := of_decide_eq_false c3
          simp only [go_sem, Nat.reduceLT, Nat.reduceEqDiff, ↓reduceIte, Nat.reduceAdd, Nat.zero_add, Nat.add_zero, Nat.reduceLeDiff, Int.reduceEq, Nat.reduceMul, List.take_zero, List.drop_succ_cons, List.drop_zero, List.nil_append, List.append_nil, List.drop_nil, List.take_succ_cons, List.take_nil, List.cons_append, Int.toNat_natCast, Int.toNat_zero, Int.toNat_one, t1, t4, t5, t6, t8, t21, t22, yr, yl, yA, yB, yC, c1, c2, c3, hw]
          exact fin _ _ (by unfold clr0; rw [if_neg (by omega), if_neg (by omega)]) (hXY.new' _)
        · have d3 := of_decide_eq_true c3
          simp only [go_sem, Nat.reduceLT, Nat.reduceEqDiff, ↓reduceIte, Nat.reduceAdd, Nat.zero_add, Nat.add_zero, Nat.reduceLeDiff, Int.reduceEq, Nat.reduceMul, List.take_zero, List.drop_succ_cons, List.drop_zero, List.nil_append, List.append_nil, List.drop_nil, List.take_succ_cons, List.take_nil, List.cons_append, Int.toNat_natCast, Int.toNat_zero, Int.toNat_one, t1, t4, t5, t6, t8, t21, t22, yr, yl, yA, yB, yC, c1, c2, c3, hw]
          exact fin _ _ (by unfold clr0; rw [if_pos (by omega)]) (k1 _ _)
      · have d2 := of_decide_eq_true c2
        cases c3 : decide ((many : Int) = 2)
        · have d3 := of_decide_eq_false c3
          simp only [go_sem, Nat.reduceLT, Nat.reduceEqDiff, ↓reduceIte, Nat.reduceAdd, Nat.zero_add, Nat.add_zero, Nat.reduceLeDiff, Int.reduceEq, Nat.reduceMul, List.take_zero, List.drop_succ_cons, List.drop_zero, List.nil_append, List.append_nil, List.drop_nil, List.take_succ_cons, List.take_nil, List.cons_append, Int.toNat_natCast, Int.toNat_zero, Int.toNat_one, t1, t4, t5, t6, t8, t21, t22, yr, yl, yA, yB, yC, c1, c2, c3, hw]
          exact fin _ _ (by unfold clr0; rw [if_neg (by omega), if_pos (by omega)]) (k1 _ _)
        · have d3 := of_decide_eq_true c3
          simp only [go_sem, Nat.reduceLT, Nat.reduceEqDiff, ↓reduceIte, Nat.reduceAdd, Nat.zero_add, Nat.add_zero, Nat.reduceLeDiff, Int.reduceEq, Nat.reduceMul, List.take_zero, List.drop_succ_cons, List.drop_zero, List.nil_append, List.append_nil, List.drop_nil, List.take_succ_cons, List.take_nil, List.cons_append, Int.toNat_natCast, Int.toNat_zero, Int.toNat_one, t1, t4, t5, t6, t8, t21, t22, yr, yl, yA, yB, yC, c1, c2, c3, hw]
          exact fin _ _ (by unfold clr0; rw [if_pos (by omega)]) (k2 _ _ _)
  · obtain rfl : k = many := by omega
    clear hk hlt
    have hd : ¬ ((k : Int) < (k : Int)) := by omega
    obtain ⟨s, t5⟩ : ∃ s, tget τ 5 = s := ⟨_, rfl⟩
    rw [t5] at hr
    have hA : ∀ k, H.next < X.next + k := fun k => by omega
    have hB : ∀ k, H.next ≠ X.next + k := fun k => by omega
    have hC : H.next ≠ X.next := by omega
    have hlen' : (preRegs k arr k).length = k := by simp [preRegs]
    rcases hr with ⟨h0, _⟩ | ⟨b, par, h1, rfl, h3, h4, h5, h6⟩
    · omega
    have hbl := AHeap.get_lt h3
    have i0 : ((0 : Int) ≤ 0) = True := by simp
    have i1 : (0 : Int) < (k : Int) := by omega
    have hnp : H.next ∉ par := fun h => (h6 _ h).2 rfl
    have hnb : H.next ≠ b := Ne.symm h5
    have hmany : (1 : Int) < (k : Int) := by omega
    cases c1 : decide ((k : Int) = 3)
    · have d1 := of_decide_eq_false c1
      simp only [go_sem, Nat.reduceLT, Nat.reduceEqDiff, ↓reduceIte, Nat.reduceAdd, Nat.zero_add, Nat.add_zero, Nat.reduceLeDiff, Int.reduceEq, Nat.reduceMul, List.take_zero, List.drop_succ_cons, List.drop_zero, List.nil_append, List.append_nil, List.drop_nil, List.take_succ_cons, List.take_nil, List.cons_append, Int.toNat_natCast, Int.toNat_zero, Int.toNat_one, t1, t4, t5, t21, t22, xb, hd, hXl, hA, hB, hC, c1, q26]
      refine codeW_forget (fun τ Z => ∃ s, tget τ 4 = .int .i64 k ∧ tget τ 5 = s ∧ tget τ 9 = .slice none 0 0 ∧ tget τ 88 = .slice ra bytes.length ca ∧ tget τ 89 = .int .i64 bytes.length ∧ tget τ 90 = .int .i64 0 ∧ Keeps [] H Z ∧ H.next < Z.next ∧ RowL Z H.next H.next s k 9 ((finRegs k arr).flatMap RegD.cells)) ⟨_, ?_, rfl, ?_, ?_, ?_, ?_, hK, hXl, ?_⟩ ?_
      · simp only [go_sem, Nat.reduceLT, Nat.reduceEqDiff, ↓reduceIte, Nat.reduceAdd, Nat.zero_add, Nat.add_zero, Nat.reduceLeDiff, Int.reduceEq, Nat.reduceMul, t4]
      · simp only [go_sem, Nat.reduceLT, Nat.reduceEqDiff, ↓reduceIte, Nat.reduceAdd, Nat.zero_add, Nat.add_zero, Nat.reduceLeDiff, Int.reduceEq, Nat.reduceMul]
      · simp only [go_sem, Nat.reduceLT, Nat.reduceEqDiff, ↓reduceIte, Nat.reduceAdd, Nat.zero_add, Nat.add_zero, Nat.reduceLeDiff, Int.reduceEq, Nat.reduceMul]
      · simp only [go_sem, Nat.reduceLT, Nat.reduceEqDiff, ↓reduceIte, Nat.reduceAdd, Nat.zero_add, Nat.add_zero, Nat.reduceLeDiff, Int.reduceEq, Nat.reduceMul]
      · simp only [go_sem, Nat.reduceLT, Nat.reduceEqDiff, ↓reduceIte, Nat.reduceAdd, Nat.zero_add, Nat.add_zero, Nat.reduceLeDiff, Int.reduceEq, Nat.reduceMul]
      · rw [finRegs_ne arr (by omega)]
        refine .inr ⟨b, par, h1, ?_, h3, h4, h5, h6⟩
        simp only [go_sem, Nat.reduceLT, Nat.reduceEqDiff, ↓reduceIte, Nat.reduceAdd, Nat.zero_add, Nat.add_zero, Nat.reduceLeDiff, Int.reduceEq, Nat.reduceMul, t5]
      clear t1 t4 t5 t21 t22 xb h3 c1 d1
      clear hXl hA hB hC hbl hK i0 i1 hd hnp hnb hmany h4 h5 h6 par b
      rintro τ X ⟨s, t4, t5, t9, t88, t89, t90, hK, hXl, hr⟩
      refine codeW_loop (fun nn τ X => ∃ j acc s2, nn = bytes.length - j ∧ j ≤ bytes.length ∧ tget τ 4 = .int .i64 k ∧ tget τ 5 = s ∧ tget τ 9 = s2 ∧ tget τ 88 = .slice ra bytes.length ca ∧ tget τ 89 = .int .i64 bytes.length ∧ tget τ 90 = .int .i64 (j : Nat) ∧ Keeps [] H X ∧ H.next < X.next ∧
        RowL X H.next H.next s k 9 ((finRegs k arr).flatMap RegD.cells) ∧ RowL X H.next H.next s2 acc.length 2 (acc.flatMap mkC) ∧ marksOf k bytes 0 [] = marksOf k (bytes.drop j) j acc ∧ acc.length ≤ j ∧ acc.length ≤ 9) (n := bytes.length) ⟨0, [], _, rfl, Nat.zero_le _, t4, t5, t9, t88, t89, by rw [t90]; rfl, hK, hXl, hr, .inl ⟨rfl, rfl, rfl⟩, rfl, Nat.le_refl _, by simp⟩ ?_
      clear t4 t5 t9 t88 t89 t90 hK hXl hr
      rintro nn τ X ⟨j, acc, s2, rfl, hj, t4, t5, t9, t88, t89, t90, hK, hXl, hr, hr2, hE, ha1, ha2⟩
      have hw : IntKind.wrap .i64 ((j : Int) + 1) = ((j + 1 : Nat) : Int) := by rw [wrap64] <;> omega
      by_cases hlt : j < bytes.length
      · rcases hs with ⟨h, _⟩ | ⟨ib, cb, rowb, rob, parb, gsb, e0, hrowb, helb⟩
        · rw [h] at hlt; simp at hlt
        injection e0 with e1 _ e3
        subst e1; subst e3
        obtain ⟨x, hx⟩ : ∃ x, bytes[j]? = some x := ⟨_, List.getElem?_eq_getElem hlt⟩
        obtain ⟨x0, x1⟩ := hbb x (List.mem_of_getElem? hx)
        have hrx : rowb[j]? = some (.int .u8 x) := by
          have h := congrArg (fun l => l[0]?) (helb j x hx).1
          simpa [List.getElem?_take, List.getElem?_drop] using h
        have xib : X.get ib = some (.cells rowb rob parb gsb) := hK.get hrowb (by simp)
        have hz : (0 : Int) ≤ (j : Int) := by omega
        have hd : (j : Int) < (bytes.length : Int) := by omega
        have wk : IntKind.wrap .u8 (k : Int) = k := by rw [IntKind.wrap_u8]; omega
        have hk0 : ¬ ((k : Int) = 0) := by omega
        have x8 : x.tdiv 8 = x / 8 := Int.tdiv_eq_ediv_of_nonneg x0
        have x84 : (x.tdiv 8).tmod 4 = (x / 8) % 4 := by rw [x8, Int.tmod_eq_emod_of_nonneg (by omega)]
        have wq : IntKind.wrap .u8 (x.tdiv 8) = x.tdiv 8 := by rw [IntKind.wrap_u8, x8]; omega
        have wr : IntKind.wrap .u16 ((x.tdiv 8).tmod 4) = (x.tdiv 8).tmod 4 := by rw [w16, x84]; omega
        have ws : IntKind.wrap .u16 (4 + (x.tdiv 8).tmod 4) = 4 + (x.tdiv 8).tmod 4 := by rw [w16, x84]; omega
        obtain ⟨rs, cs2, hs2⟩ : ∃ rs cs2, s2 = .slice rs acc.length cs2 := by
          rcases hr2 with ⟨h, rfl, _⟩ | ⟨b, par, _, rfl, _⟩
          · rw [h]; exact ⟨_, _, rfl⟩
          · exact ⟨_, _, rfl⟩
        subst hs2
        simp only [go_sem, Nat.reduceLT, Nat.reduceEqDiff, ↓reduceIte, Nat.reduceAdd, Nat.zero_add, Nat.add_zero, Nat.reduceLeDiff, Int.reduceEq, Nat.reduceMul, List.take_zero, List.drop_succ_cons, List.drop_zero, List.nil_append, List.append_nil, List.drop_nil, List.take_succ_cons, List.take_nil, List.cons_append, Int.toNat_natCast, Int.toNat_zero, Int.toNat_one, t4, t5, t9, t88, t89, t90, xib, hz, hd, hrx, wk, hk0, wq, wr, ws, Nat.mul_one]
        refine codeW_loop (fun nn τ Y => ∃ i, nn = acc.length - i ∧ i ≤ acc.length ∧ tget τ 4 = .int .i64 k ∧ tget τ 5 = s ∧ tget τ 9 = .slice rs acc.length cs2 ∧ tget τ 12 = .pointer (some ⟨X.next, 0, none⟩) ∧ tget τ 13 = .bool (decide ((8 : Int) < (j : Int)) || (acc.take i).any fun y => (y.1 == (markOf k x).1) && (y.2 == (markOf k x).2)) ∧
          tget τ 88 = .slice (some ⟨ib, 0, none⟩) bytes.length ca ∧ tget τ 89 = .int .i64 bytes.length ∧ tget τ 90 = .int .i64 (j : Nat) ∧ tget τ 107 = .slice rs acc.length cs2 ∧ tget τ 108 = .int .i64 acc.length ∧ tget τ 109 = .int .i64 (i : Nat) ∧ Keeps [] X Y ∧
          Y.get X.next = some (.cells [.int .u8 (x.tmod k), .int .u16 (4 + (x.tdiv 8).tmod 4)] false [] 0)) (n := acc.length) ⟨0, rfl, Nat.zero_le _, ?_, ?_, ?_, ?_, ?_, ?_, ?_, ?_, ?_, ?_, ?_, ((Keeps.refl [] X).new' _).set' (Nat.le_refl _) (by simp), ?_⟩ ?_
        · simp only [go_sem, Nat.reduceLT, Nat.reduceEqDiff, ↓reduceIte, Nat.reduceAdd, Nat.zero_add, Nat.add_zero, Nat.reduceLeDiff, Int.reduceEq, Nat.reduceMul, t4]
        · simp only [go_sem, Nat.reduceLT, Nat.reduceEqDiff, ↓reduceIte, Nat.reduceAdd, Nat.zero_add, Nat.add_zero, Nat.reduceLeDiff, Int.reduceEq, Nat.reduceMul, t5]
        · simp only [go_sem, Nat.reduceLT, Nat.reduceEqDiff, ↓reduceIte, Nat.reduceAdd, Nat.zero_add, Nat.add_zero, Nat.reduceLeDiff, Int.reduceEq, Nat.reduceMul, t9]
        · simp only [go_sem, Nat.reduceLT, Nat.reduceEqDiff, ↓reduceIte, Nat.reduceAdd, Nat.zero_add, Nat.add_zero, Nat.reduceLeDiff, Int.reduceEq, Nat.reduceMul]
        · simp only [go_sem, Nat.reduceLT, Nat.reduceEqDiff, ↓reduceIte, Nat.reduceAdd, Nat.zero_add, Nat.add_zero, Nat.reduceLeDiff, Int.reduceEq, Nat.reduceMul, List.take_zero, List.any_nil]
        · simp only [go_sem, Nat.reduceLT, Nat.reduceEqDiff, ↓reduceIte, Nat.reduceAdd, Nat.zero_add, Nat.add_zero, Nat.reduceLeDiff, Int.reduceEq, Nat.reduceMul, t88]
        · simp only [go_sem, Nat.reduceLT, Nat.reduceEqDiff, ↓reduceIte, Nat.reduceAdd, Nat.zero_add, Nat.add_zero, Nat.reduceLeDiff, Int.reduceEq, Nat.reduceMul, t89]
        · simp only [go_sem, Nat.reduceLT, Nat.reduceEqDiff, ↓reduceIte, Nat.reduceAdd, Nat.zero_add, Nat.add_zero, Nat.reduceLeDiff, Int.reduceEq, Nat.reduceMul, t90]
        · simp only [go_sem, Nat.reduceLT, Nat.reduceEqDiff, ↓reduceIte, Nat.reduceAdd, Nat.zero_add, Nat.add_zero, Nat.reduceLeDiff, Int.reduceEq, Nat.reduceMul]
        · simp only [go_sem, Nat.reduceLT, Nat.reduceEqDiff, ↓reduceIte, Nat.reduceAdd, Nat.zero_add, Nat.add_zero, Nat.reduceLeDiff, Int.reduceEq, Nat.reduceMul]
        · simp only [go_sem, Nat.reduceLT, Nat.reduceEqDiff, ↓reduceIte, Nat.reduceAdd, Nat.zero_add, Nat.add_zero, Nat.reduceLeDiff, Int.reduceEq, Nat.reduceMul]; rfl
        · simp only [go_sem, Nat.reduceLT, Nat.reduceEqDiff, ↓reduceIte, Nat.reduceAdd, Nat.zero_add, Nat.add_zero, Nat.reduceLeDiff, Int.reduceEq, Nat.reduceMul]
        clear t4 t5 t9 t88 t89 t90
        rintro nn τ Y ⟨i, rfl, hi, t4, t5, t9, t12, t13, t88, t89, t90, t107, t108, t109, hXY, yx⟩
        have hwi : IntKind.wrap .i64 ((i : Int) + 1) = ((i + 1 : Nat) : Int) := by rw [wrap64] <;> omega
        have hxl : X.next < Y.next := AHeap.get_lt yx
        have xA : ∀ k, X.next < Y.next + k := fun k => by omega
        have xB : ∀ k, X.next ≠ Y.next + k := fun k => by omega
        have xC : X.next ≠ Y.next := by omega
        by_cases hlt2 : i < acc.length
        · rcases hr2 with ⟨h, _⟩ | ⟨b2, par2, g1, g2, g3, g4⟩
          · omega
          injection g2 with g2 _ g5
          subst g2; subst g5
          have yb := hXY.get g3 (by simp)
          have hbY : b2 < Y.next := AHeap.get_lt yb
          have bA : ∀ k, b2 < Y.next + k := fun k => by omega
          have bB : ∀ k, b2 ≠ Y.next + k := fun k => by omega
          have bC : b2 ≠ Y.next := by omega
          obtain ⟨m, hm⟩ : ∃ m, acc[i]? = some m := ⟨_, List.getElem?_eq_getElem hlt2⟩
          obtain ⟨f1, f2⟩ := flat_at (f := mkC) (n := 2) (fun _ => rfl) acc i m hm
          have hzi : (0 : Int) ≤ (i : Int) := by omega
          have hdi : (i : Int) < (acc.length : Int) := by omega
          have hany : ((acc.take (i + 1)).any fun y => (y.1 == (markOf k x).1) && (y.2 == (markOf k x).2)) = ((acc.take i).any (fun y => (y.1 == (markOf k x).1) && (y.2 == (markOf k x).2)) || ((m.1 == x.tmod k) && (m.2 == 4 + (x.tdiv 8).tmod 4))) := by
            rw [List.take_add_one, hm, List.any_append]; simp [markOf]
          have k1 : ∀ o o2, Keeps [] X ((Y.new o).set Y.next o2) := fun o o2 => (hXY.new' _).set' (by omega) (by simp)
          cases c1 : (decide ((8 : Int) < (j : Int)) || (acc.take i).any fun y => (y.1 == (markOf k x).1) && (y.2 == (markOf k x).2))
          · rw [c1] at t13
            simp only [go_sem, Nat.reduceLT, Nat.reduceEqDiff, ↓reduceIte, Nat.reduceAdd, Nat.zero_add, Nat.add_zero, Nat.reduceLeDiff, Int.reduceEq, Nat.reduceMul, List.take_zero, List.drop_succ_cons, List.drop_zero, List.nil_append, List.append_nil, List.drop_nil, List.take_succ_cons, List.take_nil, List.cons_append, Int.toNat_natCast, Int.toNat_zero, Int.toNat_one, t4, t5, t9, t12, t13, t88, t89, t90, t107, t108, t109, yx, yb, hbY, bA, bB, bC, hxl, xA, xB, xC, hzi, hdi, f1, f2, mkC, hwi]
            exact ⟨acc.length - (i + 1), by omega, i + 1, rfl, hlt2, by rw [hany, ← Bool.or_assoc, c1, Bool.false_or], rfl, k1 _ _⟩
          · rw [c1] at t13
            simp only [go_sem, Nat.reduceLT, Nat.reduceEqDiff, ↓reduceIte, Nat.reduceAdd, Nat.zero_add, Nat.add_zero, Nat.reduceLeDiff, Int.reduceEq, Nat.reduceMul, List.take_zero, List.drop_succ_cons, List.drop_zero, List.nil_append, List.append_nil, List.drop_nil, List.take_succ_cons, List.take_nil, List.cons_append, Int.toNat_natCast, Int.toNat_zero, Int.toNat_one, t4, t5, t9, t12, t13, t88, t89, t90, t107, t108, t109, yx, yb, hbY, bA, bB, bC, hxl, xA, xB, xC, hzi, hdi, f1, f2, mkC, hwi]
            exact ⟨acc.length - (i + 1), by omega, i + 1, rfl, hlt2, by rw [hany, ← Bool.or_assoc, c1, Bool.true_or], rfl, k1 _ _⟩
        · obtain rfl : i = acc.length := by omega
          have hd2 : ¬ ((acc.length : Int) < (acc.length : Int)) := by omega
          rw [List.take_length] at t13
          have hKY : Keeps [] H Y := hK.trans hXY
          have hs : marksOf k (bytes.drop j) j acc = marksOf k (x :: bytes.drop (j + 1)) j acc := by rw [drop_at hx]
          have hnl : H.next ≤ Y.next := by omega
          cases c2 : (decide ((8 : Int) < (j : Int)) || acc.any fun y => (y.1 == (markOf k x).1) && (y.2 == (markOf k x).2))
          · rw [c2] at t13
            simp only [Bool.or_eq_false_iff] at c2
            have d8 := of_decide_eq_false c2.1
            have hs2 : marksOf k (bytes.drop j) j acc = marksOf k (bytes.drop (j + 1)) (j + 1) (acc ++ [markOf k x]) := by
              rw [hs]; simp only [marksOf]; rw [if_neg (by rw [c2.2]; simp; omega)]
            obtain ⟨s', U, q1, q2, q3, q4⟩ := app_row (H := Y.new (.cells [.int .u8 (x.tmod k), .int .u16 (4 + (x.tdiv 8).tmod 4)] false [] 2)) (by_ := 4) (vs := [.int .u8 (x.tmod k), .int .u16 (4 + (x.tdiv 8).tmod 4)]) (hr2.keeps (hXY.new' _)) ((flat_len (f := mkC) (fun _ => rfl) _).symm) rfl (by omega) (by unfold grow; omega) (by simp; omega) (by simp; omega)
            have hbl : ∀ b cs par, Y.get b = some (.cells cs false par 9) → U.get b = Y.get b := fun b cs par hg => by
              have hb := AHeap.get_lt hg
              rw [q4 b (by simp; omega) (.inr (.inr fun cs par h => by rw [get_new_old _ hb, hg] at h; injection h with h; injection h with _ _ _ h; omega)), get_new_old _ hb]
            have hr3 : RowL U H.next H.next s k 9 ((finRegs k arr).flatMap RegD.cells) := by
              rcases hr.keeps hXY with h | ⟨b, par, o1, o2, o3, o4⟩
              · exact .inl h
              · exact .inr ⟨b, par, o1, o2, (hbl _ _ _ o3).trans o3, o4⟩
            have hKU : Keeps [] H U := ⟨by simp at q3; omega, fun j hj _ => by rw [q4 j (by simp; omega) (.inl hj), get_new_old _ (by omega), hKY.old j hj (by simp)]⟩
            simp only [go_sem, Nat.reduceLT, Nat.reduceEqDiff, ↓reduceIte, Nat.reduceAdd, Nat.zero_add, Nat.add_zero, Nat.reduceLeDiff, Int.reduceEq, Nat.reduceMul, List.take_zero, List.drop_succ_cons, List.drop_zero, List.nil_append, List.append_nil, List.drop_nil, List.take_succ_cons, List.take_nil, List.cons_append, Int.toNat_natCast, Int.toNat_zero, Int.toNat_one, t4, t5, t9, t12, t13, t88, t89, t90, t107, t108, t109, yx, hxl, xA, xB, xC, hd2, q1, hw]
            exact ⟨bytes.length - (j + 1), by omega, j + 1, acc ++ [markOf k x], _, rfl, hlt, rfl, rfl, hKU, by simp at q3; omega, hr3, by simpa [mkC, markOf] using q2, by rw [hE, hs2], by simp; omega, by simp; omega⟩
          · rw [c2] at t13
            have hs2 : marksOf k (bytes.drop j) j acc = marksOf k (bytes.drop (j + 1)) (j + 1) acc := by
              rw [hs]; simp only [marksOf]; rw [if_pos]
              rcases Bool.or_eq_true _ _ ▸ c2 with h | h
              · exact .inl (by have := of_decide_eq_true h; omega)
              · exact .inr h
            simp only [go_sem, Nat.reduceLT, Nat.reduceEqDiff, ↓reduceIte, Nat.reduceAdd, Nat.zero_add, Nat.add_zero, Nat.reduceLeDiff, Int.reduceEq, Nat.reduceMul, List.take_zero, List.drop_succ_cons, List.drop_zero, List.nil_append, List.append_nil, List.drop_nil, List.take_succ_cons, List.take_nil, List.cons_append, Int.toNat_natCast, Int.toNat_zero, Int.toNat_one, t4, t5, t9, t12, t13, t88, t89, t90, t107, t108, t109, yx, hxl, xA, xB, xC, hd2, hw]
            exact ⟨bytes.length - (j + 1), by omega, j + 1, acc, _, rfl, hlt, rfl, rfl, hKY, by omega, hr.keeps hXY, hr2.keeps hXY, by rw [hE, hs2], by omega, ha2⟩
      · obtain rfl : j = bytes.length := by omega
        have hd : ¬ ((bytes.length : Int) < (bytes.length : Int)) := by omega
        rw [List.drop_length] at hE
        have hm : marksOf k bytes 0 [] = acc := by rw [hE]; rfl
        have hnl : (finRegs k arr).length = k := by simp [finRegs]
        simp only [go_sem, Nat.reduceLT, Nat.reduceEqDiff, ↓reduceIte, Nat.reduceAdd, Nat.zero_add, Nat.add_zero, Nat.reduceLeDiff, Int.reduceEq, Nat.reduceMul, List.take_zero, List.drop_succ_cons, List.drop_zero, List.nil_append, List.append_nil, List.drop_nil, List.take_succ_cons, List.take_nil, List.cons_append, Int.toNat_natCast, Int.toNat_zero, Int.toNat_one, t4, t5, t9, t88, t89, t90, hd, hm]
        exact ⟨hK, _, _, rfl, by rw [hnl]; exact hr, hr2⟩
    · have d1 := of_decide_eq_true c1
      have d2 : k = 3 := by omega
      have e3 : preRegs k arr k = [preReg k arr 0, preReg k arr 1, preReg k arr 2] := by rw [d2]; rfl
      have e4 : finRegs k arr = [{ preReg k arr 0 with clear := 1 }, preReg k arr 1, preReg k arr 2] := by rw [d2]; rfl
      have h3' : X.get b = some (.cells ((preReg k arr 0).cells ++ [preReg k arr 1, preReg k arr 2].flatMap RegD.cells) false par 9) := by rw [h3, e3]; rfl
      simp only [RegD.cells, List.cons_append, List.nil_append] at h3'
      simp only [go_sem, Nat.reduceLT, Nat.reduceEqDiff, ↓reduceIte, Nat.reduceAdd, Nat.zero_add, Nat.add_zero, Nat.reduceLeDiff, Int.reduceEq, Nat.reduceMul, List.take_zero, List.drop_succ_cons, List.drop_zero, List.nil_append, List.append_nil, List.drop_nil, List.take_succ_cons, List.take_nil, List.cons_append, Int.toNat_natCast, Int.toNat_zero, Int.toNat_one, t1, t4, t5, t21, t22, xb, hd, hXl, hA, hB, hC, c1, q26, h3', i0, i1, hbl, get_dels1, hnp, hnb, AHeap.next_dels]
      refine codeW_forget (fun τ Z => ∃ s, tget τ 4 = .int .i64 k ∧ tget τ 5 = s ∧ tget τ 9 = .slice none 0 0 ∧ tget τ 88 = .slice ra bytes.length ca ∧ tget τ 89 = .int .i64 bytes.length ∧ tget τ 90 = .int .i64 0 ∧ Keeps [] H Z ∧ H.next < Z.next ∧ RowL Z H.next H.next s k 9 ((finRegs k arr).flatMap RegD.cells)) ⟨_, ?_, rfl, ?_, ?_, ?_, ?_, ?_, ?_, ?_⟩ ?_
      · simp only [go_sem, Nat.reduceLT, Nat.reduceEqDiff, ↓reduceIte, Nat.reduceAdd, Nat.zero_add, Nat.add_zero, Nat.reduceLeDiff, Int.reduceEq, Nat.reduceMul, t4]
      · simp only [go_sem, Nat.reduceLT, Nat.reduceEqDiff, ↓reduceIte, Nat.reduceAdd, Nat.zero_add, Nat.add_zero, Nat.reduceLeDiff, Int.reduceEq, Nat.reduceMul]
      · simp only [go_sem, Nat.reduceLT, Nat.reduceEqDiff, ↓reduceIte, Nat.reduceAdd, Nat.zero_add, Nat.add_zero, Nat.reduceLeDiff, Int.reduceEq, Nat.reduceMul]
      · simp only [go_sem, Nat.reduceLT, Nat.reduceEqDiff, ↓reduceIte, Nat.reduceAdd, Nat.zero_add, Nat.add_zero, Nat.reduceLeDiff, Int.reduceEq, Nat.reduceMul]
      · simp only [go_sem, Nat.reduceLT, Nat.reduceEqDiff, ↓reduceIte, Nat.reduceAdd, Nat.zero_add, Nat.add_zero, Nat.reduceLeDiff, Int.reduceEq, Nat.reduceMul]
      · refine ⟨by simp; omega, fun j hj _ => ?_⟩
        have a1 : j ∉ par := fun h => by have := (h6 _ h).1; omega
        rw [get_set_ne _ (by omega) (by simpa using hbl), get_dels1 a1, hK.old j hj (by simp)]
      · simpa using hXl
      · refine .inr ⟨b, [], h1, ?_, ?_, h4, h5, by simp⟩
        · simp only [go_sem, Nat.reduceLT, Nat.reduceEqDiff, ↓reduceIte, Nat.reduceAdd, Nat.zero_add, Nat.add_zero, Nat.reduceLeDiff, Int.reduceEq, Nat.reduceMul, t5]
        · rw [AHeap.get_set _ _ _ _ (by simpa using hbl), if_pos rfl, e4]; rfl
      clear t1 t4 t5 t21 t22 xb h3' h3 c1 d1 e3 e4 d2
      clear hXl hA hB hC hbl hK i0 i1 hd hnp hnb hmany h4 h5 h6 par b
      rintro τ X ⟨s, t4, t5, t9, t88, t89, t90, hK, hXl, hr⟩
      refine codeW_loop (fun nn τ X => ∃ j acc s2, nn = bytes.length - j ∧ j ≤ bytes.length ∧ tget τ 4 = .int .i64 k ∧ tget τ 5 = s ∧ tget τ 9 = s2 ∧ tget τ 88 = .slice ra bytes.length ca ∧ tget τ 89 = .int .i64 bytes.length ∧ tget τ 90 = .int .i64 (j : Nat) ∧ Keeps [] H X ∧ H.next < X.next ∧
        RowL X H.next H.next s k 9 ((finRegs k arr).flatMap RegD.cells) ∧ RowL X H.next H.next s2 acc.length 2 (acc.flatMap mkC) ∧ marksOf k bytes 0 [] = marksOf k (bytes.drop j) j acc ∧ acc.length ≤ j ∧ acc.length ≤ 9) (n := bytes.length) ⟨0, [], _, rfl, Nat.zero_le _, t4, t5, t9, t88, t89, by rw [t90]; rfl, hK, hXl, hr, .inl ⟨rfl, rfl, rfl⟩, rfl, Nat.le_refl _, by simp⟩ ?_
      clear t4 t5 t9 t88 t89 t90 hK hXl hr
      rintro nn τ X ⟨j, acc, s2, rfl, hj, t4, t5, t9, t88, t89, t90, hK, hXl, hr, hr2, hE, ha1, ha2⟩
      have hw : IntKind.wrap .i64 ((j : Int) + 1) = ((j + 1 : Nat) : Int) := by rw [wrap64] <;> omega
      by_cases hlt : j < bytes.length
      · rcases hs with ⟨h, _⟩ | ⟨ib, cb, rowb, rob, parb, gsb, e0, hrowb, helb⟩
        · rw [h] at hlt; simp at hlt
        injection e0 with e1 _ e3
        subst e1; subst e3
        obtain ⟨x, hx⟩ : ∃ x, bytes[j]? = some x := ⟨_, List.getElem?_eq_getElem hlt⟩
        obtain ⟨x0, x1⟩ := hbb x (List.mem_of_getElem? hx)
        have hrx : rowb[j]? = some (.int .u8 x) := by
          have h := congrArg (fun l => l[0]?) (helb j x hx).1
          simpa [List.getElem?_take, List.getElem?_drop] using h
        have xib : X.get ib = some (.cells rowb rob parb gsb) := hK.get hrowb (by simp)
        have hz : (0 : Int) ≤ (j : Int) := by omega
        have hd : (j : Int) < (bytes.length : Int) := by omega
        have wk : IntKind.wrap .u8 (k : Int) = k := by rw [IntKind.wrap_u8]; omega
        have hk0 : ¬ ((k : Int) = 0) := by omega
        have x8 : x.tdiv 8 = x / 8 := Int.tdiv_eq_ediv_of_nonneg x0
        have x84 : (x.tdiv 8).tmod 4 = (x / 8) % 4 := by rw [x8, Int.tmod_eq_emod_of_nonneg (by omega)]
        have wq : IntKind.wrap .u8 (x.tdiv 8) = x.tdiv 8 := by rw [IntKind.wrap_u8, x8]; omega
        have wr : IntKind.wrap .u16 ((x.tdiv 8).tmod 4) = (x.tdiv 8).tmod 4 := by rw [w16, x84]; omega
        have ws : IntKind.wrap .u16 (4 + (x.tdiv 8).tmod 4) = 4 + (x.tdiv 8).tmod 4 := by rw [w16, x84]; omega
        obtain ⟨rs, cs2, hs2⟩ : ∃ rs cs2, s2 = .slice rs acc.length cs2 := by
          rcases hr2 with ⟨h, rfl, _⟩ | ⟨b, par, _, rfl, _⟩
          · rw [h]; exact ⟨_, _, rfl⟩
          · exact ⟨_, _, rfl⟩
        subst hs2
        simp only [go_sem, Nat.reduceLT, Nat.reduceEqDiff, ↓reduceIte, Nat.reduceAdd, Nat.zero_add, Nat.add_zero, Nat.reduceLeDiff, Int.reduceEq, Nat.reduceMul, List.take_zero, List.drop_succ_cons, List.drop_zero, List.nil_append, List.append_nil, List.drop_nil, List.take_succ_cons, List.take_nil, List.cons_append, Int.toNat_natCast, Int.toNat_zero, Int.toNat_one, t4, t5, t9, t88, t89, t90, xib, hz, hd, hrx, wk, hk0, wq, wr, ws, Nat.mul_one]
        refine codeW_loop (fun nn τ Y => ∃ i, nn = acc.length - i ∧ i ≤ acc.length ∧ tget τ 4 = .int .i64 k ∧ tget τ 5 = s ∧ tget τ 9 = .slice rs acc.length cs2 ∧ tget τ 12 = .pointer (some ⟨X.next, 0, none⟩) ∧ tget τ 13 = .bool (decide ((8 : Int) < (j : Int)) || (acc.take i).any fun y => (y.1 == (markOf k x).1) && (y.2 == (markOf k x).2)) ∧
          tget τ 88 = .slice (some ⟨ib, 0, none⟩) bytes.length ca ∧ tget τ 89 = .int .i64 bytes.length ∧ tget τ 90 = .int .i64 (j : Nat) ∧ tget τ 107 = .slice rs acc.length cs2 ∧ tget τ 108 = .int .i64 acc.length ∧ tget τ 109 = .int .i64 (i : Nat) ∧ Keeps [] X Y ∧
          Y.get X.next = some (.cells [.int .u8 (x.tmod k), .int .u16 (4 + (x.tdiv 8).tmod 4)] false [] 0)) (n := acc.length) ⟨0, rfl, Nat.zero_le _, ?_, ?_, ?_, ?_, ?_, ?_, ?_, ?_, ?_, ?_, ?_, ((Keeps.refl [] X).new' _).set' (Nat.le_refl _) (by simp), ?_⟩ ?_
        · simp only [go_sem, Nat.reduceLT, Nat.reduceEqDiff, ↓reduceIte, Nat.reduceAdd, Nat.zero_add, Nat.add_zero, Nat.reduceLeDiff, Int.reduceEq, Nat.reduceMul, t4]
        · simp only [go_sem, Nat.reduceLT, Nat.reduceEqDiff, ↓reduceIte, Nat.reduceAdd, Nat.zero_add, Nat.add_zero, Nat.reduceLeDiff, Int.reduceEq, Nat.reduceMul, t5]
        · simp only [go_sem, Nat.reduceLT, Nat.reduceEqDiff, ↓reduceIte, Nat.reduceAdd, Nat.zero_add, Nat.add_zero, Nat.reduceLeDiff, Int.reduceEq, Nat.reduceMul, t9]
        · simp only [go_sem, Nat.reduceLT, Nat.reduceEqDiff, ↓reduceIte, Nat.reduceAdd, Nat.zero_add, Nat.add_zero, Nat.reduceLeDiff, Int.reduceEq, Nat.reduceMul]
        · simp only [go_sem, Nat.reduceLT, Nat.reduceEqDiff, ↓reduceIte, Nat.reduceAdd, Nat.zero_add, Nat.add_zero, Nat.reduceLeDiff, Int.reduceEq, Nat.reduceMul, List.take_zero, List.any_nil]
        · simp only [go_sem, Nat.reduceLT, Nat.reduceEqDiff, ↓reduceIte, Nat.reduceAdd, Nat.zero_add, Nat.add_zero, Nat.reduceLeDiff, Int.reduceEq, Nat.reduceMul, t88]
        · simp only [go_sem, Nat.reduceLT, Nat.reduceEqDiff, ↓reduceIte, Nat.reduceAdd, Nat.zero_add, Nat.add_zero, Nat.reduceLeDiff, Int.reduceEq, Nat.reduceMul, t89]
        · simp only [go_sem, Nat.reduceLT, Nat.reduceEqDiff, ↓reduceIte, Nat.reduceAdd, Nat.zero_add, Nat.add_zero, Nat.reduceLeDiff, Int.reduceEq, Nat.reduceMul, t90]
        · simp only [go_sem, Nat.reduceLT, Nat.reduceEqDiff, ↓reduceIte, Nat.reduceAdd, Nat.zero_add, Nat.add_zero, Nat.reduceLeDiff, Int.reduceEq, Nat.reduceMul]
        · simp only [go_sem, Nat.reduceLT, Nat.reduceEqDiff, ↓reduceIte, Nat.reduceAdd, Nat.zero_add, Nat.add_zero, Nat.reduceLeDiff, Int.reduceEq, Nat.reduceMul]
        · simp only [go_sem, Nat.reduceLT, Nat.reduceEqDiff, ↓reduceIte, Nat.reduceAdd, Nat.zero_add, Nat.add_zero, Nat.reduceLeDiff, Int.reduceEq, Nat.reduceMul]; rfl
        · simp only [go_sem, Nat.reduceLT, Nat.reduceEqDiff, ↓reduceIte, Nat.reduceAdd, Nat.zero_add, Nat.add_zero, Nat.reduceLeDiff, Int.reduceEq, Nat.reduceMul]
        clear t4 t5 t9 t88 t89 t90
        rintro nn τ Y ⟨i, rfl, hi, t4, t5, t9, t12, t13, t88, t89, t90, t107, t108, t109, hXY, yx⟩
        have hwi : IntKind.wrap .i64 ((i : Int) + 1) = ((i + 1 : Nat) : Int) := by rw [wrap64] <;> omega
        have hxl : X.next < Y.next := AHeap.get_lt yx
        have xA : ∀ k, X.next < Y.next + k := fun k => by omega
        have xB : ∀ k, X.next ≠ Y.next + k := fun k => by omega
        have xC : X.next ≠ Y.next := by omega
        by_cases hlt2 : i < acc.length
        · rcases hr2 with ⟨h, _⟩ | ⟨b2, par2, g1, g2, g3, g4⟩
          · omega
          injection g2 with g2 _ g5
          subst g2; subst g5
          have yb := hXY.get g3 (by simp)
          have hbY : b2 < Y.next := AHeap.get_lt yb
          have bA : ∀ k, b2 < Y.next + k := fun k => by omega
          have bB : ∀ k, b2 ≠ Y.next + k := fun k => by omega
          have bC : b2 ≠ Y.next := by omega
          obtain ⟨m, hm⟩ : ∃ m, acc[i]? = some m := ⟨_, List.getElem?_eq_getElem hlt2⟩
          obtain ⟨f1, f2⟩ := flat_at (f := mkC) (n := 2) (fun _ => rfl) acc i m hm
          have hzi : (0 : Int) ≤ (i : Int) := by omega
          have hdi : (i : Int) < (acc.length : Int) := by omega
          have hany : ((acc.take (i + 1)).any fun y => (y.1 == (markOf k x).1) && (y.2 == (markOf k x).2)) = ((acc.take i).any (fun y => (y.1 == (markOf k x).1) && (y.2 == (markOf k x).2)) || ((m.1 == x.tmod k) && (m.2 == 4 + (x.tdiv 8).tmod 4))) := by
            rw [List.take_add_one, hm, List.any_append]; simp [markOf]
          have k1 : ∀ o o2, Keeps [] X ((Y.new o).set Y.next o2) := fun o o2 => (hXY.new' _).set' (by omega) (by simp)
          cases c1 : (decide ((8 : Int) < (j : Int)) || (acc.take i).any fun y => (y.1 == (markOf k x).1) && (y.2 == (markOf k x).2))
          · rw [c1] at t13
            simp only [go_sem, Nat.reduceLT, Nat.reduceEqDiff, ↓reduceIte, Nat.reduceAdd, Nat.zero_add, Nat.add_zero, Nat.reduceLeDiff, Int.reduceEq, Nat.reduceMul, List.take_zero, List.drop_succ_cons, List.drop_zero, List.nil_append, List.append_nil, List.drop_nil, List.take_succ_cons, List.take_nil, List.cons_append, Int.toNat_natCast, Int.toNat_zero, Int.toNat_one, t4, t5, t9, t12, t13, t88, t89, t90, t107, t108, t109, yx, yb, hbY, bA, bB, bC, hxl, xA, xB, xC, hzi, hdi, f1, f2, mkC, hwi]
            exact ⟨acc.length - (i + 1), by omega, i + 1, rfl, hlt2, by rw [hany, ← Bool.or_assoc, c1, Bool.false_or], rfl, k1 _ _⟩
          · rw [c1] at t13
            simp only [go_sem, Nat.reduceLT, Nat.reduceEqDiff, ↓reduceIte, Nat.reduceAdd, Nat.zero_add, Nat.add_zero, Nat.reduceLeDiff, Int.reduceEq, Nat.reduceMul, List.take_zero, List.drop_succ_cons, List.drop_zero, List.nil_append, List.append_nil, List.drop_nil, List.take_succ_cons, List.take_nil, List.cons_append, Int.toNat_natCast, Int.toNat_zero, Int.toNat_one, t4, t5, t9, t12, t13, t88, t89, t90, t107, t108, t109, yx, yb, hbY, bA, bB, bC, hxl, xA, xB, xC, hzi, hdi, f1, f2, mkC, hwi]
            exact ⟨acc.length - (i + 1), by omega, i + 1, rfl, hlt2, by rw [hany, ← Bool.or_assoc, c1, Bool.true_or], rfl, k1 _ _⟩
        · obtain rfl : i = acc.length := by omega
          have hd2 : ¬ ((acc.length : Int) < (acc.length : Int)) := by omega
          rw [List.take_length] at t13
          have hKY : Keeps [] H Y := hK.trans hXY
          have hs : marksOf k (bytes.drop j) j acc = marksOf k (x :: bytes.drop (j + 1)) j acc := by rw [drop_at hx]
          have hnl : H.next ≤ Y.next := by omega
          cases c2 : (decide ((8 : Int) < (j : Int)) || acc.any fun y => (y.1 == (markOf k x).1) && (y.2 == (markOf k x).2))
          · rw [c2] at t13
            simp only [Bool.or_eq_false_iff] at c2
            have d8 := of_decide_eq_false c2.1
            have hs2 : marksOf k (bytes.drop j) j acc = marksOf k (bytes.drop (j + 1)) (j + 1) (acc ++ [markOf k x]) := by
              rw [hs]; simp only [marksOf]; rw [if_neg (by rw [c2.2]; simp; omega)]
            obtain ⟨s', U, q1, q2, q3, q4⟩ := app_row (H := Y.new (.cells [.int .u8 (x.tmod k), .int .u16 (4 + (x.tdiv 8).tmod 4)] false [] 2)) (by_ := 4) (vs := [.int .u8 (x.tmod k), .int .u16 (4 + (x.tdiv 8).tmod 4)]) (hr2.keeps (hXY.new' _)) ((flat_len (f := mkC) (fun _ => rfl) _).symm) rfl (by omega) (by unfold grow; omega) (by simp; omega) (by simp; omega)
            have hbl : ∀ b cs par, Y.get b = some (.cells cs false par 9) → U.get b = Y.get b := fun b cs par hg => by
              have hb := AHeap.get_lt hg
              rw [q4 b (by simp; omega) (.inr (.inr fun cs par h => by rw [get_new_old _ hb, hg] at h; injection h with h; injection h with _ _ _ h; omega)), get_new_old _ hb]
            have hr3 : RowL U H.next H.next s k 9 ((finRegs k arr).flatMap RegD.cells) := by
              rcases hr.keeps hXY with h | ⟨b, par, o1, o2, o3, o4⟩
              · exact .inl h
              · exact .inr ⟨b, par, o1, o2, (hbl _ _ _ o3).trans o3, o4⟩
            have hKU : Keeps [] H U := ⟨by simp at q3; omega, fun j hj _ => by rw [q4 j (by simp; omega) (.inl hj), get_new_old _ (by omega), hKY.old j hj (by simp)]⟩
            simp only [go_sem, Nat.reduceLT, Nat.reduceEqDiff, ↓reduceIte, Nat.reduceAdd, Nat.zero_add, Nat.add_zero, Nat.reduceLeDiff, Int.reduceEq, Nat.reduceMul, List.take_zero, List.drop_succ_cons, List.drop_zero, List.nil_append, List.append_nil, List.drop_nil, List.take_succ_cons, List.take_nil, List.cons_append, Int.toNat_natCast, Int.toNat_zero, Int.toNat_one, t4, t5, t9, t12, t13, t88, t89, t90, t107, t108, t109, yx, hxl, xA, xB, xC, hd2, q1, hw]
            exact ⟨bytes.length - (j + 1), by omega, j + 1, acc ++ [markOf k x], _, rfl, hlt, rfl, rfl, hKU, by simp at q3; omega, hr3, by simpa [mkC, markOf] using q2, by rw [hE, hs2], by simp; omega, by simp; omega⟩
          · rw [c2] at t13
            have hs2 : marksOf k (bytes.drop j) j acc = marksOf k (bytes.drop (j + 1)) (j + 1) acc := by
              rw [hs]; simp only [marksOf]; rw [if_pos]
              rcases Bool.or_eq_true _ _ ▸ c2 with h | h
              · exact .inl (by have := of_decide_eq_true h; omega)
              · exact .inr h
            simp only [go_sem, Nat.reduceLT, Nat.reduceEqDiff, ↓reduceIte, Nat.reduceAdd, Nat.zero_add, Nat.add_zero, Nat.reduceLeDiff, Int.reduceEq, Nat.reduceMul, List.take_zero, List.drop_succ_cons, List.drop_zero, List.nil_append, List.append_nil, List.drop_nil, List.take_succ_cons, List.take_nil, List.cons_append, Int.toNat_natCast, Int.toNat_zero, Int.toNat_one, t4, t5, t9, t12, t13, t88, t89, t90, t107, t108, t109, yx, hxl, xA, xB, xC, hd2, hw]
            exact ⟨bytes.length - (j + 1), by omega, j + 1, acc, _, rfl, hlt, rfl, rfl, hKY, by omega, hr.keeps hXY, hr2.keeps hXY, by rw [hE, hs2], by omega, ha2⟩
      · obtain rfl : j = bytes.length := by omega
        have hd : ¬ ((bytes.length : Int) < (bytes.length : Int)) := by omega
        rw [List.drop_length] at hE
        have hm : marksOf k bytes 0 [] = acc := by rw [hE]; rfl
        have hnl : (finRegs k arr).length = k := by simp [finRegs]
        simp only [go_sem, Nat.reduceLT, Nat.reduceEqDiff, ↓reduceIte, Nat.reduceAdd, Nat.zero_add, Nat.add_zero, Nat.reduceLeDiff, Int.reduceEq, Nat.reduceMul, List.take_zero, List.drop_succ_cons, List.drop_zero, List.nil_append, List.append_nil, List.drop_nil, List.take_succ_cons, List.take_nil, List.cons_append, Int.toNat_natCast, Int.toNat_zero, Int.toNat_one, t4, t5, t9, t88, t89, t90, hd, hm]
        exact ⟨hK, _, _, rfl, by rw [hnl]; exact hr, hr2⟩
theorem regs_c {H : AHeap} {a : Int} {arr bytes : List Int} {sl : Value} (ha : 0 ≤ a ∧ a ≤ 255) (h25 : arr.length = 25) (hb : ∀ x ∈ arr, 0 ≤ x ∧ x ≤ 255) (hs : SlcE H sl (fun x => [Value.int .u8 x]) 1 bytes) (hbb : ∀ x ∈ bytes, 0 ≤ x ∧ x ≤ 255) (hlen : bytes.length < 4611686018427387904) :
    ACalls Tryd.prog 4 19 [.agg (sizeCells a arr sl).toArray] H fun v H' => Keeps [] H H' ∧ ∃ sr sm, v = .tuple #[sr, sm] ∧ SlcE H' sr RegD.cells 9 (finRegs (2 + a.tmod 4).toNat arr) ∧ SlcE H' sm mkC 2 (marksOf (2 + a.tmod 4) bytes 0 []) :=
  (regs_cL ha h25 hb hs hbb hlen).mono fun v H' ⟨hK, sr, sm, hv, h1, h2⟩ => ⟨hK, sr, sm, hv, RowL.slc h1 RegD.cells_length, RowL.slc h2 fun _ => rfl⟩
end Go.Proofs.YtkjclebafpomhaaDoor
set_option linter.unusedVariables false
set_option linter.unusedSimpArgs false
set_option maxRecDepth 100000
namespace Go.Proofs.YtkjclebafpomhaaDoor
open Go Go.Eng

/-! ### Has -/
def hasB (b c : Int) : Bool := decide (0 ≤ c) && decide (c < 16) && decide ((IntKind.wrap .i64 b / 2 ^ c.toNat) % 2 = 1)
def F95 : Spec := fun vs H => match vs with
  | [.agg ⟨[.int .u8 a, .int .u16 b]⟩, .int .i64 c] => if 0 ≤ b ∧ b ≤ 65535 then some (.bool (hasB b c), H) else none
  | _ => none
theorem F95_eq {a b : Int} (c : Int) (H : AHeap) (hb : 0 ≤ b ∧ b ≤ 65535) : F95 [.agg ⟨[.int .u8 a, .int .u16 b]⟩, .int .i64 c] H = some (.bool (hasB b c), H) := by unfold F95; simp only [hb, and_self, if_true]
theorem sp95 : SpOK 95 F95 := by
  refine .of (fn := Tryd.f95) (by kernel_rfl) (by kernel_rfl) ?_
  intro vs H v H' h
  unfold F95 at h
  split at h
  · rename_i a b c
    split at h
    case isFalse => cases h
    rename_i hb
    injection h with h; injection h with h1 h2; subst h1; subst h2
    refine ACalls.trim1 rfl ?_
    refine walk sp0_ok (fn := Tryd.f95) (by kernel_rfl) (c := Tryd.f95.body.get (by kernel_rfl)) (by kernel_rfl) (by simp [Tryd.f95]) ?_
    simp only [Tryd.f95, Option.get, hasB]
    have n2 : ¬ ((2 : Int) = 0) := by omega
    cases h1 : decide (0 ≤ c)
    · simp only [go_sem, Nat.reduceLT, Nat.reduceEqDiff, ↓reduceIte, Nat.reduceAdd, Nat.zero_add, Nat.add_zero, Nat.reduceLeDiff, Int.reduceEq, Nat.reduceMul, h1]
    have h1' := of_decide_eq_true h1
    cases h2 : decide (c < 16)
    · simp only [go_sem, Nat.reduceLT, Nat.reduceEqDiff, ↓reduceIte, Nat.reduceAdd, Nat.zero_add, Nat.add_zero, Nat.reduceLeDiff, Int.reduceEq, Nat.reduceMul, h1, h2]
    have h2' := of_decide_eq_true h2
    have hw : IntKind.wrap .i64 b = b := by rw [wrap64] <;> omega
    have hs : shrI .i64 b c = b / 2 ^ c.toNat := by
      unfold shrI
      rw [Nat.min_eq_left (by show c.toNat ≤ 64; omega), Int.fdiv_eq_ediv_of_nonneg]
      exact Int.pow_nonneg (by omega)
    have hp : (0 : Int) < 2 ^ c.toNat := Int.pow_pos (by omega)
    have hm : (b / 2 ^ c.toNat).tmod 2 = (b / 2 ^ c.toNat) % 2 := Int.tmod_eq_emod_of_nonneg (Int.ediv_nonneg hb.1 (Int.le_of_lt hp))
    simp only [go_sem, Nat.reduceLT, Nat.reduceEqDiff, ↓reduceIte, Nat.reduceAdd, Nat.zero_add, Nat.add_zero, Nat.reduceLeDiff, Int.reduceEq, Nat.reduceMul, h1, h2, h1', n2, hs, hm, hw]
  · cases h
def s95 : Specs := spAdd sp0 95 F95
theorem s95_95 : s95 95 = some F95 := id rfl
theorem s95_ok : SpsOK s95 := spAdd_ok sp0_ok sp95

/-! ### Leq -/
def refLeq (a b c d : Int) : Bool := decide (a ≤ c) && (List.range 16).all fun k => !(hasB b k) || hasB d k
def F47 : Spec := fun vs H => match vs with
  | [.agg ⟨[.int .u8 a, .int .u16 b]⟩, .agg ⟨[.int .u8 c, .int .u16 d]⟩] => if (0 ≤ b ∧ b ≤ 65535) ∧ 0 ≤ d ∧ d ≤ 65535 then some (.bool (refLeq a b c d), H) else none
  | _ => none
theorem sp47 : SpOK 47 F47 := by
  refine .of (fn := Tryd.f47) (by kernel_rfl) (by kernel_rfl) ?_
  intro vs H v H' h
  unfold F47 at h
  split at h
  · rename_i a b c d
    split at h
    case isFalse => cases h
    rename_i hbd
    obtain ⟨hb, hd⟩ := hbd
    injection h with h; injection h with h1 h2; subst h1; subst h2
    refine ACalls.trim1 rfl ?_
    refine walk s95_ok (fn := Tryd.f47) (by kernel_rfl) (c := Tryd.f47.body.get (by kernel_rfl)) (by kernel_rfl) (by simp [Tryd.f47]) ?_
    simp only [Tryd.f47, Option.get]
    by_cases c1 : c < a
    · have hv : refLeq a b c d = false := by unfold refLeq; rw [decide_eq_false (by omega)]; rfl
      simp only [go_sem, Nat.reduceLT, Nat.reduceEqDiff, ↓reduceIte, Nat.reduceAdd, Nat.zero_add, Nat.add_zero, Nat.reduceLeDiff, Int.reduceEq, Nat.reduceMul, c1, hv]
    simp only [go_sem, Nat.reduceLT, Nat.reduceEqDiff, ↓reduceIte, Nat.reduceAdd, Nat.zero_add, Nat.add_zero, Nat.reduceLeDiff, Int.reduceEq, Nat.reduceMul, c1]
    refine codeW_loop (fun nn τ X => ∃ k : Nat, nn = 16 - k ∧ k ≤ 16 ∧ tget τ 2 = .pointer (some ⟨H.next, 0, none⟩) ∧ tget τ 3 = .pointer (some ⟨H.next + 1, 0, none⟩) ∧ tget τ 5 = .int .i64 (k : Nat) ∧ X = (H.new (.cells [.int .u8 a, .int .u16 b] false [] 0)).new (.cells [.int .u8 c, .int .u16 d] false [] 0) ∧
      ∀ j < k, (!(hasB b j) || hasB d j) = true) (n := 16) ⟨0, rfl, by omega, ?_, ?_, ?_, rfl, fun j hj => by omega⟩ ?_
    · simp only [go_sem, Nat.reduceLT, Nat.reduceEqDiff, ↓reduceIte, Nat.reduceAdd, Nat.zero_add, Nat.add_zero, Nat.reduceLeDiff, Int.reduceEq, Nat.reduceMul]
    · simp only [go_sem, Nat.reduceLT, Nat.reduceEqDiff, ↓reduceIte, Nat.reduceAdd, Nat.zero_add, Nat.add_zero, Nat.reduceLeDiff, Int.reduceEq, Nat.reduceMul]
    · simp only [go_sem, Nat.reduceLT, Nat.reduceEqDiff, ↓reduceIte, Nat.reduceAdd, Nat.zero_add, Nat.add_zero, Nat.reduceLeDiff, Int.reduceEq, Nat.reduceMul]; rfl
    rintro nn τ X ⟨k, rfl, hk, t2, t3, t5, rfl, hall⟩
    by_cases hlt : k < 16
    · have hd16 : (k : Int) < 16 := by omega
      have hw : IntKind.wrap .i64 ((k : Int) + 1) = ((k + 1 : Nat) : Int) := by rw [wrap64] <;> omega
      cases q1 : hasB b k
      · simp only [go_sem, Nat.reduceLT, Nat.reduceEqDiff, ↓reduceIte, Nat.reduceAdd, Nat.zero_add, Nat.add_zero, Nat.reduceLeDiff, Int.reduceEq, Nat.reduceMul, List.take_zero, List.drop_succ_cons, List.drop_zero, List.nil_append, List.append_nil, List.drop_nil, List.take_succ_cons, List.take_nil, List.cons_append, Int.toNat_natCast, Int.toNat_zero, Int.toNat_one, t2, t3, t5, hd16, s95_95, fn_ex, F95_eq _ _ hb, F95_eq _ _ hd, q1, hw]
        refine ⟨16 - (k + 1), by omega, k + 1, rfl, hlt, rfl, fun j hj => ?_⟩
        rcases Nat.lt_or_ge j k with h | h
        · exact hall j h
        · obtain rfl : j = k := by omega
          rw [q1]; rfl
      · cases q2 : hasB d k
        · have hv : refLeq a b c d = false := by
            unfold refLeq
            rw [Bool.and_eq_false_iff]
            right
            rw [List.all_eq_false]
            exact ⟨k, List.mem_range.2 hlt, by rw [q1, q2]; simp⟩
          simp only [go_sem, Nat.reduceLT, Nat.reduceEqDiff, ↓reduceIte, Nat.reduceAdd, Nat.zero_add, Nat.add_zero, Nat.reduceLeDiff, Int.reduceEq, Nat.reduceMul, List.take_zero, List.drop_succ_cons, List.drop_zero, List.nil_append, List.append_nil, List.drop_nil, List.take_succ_cons, List.take_nil, List.cons_append, Int.toNat_natCast, Int.toNat_zero, Int.toNat_one, t2, t3, t5, hd16, s95_95, fn_ex, F95_eq _ _ hb, F95_eq _ _ hd, q1, q2, hw, hv]
        · simp only [go_sem, Nat.reduceLT, Nat.reduceEqDiff, ↓reduceIte, Nat.reduceAdd, Nat.zero_add, Nat.add_zero, Nat.reduceLeDiff, Int.reduceEq, Nat.reduceMul, List.take_zero, List.drop_succ_cons, List.drop_zero, List.nil_append, List.append_nil, List.drop_nil, List.take_succ_cons, List.take_nil, List.cons_append, Int.toNat_natCast, Int.toNat_zero, Int.toNat_one, t2, t3, t5, hd16, s95_95, fn_ex, F95_eq _ _ hb, F95_eq _ _ hd, q1, q2, hw]
          refine ⟨16 - (k + 1), by omega, k + 1, rfl, hlt, rfl, fun j hj => ?_⟩
          rcases Nat.lt_or_ge j k with h | h
          · exact hall j h
          · obtain rfl : j = k := by omega
            rw [q2]; simp
    · obtain rfl : k = 16 := by omega
      have hd16 : ¬ (((16 : Nat) : Int) < 16) := by omega
      have hv : refLeq a b c d = true := by
        unfold refLeq
        rw [decide_eq_true (by omega), Bool.true_and, List.all_eq_true]
        intro j hj
        exact hall j (List.mem_range.1 hj)
      simp only [go_sem, Nat.reduceLT, Nat.reduceEqDiff, ↓reduceIte, Nat.reduceAdd, Nat.zero_add, Nat.add_zero, Nat.reduceLeDiff, Int.reduceEq, Nat.reduceMul, List.take_zero, List.drop_succ_cons, List.drop_zero, List.nil_append, List.append_nil, List.drop_nil, List.take_succ_cons, List.take_nil, List.cons_append, Int.toNat_natCast, Int.toNat_zero, Int.toNat_one, t2, t3, t5, hd16, hv]
  · cases h

/-! ### Name -/
def F46 : Spec := fun vs H => match vs with
  | [.string s] => some (.bool (nameB s), H)
  | _ => none
theorem F46_eq (s : ByteArray) (H : AHeap) : F46 [.string s] H = some (.bool (nameB s), H) := id rfl
theorem sp46 : SpOK 46 F46 := by
  refine .of (fn := Tryd.f46) (by kernel_rfl) (by kernel_rfl) ?_
  intro vs H v H' h
  unfold F46 at h
  split at h
  · rename_i s
    injection h with h; injection h with h1 h2; subst h1; subst h2
    refine ACalls.trim1 rfl ?_
    refine walk sp0_ok (fn := Tryd.f46) (by kernel_rfl) (c := Tryd.f46.body.get (by kernel_rfl)) (by kernel_rfl) (by simp [Tryd.f46]) ?_
    simp only [Tryd.f46, Option.get]
    by_cases c1 : (s.size : Int) = 0
    · have hv : nameB s = false := by unfold nameB; rw [decide_eq_false (by omega)]; rfl
      simp only [go_sem, Nat.reduceLT, Nat.reduceEqDiff, ↓reduceIte, Nat.reduceAdd, Nat.zero_add, Nat.add_zero, Nat.reduceLeDiff, Int.reduceEq, Nat.reduceMul, c1, hv]
    by_cases c2 : 8 < (s.size : Int)
    · have hv : nameB s = false := by unfold nameB; rw [decide_eq_false (p := s.size ≤ 8) (by omega)]; simp
      simp only [go_sem, Nat.reduceLT, Nat.reduceEqDiff, ↓reduceIte, Nat.reduceAdd, Nat.zero_add, Nat.add_zero, Nat.reduceLeDiff, Int.reduceEq, Nat.reduceMul, c1, c2, hv]
    simp only [go_sem, Nat.reduceLT, Nat.reduceEqDiff, ↓reduceIte, Nat.reduceAdd, Nat.zero_add, Nat.add_zero, Nat.reduceLeDiff, Int.reduceEq, Nat.reduceMul, c1, c2]
    refine codeW_loop (fun nn τ X => ∃ k : Nat, nn = s.size - k ∧ k ≤ s.size ∧ tget τ 0 = .string s ∧ tget τ 3 = .int .i64 (k : Nat) ∧ X = H ∧ ∀ j < k, ∃ b : UInt8, s.data.toList[j]? = some b ∧ 97 ≤ b.toNat ∧ b.toNat ≤ 122) (n := s.size) ⟨0, rfl, by omega, ?_, ?_, rfl, fun j hj => by omega⟩ ?_
    · simp only [go_sem, Nat.reduceLT, Nat.reduceEqDiff, ↓reduceIte, Nat.reduceAdd, Nat.zero_add, Nat.add_zero, Nat.reduceLeDiff, Int.reduceEq, Nat.reduceMul]
    · simp only [go_sem, Nat.reduceLT, Nat.reduceEqDiff, ↓reduceIte, Nat.reduceAdd, Nat.zero_add, Nat.add_zero, Nat.reduceLeDiff, Int.reduceEq, Nat.reduceMul]; rfl
    rintro nn τ X ⟨k, rfl, hk, t0, t3, rfl, hall⟩
    by_cases hlt : k < s.size
    · have hd : (k : Int) < (s.size : Int) := by omega
      have hz : (0 : Int) ≤ (k : Int) := by omega
      have hw : IntKind.wrap .i64 ((k : Int) + 1) = ((k + 1 : Nat) : Int) := by rw [wrap64] <;> omega
      obtain ⟨b, hb⟩ : ∃ b, s.data.toList[k]? = some b := ⟨_, List.getElem?_eq_getElem (show k < s.data.toList.length from hlt)⟩
      have bad : ¬ (97 ≤ b.toNat ∧ b.toNat ≤ 122) → nameB s = false := by
        intro hn
        unfold nameB
        have : (s.data.toList.all fun b => decide (97 ≤ b.toNat) && decide (b.toNat ≤ 122)) = false := by
          rw [List.all_eq_false]
          exact ⟨b, List.mem_of_getElem? hb, by simpa using hn⟩
        rw [this, Bool.and_false]
      by_cases c3 : (b.toNat : Int) < 97
      · have hv := bad (by omega)
        simp only [go_sem, Nat.reduceLT, Nat.reduceEqDiff, ↓reduceIte, Nat.reduceAdd, Nat.zero_add, Nat.add_zero, Nat.reduceLeDiff, Int.reduceEq, Nat.reduceMul, List.take_zero, List.drop_succ_cons, List.drop_zero, List.nil_append, List.append_nil, List.drop_nil, List.take_succ_cons, List.take_nil, List.cons_append, Int.toNat_natCast, Int.toNat_zero, Int.toNat_one, t0, t3, hd, hz, hb, c3, hv]
      by_cases c4 : 122 < (b.toNat : Int)
      · have hv := bad (by omega)
        simp only [go_sem, Nat.reduceLT, Nat.reduceEqDiff, ↓reduceIte, Nat.reduceAdd, Nat.zero_add, Nat.add_zero, Nat.reduceLeDiff, Int.reduceEq, Nat.reduceMul, List.take_zero, List.drop_succ_cons, List.drop_zero, List.nil_append, List.append_nil, List.drop_nil, List.take_succ_cons, List.take_nil, List.cons_append, Int.toNat_natCast, Int.toNat_zero, Int.toNat_one, t0, t3, hd, hz, hb, c3, c4, hv]
      simp only [go_sem, Nat.reduceLT, Nat.reduceEqDiff, ↓reduceIte, Nat.reduceAdd, Nat.zero_add, Nat.add_zero, Nat.reduceLeDiff, Int.reduceEq, Nat.reduceMul, List.take_zero, List.drop_succ_cons, List.drop_zero, List.nil_append, List.append_nil, List.drop_nil, List.take_succ_cons, List.take_nil, List.cons_append, Int.toNat_natCast, Int.toNat_zero, Int.toNat_one, t0, t3, hd, hz, hb, c3, c4, hw]
      refine ⟨s.size - (k + 1), by omega, k + 1, rfl, hlt, rfl, fun j hj => ?_⟩
      rcases Nat.lt_or_ge j k with h | h
      · exact hall j h
      · obtain rfl : j = k := by omega
        exact ⟨b, hb, by omega, by omega⟩
    · obtain rfl : k = s.size := by omega
      have hd : ¬ ((s.size : Int) < (s.size : Int)) := by omega
      have hv : nameB s = true := by
        unfold nameB
        rw [decide_eq_true (by omega), decide_eq_true (by omega), Bool.true_and, Bool.true_and, List.all_eq_true]
        intro b hb
        obtain ⟨j, hj⟩ := List.mem_iff_getElem?.1 hb
        have hjl : j < s.data.toList.length := (List.getElem?_eq_some_iff.1 hj).1
        obtain ⟨b', h1, h2, h3⟩ := hall j (by rw [size_list] at hjl; omega)
        rw [hj] at h1; injection h1 with h1; subst h1
        simp [h2, h3]
      simp only [go_sem, Nat.reduceLT, Nat.reduceEqDiff, ↓reduceIte, Nat.reduceAdd, Nat.zero_add, Nat.add_zero, Nat.reduceLeDiff, Int.reduceEq, Nat.reduceMul, t0, t3, hd, hv]
  · cases h
end Go.Proofs.YtkjclebafpomhaaDoor
set_option linter.unusedVariables false
set_option linter.unusedSimpArgs false
set_option maxRecDepth 100000
namespace Go.Proofs.YtkjclebafpomhaaDoor
open Go Go.Eng
def inf52_3 : Info := [([0], [], false), ([11], [], false), ([12], [], false), ([13], [], false), ([3], [0, 1, 2, 3], false), ([14, 15], [], false), ([16], [], false), ([10], [], false), ([10], [7], false), ([17], [8], false), ([18], [], false)]
def inf53_1 : Info := [([0], [], false), ([5], [], false), ([6], [], false), ([0, 7], [], false), ([8, 7], [], false), ([9, 7], [], false), ([10, 7], [], false), ([3, 7], [3, 4, 5, 6], false), ([11, 12, 7], [], false), ([7, 13], [], false), ([14], [], false)]

def zeroGeo : GeoD := ⟨0, 0, 0, 0, 0, 0⟩
def geoV (geos : List GeoD) (k : Int) : Value := if 0 ≤ k ∧ k < geos.length then .tuple #[.agg (geos.getD k.toNat zeroGeo).cells.toArray, .bool true] else .tuple #[.agg zeroGeo.cells.toArray, .bool false]
theorem geo_c {H : AHeap} {i ir ig : Nat} {regs : List RegD} {geos : List GeoD} {total : Int} (hC : IsConf H i ir ig regs geos total) (k : Int) :
    ACalls Tryd.prog 4 40 [.pointer (some ⟨i, 0, none⟩), .int .i64 k] H fun v H' => v = geoV geos k ∧ H' = H := by
  refine ACalls.trimD (d := 2) (by unfold geoV; split <;> rfl) ?_
  refine walk s3_ok (fn := Tryd.f40) (by kernel_rfl) (c := Tryd.f40.body.get (by kernel_rfl)) (by kernel_rfl) (by simp [Tryd.f40]) ?_
  simp only [Tryd.f40, Option.get]
  obtain ⟨cr, t, m, n, l, cg, ro, par, gs, hrow⟩ := hC.row
  obtain ⟨ro2, par2, gs2, hgeo⟩ := hC.rgeos
  have hi : i < H.next := AHeap.get_lt hrow
  have hig : ig < H.next := AHeap.get_lt hgeo
  have hs := hC.same
  have hh : ∀ o, F41 [.pointer (some ⟨i, 0, none⟩), .int .i64 k] (H.new o) = some (.bool (decide (0 ≤ k) && decide (k < regs.length)), H.new o) := fun o => (hC.keeps (Keeps.new _ _ _)).has k
  by_cases hk : 0 ≤ k ∧ k < geos.length
  · obtain ⟨j, rfl⟩ : ∃ j : Nat, k = j := ⟨k.toNat, by omega⟩
    have hj : j < geos.length := by omega
    obtain ⟨r, hr⟩ : ∃ r, geos[j]? = some r := ⟨_, List.getElem?_eq_getElem hj⟩
    obtain ⟨e1, e2⟩ := flat_at GeoD.cells_length geos j r hr
    have hb : (decide (0 ≤ (j : Int)) && decide ((j : Int) < (regs.length : Int))) = true := by simp; omega
    have hix : (0 ≤ (j : Int) ∧ (j : Int) < (geos.length : Int)) = True := by simp; omega
    have hv : geoV geos (j : Int) = .tuple #[.agg r.cells.toArray, .bool true] := by
      unfold geoV; rw [if_pos (by omega)]; simp [List.getD_eq_getElem?_getD, hr]
    rw [hv]
    simp only [go_sem, Nat.reduceLT, Nat.reduceEqDiff, ↓reduceIte, Nat.reduceAdd, Nat.zero_add, Nat.add_zero, Nat.reduceLeDiff, Int.reduceEq, Nat.reduceMul, List.take_zero, List.drop_succ_cons, List.drop_zero, List.nil_append, List.append_nil, List.drop_nil, List.take_succ_cons, List.take_nil, List.cons_append, Int.toNat_natCast, Int.toNat_zero, Int.toNat_one, s3_41, fn_ex, hh, hb, hrow, hgeo, hix, e1, e2, GeoD.cells, hi, hig]
  · have hb : (decide (0 ≤ k) && decide (k < (regs.length : Int))) = false := by
      rw [Bool.eq_false_iff]; intro h; simp at h; omega
    have hv : geoV geos k = .tuple #[.agg zeroGeo.cells.toArray, .bool false] := by unfold geoV; rw [if_neg hk]
    rw [hv]
    simp only [go_sem, Nat.reduceLT, Nat.reduceEqDiff, ↓reduceIte, Nat.reduceAdd, Nat.zero_add, Nat.add_zero, Nat.reduceLeDiff, Int.reduceEq, Nat.reduceMul, List.take_zero, List.drop_succ_cons, List.drop_zero, List.nil_append, List.append_nil, List.drop_nil, List.take_succ_cons, List.take_nil, List.cons_append, Int.toNat_natCast, Int.toNat_zero, Int.toNat_one, s3_41, fn_ex, hh, hb, GeoD.cells, zeroGeo]

def spotV (r : Option Nat) : Value := match r with
  | some j => .tuple #[.int .i64 j, .bool true]
  | none => .tuple #[.int .i64 0, .bool false]
theorem look97v {H : AHeap} {r ck : Nat} {ro : Bool} {l : List ByteArray} (hg : H.get r = some (.map (ents .string l) ck ro)) (s : ByteArray) : aLookup Tryd.prog tb 97 (.map (some r)) (.string s) true H = some (spotV (spot (fun x => s == x) l 0)) := by
  have hz : zeroT tb 3 = some (.int .i64 0) := by kernel_rfl
  unfold aLookup
  simp only [und97, hg, chk9, find97]
  rw [if_pos (show flat 2 (.string s) = true from rfl)]
  cases h : spot (fun x => s == x) l 0 with
  | none => simp only [hz, Option.map_some, if_true]; rfl
  | some j =>
    obtain ⟨_, x, hx, _⟩ := spot_some l 0 j h
    have he : (ents Value.string l)[j]? = some { key := .string x, val := .int .i64 j, born := j } := by
      unfold ents
      rw [List.getElem?_map, List.getElem?_zipIdx]
      rw [Nat.sub_zero] at hx
      simp [hx]
    simp only [if_true, List.getD_eq_getElem?_getD, he, Option.getD_some]
    rfl
theorem look98v {H : AHeap} {r ck : Nat} {ro : Bool} {l : List (Int × Int)} (hg : H.get r = some (.map (ents labV l) ck ro)) (a b : Int) : aLookup Tryd.prog tb 98 (.map (some r)) (.agg #[.int .u8 a, .int .u16 b]) true H = some (spotV (spot (fun x : Int × Int => (a == x.1) && (b == x.2)) l 0)) := by
  have hz : zeroT tb 3 = some (.int .i64 0) := by kernel_rfl
  have hf := find98 a b l
  unfold labV at hf
  unfold aLookup
  simp only [und98, hg, chk36]
  have hf : aFind Tryd.prog tb 36 (.agg #[.int .u8 a, .int .u16 b]) (ents labV l) = _ := hf
  rw [if_pos (show flat 2 (.agg #[.int .u8 a, .int .u16 b]) = true from rfl), hf]
  cases h : spot (fun x : Int × Int => (a == x.1) && (b == x.2)) l 0 with
  | none => simp only [hz, Option.map_some, if_true]; rfl
  | some j =>
    obtain ⟨_, x, hx, _⟩ := spot_some l 0 j h
    have he : (ents labV l)[j]? = some { key := labV x, val := .int .i64 j, born := j } := by
      unfold ents
      rw [List.getElem?_map, List.getElem?_zipIdx]
      rw [Nat.sub_zero] at hx
      simp [hx]
    simp only [if_true, List.getD_eq_getElem?_getD, he, Option.getD_some]
    rfl

theorem named_c {H : AHeap} {lo i : Nat} {regs : List RegD} {geos : List GeoD} {total : Int} {marks : List (Int × Int)} (hM : ConfM H lo i regs geos total marks) (s : ByteArray) :
    ACalls Tryd.prog 4 51 [.pointer (some ⟨i, 0, none⟩), .string s] H fun v H' => v = spotV (spot (fun x => s == x) (regs.map (·.name)) 0) ∧ H' = H := by
  obtain ⟨it, inn, il, sr, sm, sg, hrow, hit, hin, hil, _⟩ := hM.all
  refine walk sp0_ok (fn := Tryd.f51) (by kernel_rfl) (c := Tryd.f51.body.get (by kernel_rfl)) (by kernel_rfl) (by simp [Tryd.f51]) ?_
  simp only [Tryd.f51, Option.get]
  have hl := look97v hin s
  cases hs : spot (fun x => s == x) (regs.map (·.name)) 0 with
  | none =>
    rw [hs] at hl
    simp only [go_sem, Nat.reduceLT, Nat.reduceEqDiff, ↓reduceIte, Nat.reduceAdd, Nat.zero_add, Nat.add_zero, Nat.reduceLeDiff, Int.reduceEq, Nat.reduceMul, List.take_zero, List.drop_succ_cons, List.drop_zero, List.nil_append, List.append_nil, List.drop_nil, List.take_succ_cons, List.take_nil, List.cons_append, Int.toNat_natCast, Int.toNat_zero, Int.toNat_one, hrow, hl, spotV]
  | some j =>
    rw [hs] at hl
    simp only [go_sem, Nat.reduceLT, Nat.reduceEqDiff, ↓reduceIte, Nat.reduceAdd, Nat.zero_add, Nat.add_zero, Nat.reduceLeDiff, Int.reduceEq, Nat.reduceMul, List.take_zero, List.drop_succ_cons, List.drop_zero, List.nil_append, List.append_nil, List.drop_nil, List.take_succ_cons, List.take_nil, List.cons_append, Int.toNat_natCast, Int.toNat_zero, Int.toNat_one, hrow, hl, spotV]

theorem find_c {H : AHeap} {lo i : Nat} {regs : List RegD} {geos : List GeoD} {total : Int} {marks : List (Int × Int)} (hM : ConfM H lo i regs geos total marks) (a b : Int) :
    ACalls Tryd.prog 4 52 [.pointer (some ⟨i, 0, none⟩), .agg #[.int .u8 a, .int .u16 b]] H fun v H' => v = spotV (spot (fun x : Int × Int => (a == x.1) && (b == x.2)) (regs.map fun r => (r.lev, r.cats)) 0) ∧ H' = H := by
  refine ACalls.trimD (d := 1) (by unfold spotV; split <;> rfl) ?_
  obtain ⟨it, inn, il, sr, sm, sg, hrow, hit, hin, hil, _⟩ := hM.all
  have hi : i < H.next := AHeap.get_lt hrow
  have hx : il < H.next := AHeap.get_lt hil
  refine walk sp0_ok (fn := Tryd.f52) (by kernel_rfl) (c := Tryd.f52.body.get (by kernel_rfl)) (by kernel_rfl) (by simp [Tryd.f52]) ?_
  simp only [Tryd.f52, Option.get]
  have hl : ∀ o, aLookup Tryd.prog tb 98 (.map (some il)) (.agg #[.int .u8 a, .int .u16 b]) true (H.new o) = some (spotV (spot (fun x : Int × Int => (a == x.1) && (b == x.2)) (regs.map fun r => (r.lev, r.cats)) 0)) := fun o => look98v (by rw [get_new_old _ hx]; exact hil) a b
  simp only [go_sem, Nat.reduceLT, Nat.reduceEqDiff, ↓reduceIte, Nat.reduceAdd, Nat.zero_add, Nat.add_zero, Nat.reduceLeDiff, Int.reduceEq, Nat.reduceMul, List.take_zero, List.drop_succ_cons, List.drop_zero, List.nil_append, List.append_nil, List.drop_nil, List.take_succ_cons, List.take_nil, List.cons_append, Int.toNat_natCast, Int.toNat_zero, Int.toNat_one]
  refine codeW_any (cxS_ok sp0_ok) inf52_3 (by kernel_rfl) fun _ => ?_
  cases hs : spot (fun x : Int × Int => (a == x.1) && (b == x.2)) (regs.map fun r => (r.lev, r.cats)) 0 with
  | none =>
    rw [hs] at hl
    simp only [inf52_3, go_sem, Nat.reduceLT, Nat.reduceEqDiff, ↓reduceIte, Nat.reduceAdd, Nat.zero_add, Nat.add_zero, Nat.reduceLeDiff, Int.reduceEq, Nat.reduceMul, List.take_zero, List.drop_succ_cons, List.drop_zero, List.nil_append, List.append_nil, List.drop_nil, List.take_succ_cons, List.take_nil, List.cons_append, Int.toNat_natCast, Int.toNat_zero, Int.toNat_one, hrow, hl, spotV, hi, hx]
  | some j =>
    rw [hs] at hl
    simp only [inf52_3, go_sem, Nat.reduceLT, Nat.reduceEqDiff, ↓reduceIte, Nat.reduceAdd, Nat.zero_add, Nat.add_zero, Nat.reduceLeDiff, Int.reduceEq, Nat.reduceMul, List.take_zero, List.drop_succ_cons, List.drop_zero, List.nil_append, List.append_nil, List.drop_nil, List.take_succ_cons, List.take_nil, List.cons_append, Int.toNat_natCast, Int.toNat_zero, Int.toNat_one, hrow, hl, spotV, hi, hx]

theorem trusted_c {H : AHeap} {lo i : Nat} {regs : List RegD} {geos : List GeoD} {total : Int} {marks : List (Int × Int)} (hM : ConfM H lo i regs geos total marks) (a b : Int) :
    ACalls Tryd.prog 4 53 [.pointer (some ⟨i, 0, none⟩), .agg #[.int .u8 a, .int .u16 b]] H fun v H' => v = .bool (marks.any fun x => (a == x.1) && (b == x.2)) ∧ H' = H := by
  refine ACalls.trim1 rfl ?_
  obtain ⟨it, inn, il, sr, sm, sg, hrow, hit, hin, hil, _⟩ := hM.all
  have hi : i < H.next := AHeap.get_lt hrow
  have hx : it < H.next := AHeap.get_lt hit
  refine walk sp0_ok (fn := Tryd.f53) (by kernel_rfl) (c := Tryd.f53.body.get (by kernel_rfl)) (by kernel_rfl) (by simp [Tryd.f53]) ?_
  simp only [Tryd.f53, Option.get]
  have hl : ∀ o, aLookup Tryd.prog tb 96 (.map (some it)) (.agg #[.int .u8 a, .int .u16 b]) false (H.new o) = some (.bool (marks.any fun x => (a == x.1) && (b == x.2))) := fun o => look96 (by rw [get_new_old _ hx]; exact hit) a b
  simp only [go_sem, Nat.reduceLT, Nat.reduceEqDiff, ↓reduceIte, Nat.reduceAdd, Nat.zero_add, Nat.add_zero, Nat.reduceLeDiff, Int.reduceEq, Nat.reduceMul, List.take_zero, List.drop_succ_cons, List.drop_zero, List.nil_append, List.append_nil, List.drop_nil, List.take_succ_cons, List.take_nil, List.cons_append, Int.toNat_natCast, Int.toNat_zero, Int.toNat_one]
  refine codeW_any (cxS_ok sp0_ok) inf53_1 (by kernel_rfl) fun _ => ?_
  simp only [inf53_1, go_sem, Nat.reduceLT, Nat.reduceEqDiff, ↓reduceIte, Nat.reduceAdd, Nat.zero_add, Nat.add_zero, Nat.reduceLeDiff, Int.reduceEq, Nat.reduceMul, List.take_zero, List.drop_succ_cons, List.drop_zero, List.nil_append, List.append_nil, List.drop_nil, List.take_succ_cons, List.take_nil, List.cons_append, Int.toNat_natCast, Int.toNat_zero, Int.toNat_one, hrow, hl, hi, hx]

def F96 : Spec := fun vs H => match vs with
  | [.pointer none] => some (.slice none 0 0, H)
  | [.pointer (some ⟨i, 0, none⟩)] => match ld1 (H.get i) 5 with
    | some (.slice a l c) => some (.slice a l c, H)
    | _ => none
  | _ => none
theorem F96_ptr {H : AHeap} {i : Nat} {a : Option Addr} {l c : Nat} (h : ld1 (H.get i) 5 = some (.slice a l c)) : F96 [.pointer (some ⟨i, 0, none⟩)] H = some (.slice a l c, H) := by simp only [F96, h]
theorem sp96 : SpOK 96 F96 := by
  refine .of (fn := Tryd.f96) (by kernel_rfl) (by kernel_rfl) ?_
  intro vs H v H' h
  unfold F96 at h
  split at h
  · injection h with h; injection h with h1 h2; subst h1; subst h2
    refine walk sp0_ok (fn := Tryd.f96) (by kernel_rfl) (c := Tryd.f96.body.get (by kernel_rfl)) (by kernel_rfl) (by simp [Tryd.f96]) ?_
    simp only [Tryd.f96, Option.get]
    simp only [go_sem, Nat.reduceLT, Nat.reduceEqDiff, ↓reduceIte, Nat.reduceAdd, Nat.zero_add, Nat.add_zero, Nat.reduceLeDiff, Int.reduceEq, Nat.reduceMul]
  · rename_i i
    split at h
    · rename_i a l c hg
      injection h with h; injection h with h1 h2; subst h1; subst h2
      refine walk sp0_ok (fn := Tryd.f96) (by kernel_rfl) (c := Tryd.f96.body.get (by kernel_rfl)) (by kernel_rfl) (by simp [Tryd.f96]) ?_
      simp only [Tryd.f96, Option.get]
      simp only [go_sem, Nat.reduceLT, Nat.reduceEqDiff, ↓reduceIte, Nat.reduceAdd, Nat.zero_add, Nat.add_zero, Nat.reduceLeDiff, Int.reduceEq, Nat.reduceMul, hg]
    · cases h
  · cases h
end Go.Proofs.YtkjclebafpomhaaDoor
