/- Contracts: conf.New. -/
import Derived.Test.YtkjclebafpomhaaDoorC6
set_option linter.unusedVariables false
set_option linter.unusedSimpArgs false
set_option maxRecDepth 100000
namespace Go.Proofs.YtkjclebafpomhaaDoor
open Go Go.Eng

/-- A row whose elements, from its start on, are known. -/
def Elems {α : Type} (f : α → List Value) (n : Nat) (row : List Value) (l : List α) : Prop := ∀ k a, l[k]? = some a → (row.drop (k * n)).take n = f a ∧ k * n + n ≤ row.length
/-- A slice of such. -/
def SlcE {α : Type} (H : AHeap) (s : Value) (f : α → List Value) (n : Nat) (l : List α) : Prop := (l = [] ∧ s = .slice none 0 0) ∨ ∃ b c row ro par gs, s = .slice (some ⟨b, 0, none⟩) l.length c ∧ H.get b = some (.cells row ro par gs) ∧ Elems f n row l
theorem Elems.part {α : Type} {f : α → List Value} {n : Nat} {row : List Value} {l : List α} (h : Elems f n row l) (k o m : Nat) (a : α) (ha : l[k]? = some a) (hm : o + m ≤ n) : (row.drop (k * n + o)).take m = ((f a).drop o).take m ∧ k * n + o + m ≤ row.length := by
  obtain ⟨h1, h2⟩ := h k a ha
  refine ⟨?_, by omega⟩
  rw [← h1, ← List.drop_drop, List.drop_take, List.take_take]
  congr 1
  omega
theorem ConfK.keeps {H H' : AHeap} {lo i : Nat} {regs : List RegD} {geos : List GeoD} {total : Int} (h : ConfK H lo i regs geos total) (k : Keeps [] H H') : ConfK H' lo i regs geos total := by
  obtain ⟨⟨it, inn, il, sr, sg, h1, h2, h3, h4, h5, h6, r⟩, h7, h8⟩ := h
  have rs : ∀ {s n sz cs}, RowS H lo i s n sz cs → RowS H' lo i s n sz cs := by
    rintro s n sz cs (h | ⟨b, par, a1, a2, a3, a4, a5⟩)
    · exact .inl h
    · exact .inr ⟨b, par, a1, a2, k.get a3 (by simp), a4, a5⟩
  exact ⟨⟨it, inn, il, sr, sg, k.get h1 (by simp), k.get h2 (by simp), k.get h3 (by simp), k.get h4 (by simp), rs h5, rs h6, r⟩, h7, h8⟩
theorem KeepLo.trans {lo : Nat} {H H1 H2 : AHeap} (a : KeepLo lo H H1) (b : KeepLo lo H1 H2) : KeepLo lo H H2 := ⟨Nat.le_trans a.le b.le, fun j hj => (b.old j hj).trans (a.old j hj)⟩
theorem KeepLo.of {lo : Nat} {H H1 : AHeap} (k : Keeps [] H H1) (h : lo ≤ H.next) : KeepLo lo H H1 := ⟨k.le, fun j hj => k.old j (by omega) (by simp)⟩

def addsErr (many : Int) : List RegD → List RegD → Int
  | _, [] => 0
  | d, r :: l => if addErr many d r = 0 then addsErr many (d ++ [r]) l else addErr many d r
def geosFrom : Int → List RegD → List GeoD × Int
  | t, [] => ([], t)
  | t, r :: l => (geoOf t r :: (geosFrom (w64 ((geoOf t r).data + r.blocks)) l).1, (geosFrom (w64 ((geoOf t r).data + r.blocks)) l).2)
theorem geosFrom_snoc (r : RegD) : ∀ (l : List RegD) (t : Int), geosFrom t (l ++ [r]) = ((geosFrom t l).1 ++ [geoOf (geosFrom t l).2 r], w64 ((geoOf (geosFrom t l).2 r).data + r.blocks)) := by
  intro l
  induction l with
  | nil => intro t; rfl
  | cons a l ih => intro t; simp only [List.cons_append, geosFrom, ih]
def marksErr (regs : List RegD) : List (Int × Int) → List (Int × Int) → Int
  | _, [] => 0
  | d, m :: l => if (regs.length : Int) ≤ m.1 ∨ m.2 < 1 ∨ (regs.getD m.1.toNat zeroReg).nodes < m.2 then 27 else if (d.any fun x => (m.1 == x.1) && (m.2 == x.2)) = true then 29 else marksErr regs (d ++ [m]) l
def leqsFrom (regs : List RegD) : List RegD → Nat → Bool
  | [], _ => true
  | r :: l, k => leqR regs k r.clear && leqsFrom regs l (k + 1)
def newErr (regs : List RegD) (marks : List (Int × Int)) : Int :=
  if regs.length = 0 ∨ 64 < regs.length then 23 else if addsErr regs.length [] regs ≠ 0 then addsErr regs.length [] regs else
  if ((regs.getD 0 zeroReg).lev == 0 && (regs.getD 0 zeroReg).cats == 0) = false then 25 else if leqsFrom regs regs 0 = false then 2 else marksErr regs [] marks
def mkC (m : Int × Int) : List Value := [.int .u8 m.1, .int .u16 m.2]

/-- What New brings forth: with what is trusted. -/
def entB (l : List (Int × Int)) : List MapEntry := l.zipIdx.map fun p => { key := labV p.1, val := .bool true, born := p.2 }
theorem entB_append (l : List (Int × Int)) (a : Int × Int) : entB (l ++ [a]) = entB l ++ [{ key := labV a, val := .bool true, born := l.length }] := by
  unfold entB
  rw [List.zipIdx_append, List.map_append]
  simp
theorem entB_keys (l : List (Int × Int)) : (entB l).map (·.key) = l.map labV := by
  unfold entB
  rw [List.map_map]
  have : ((fun x : MapEntry => x.key) ∘ fun p : (Int × Int) × Nat => ({ key := labV p.1, val := .bool true, born := p.2 } : MapEntry)) = labV ∘ Prod.fst := rfl
  rw [this, ← List.map_map, List.zipIdx_map_fst]
structure ConfM (H : AHeap) (lo i : Nat) (regs : List RegD) (geos : List GeoD) (total : Int) (marks : List (Int × Int)) : Prop where
  all : ∃ it inn il sr sm sg, H.get i = some (.cells [sr, .map (some it), sm, .map (some inn), .map (some il), sg, .int .i64 total] false [] 0) ∧ H.get it = some (.map (entB marks) marks.length false) ∧
    H.get inn = some (.map (ents .string (regs.map (·.name))) regs.length false) ∧ H.get il = some (.map (ents labV (regs.map fun r => (r.lev, r.cats))) regs.length false) ∧
    RowS H lo i sr regs.length 9 (regs.flatMap RegD.cells) ∧ RowS H lo i sm marks.length 2 (marks.flatMap mkC) ∧ RowS H lo i sg geos.length 6 (geos.flatMap GeoD.cells) ∧ lo ≤ it ∧ lo ≤ inn ∧ lo ≤ il ∧ it ≠ inn ∧ it ≠ il ∧ inn ≠ il
  low : lo ≤ i
  same : geos.length = regs.length
theorem ConfK.toM {H : AHeap} {lo i : Nat} {regs : List RegD} {geos : List GeoD} {total : Int} (h : ConfK H lo i regs geos total) : ConfM H lo i regs geos total [] := by
  obtain ⟨⟨it, inn, il, sr, sg, h1, h2, h3, h4, h5, h6, r⟩, h7, h8⟩ := h
  exact ⟨⟨it, inn, il, sr, _, sg, h1, h2, h3, h4, h5, .inl ⟨rfl, rfl, rfl⟩, h6, r⟩, h7, h8⟩
theorem ConfM.keeps {H H' : AHeap} {lo i : Nat} {regs : List RegD} {geos : List GeoD} {total : Int} {marks : List (Int × Int)} (h : ConfM H lo i regs geos total marks) (k : Keeps [] H H') : ConfM H' lo i regs geos total marks := by
  obtain ⟨⟨it, inn, il, sr, sm, sg, h1, h2, h3, h4, h5, h6, h6', r⟩, h7, h8⟩ := h
  have rs : ∀ {s n sz cs}, RowS H lo i s n sz cs → RowS H' lo i s n sz cs := by
    rintro s n sz cs (h | ⟨b, par, a1, a2, a3, a4, a5⟩)
    · exact .inl h
    · exact .inr ⟨b, par, a1, a2, k.get a3 (by simp), a4, a5⟩
  exact ⟨⟨it, inn, il, sr, sm, sg, k.get h1 (by simp), k.get h2 (by simp), k.get h3 (by simp), k.get h4 (by simp), rs h5, rs h6, rs h6', r⟩, h7, h8⟩
theorem ConfM.isConf {H : AHeap} {lo i : Nat} {regs : List RegD} {geos : List GeoD} {total : Int} {marks : List (Int × Int)} (h : ConfM H lo i regs geos total marks) (h0 : regs.length ≠ 0) (hn : regs.length ≤ 64) : ∃ ir ig, IsConf H i ir ig regs geos total := by
  obtain ⟨⟨it, inn, il, sr, sm, sg, h1, h2, h3, h4, h5, h6, h6', r⟩, h7, h8⟩ := h
  rcases h5 with ⟨h, _⟩ | ⟨b, par, a1, rfl, a3, a4, a5⟩
  · exact absurd h h0
  rcases h6' with ⟨h, _⟩ | ⟨bg, parg, b1, rfl, b3, b4, b5⟩
  · exact absurd h (by omega)
  exact ⟨b, bg, ⟨⟨_, _, _, _, _, _, _, _, _, h1⟩, ⟨_, _, _, a3⟩, ⟨_, _, _, b3⟩, h8, by omega⟩⟩
def inf20_22 : Info := [([13], [], false), ([71], [], false), ([72], [], false), ([0], [0, 1, 2], false), ([74], [0, 1, 2], false), ([73, 75], [], false), ([76], [], false), ([13, 77], [], false), ([78, 77], [], false), ([79, 77], [], false), ([77, 80], [], false), ([81], [], false), ([13, 82], [], false), ([83, 82], [], false), ([84, 82], [], false), ([0, 82], [12, 13, 14], false), ([13, 82], [12, 13, 14, 15], false), ([87, 82], [12, 13, 14, 15], false), ([86, 88, 82], [12, 13, 14], false), ([89, 82], [12, 13, 14], false), ([90, 82], [12, 13, 14], false), ([85, 91, 82], [], false), ([82, 92], [], false), ([93], [], false)]
def inf20_24 : Info := [([6], [], false), ([95], [], false), ([96], [], false), ([97], [], false), ([13], [0, 1, 2, 3], false), ([98, 99], [], false), ([100], [], false)]
def inf20_26 : Info := [([6], [], false), ([101], [], false), ([102], [], false), ([103], [], false), ([13], [0, 1, 2, 3], false), ([104, 105], [], false)]
def inf20_27 : Info := [([6], [], false), ([6], [0], false), ([107], [0], false), ([108], [0], false), ([109], [0], false), ([13], [0, 1, 2, 3, 4], false), ([111], [0, 1, 2, 3, 4], false), ([110, 112], [0], false), ([106], [], false), ([114], [], false), ([115, 113], [], false)]
theorem look96 {H : AHeap} {r ck : Nat} {ro : Bool} {l : List (Int × Int)} (hg : H.get r = some (.map (entB l) ck ro)) (a b : Int) : aLookup Tryd.prog tb 96 (.map (some r)) (.agg #[.int .u8 a, .int .u16 b]) false H = some (.bool (l.any fun x => (a == x.1) && (b == x.2))) := by
  have hz : zeroT tb 4 = some (.bool false) := by kernel_rfl
  have hf := find96 a b l (entB l) (entB_keys l)
  have hf : aFind Tryd.prog tb 48 (.agg #[.int .u8 a, .int .u16 b]) (entB l) = _ := hf
  unfold aLookup
  simp only [und96, hg, chk48]
  rw [if_pos (show flat 2 (.agg #[.int .u8 a, .int .u16 b]) = true from rfl), hf]
  have := spot_any (fun x : Int × Int => (a == x.1) && (b == x.2)) l 0
  cases h : spot (fun x : Int × Int => (a == x.1) && (b == x.2)) l 0 with
  | none =>
    rw [h] at this
    rw [← this]
    simp only [hz, Option.map_some, Bool.false_eq_true, if_false]; rfl
  | some j =>
    rw [h] at this
    rw [← this]
    obtain ⟨_, x, hx, _⟩ := spot_some l 0 j h
    have he : (entB l)[j]? = some { key := labV x, val := .bool true, born := j } := by
      unfold entB
      rw [List.getElem?_map, List.getElem?_zipIdx]
      rw [Nat.sub_zero] at hx
      simp [hx]
    simp only [Bool.false_eq_true, if_false, List.getD_eq_getElem?_getD, he, Option.getD_some]
    rfl
theorem update96 {H : AHeap} {r : Nat} {l : List (Int × Int)} (hg : H.get r = some (.map (entB l) l.length false)) {a b : Int} (hn : (l.any fun x => (a == x.1) && (b == x.2)) = false) :
    aMapUpdate Tryd.prog tb 96 (.map (some r)) (.agg #[.int .u8 a, .int .u16 b]) (.bool true) H = some (H.set r (.map (entB (l ++ [(a, b)])) (l.length + 1))) := by
  have hf := find96 a b l (entB l) (entB_keys l)
  have hf : aFind Tryd.prog tb 48 (.agg #[.int .u8 a, .int .u16 b]) (entB l) = _ := hf
  unfold aMapUpdate
  simp only [und96, hg, chk48, hf, spot_none hn]
  rw [if_pos (show flat 2 (.agg #[.int .u8 a, .int .u16 b]) = true from rfl), entB_append]
  rfl
theorem s3_44 : s3 44 = none := id rfl
theorem s3_45 : s3 45 = none := id rfl
theorem new_c {H : AHeap} {sr sm : Value} {regs : List RegD} {marks : List (Int × Int)} (hr : SlcE H sr RegD.cells 9 regs) (hm : SlcE H sm mkC 2 marks) (hmw : ∀ m ∈ marks, 0 ≤ m.1 ∧ m.1 ≤ 255 ∧ 0 ≤ m.2 ∧ m.2 ≤ 65535) (hml : marks.length ≤ 1000) :
    ACalls Tryd.prog 4 20 [sr, sm] H fun v H' => Keeps [] H H' ∧ ((newErr regs marks ≠ 0 ∧ v = .tuple #[.pointer none, .int .i64 (newErr regs marks)]) ∨
      (newErr regs marks = 0 ∧ ∃ i ir ig, v = .tuple #[.pointer (some ⟨i, 0, none⟩), .int .i64 0] ∧ IsConf H' i ir ig regs (geosFrom 32 regs).1 (geosFrom 32 regs).2)) := by
  have hsl : ∃ ra ca, sr = .slice ra regs.length ca := by
    rcases hr with ⟨rfl, rfl⟩ | ⟨b, c, row, ro, par, gs, rfl, _⟩
    · exact ⟨none, 0, rfl⟩
    · exact ⟨_, _, rfl⟩
  obtain ⟨ra, ca, hsr⟩ := hsl
  refine walk s3_ok (fn := Tryd.f20) (by kernel_rfl) (c := Tryd.f20.body.get (by kernel_rfl)) (by kernel_rfl) (by simp [Tryd.f20]) ?_
  simp only [Tryd.f20, Option.get]
  by_cases c1 : (regs.length : Int) = 0
  · have hv : newErr regs marks = 23 := by unfold newErr; rw [if_pos (.inl (by omega))]
    subst hsr
    simp only [go_sem, Nat.reduceLT, Nat.reduceEqDiff, ↓reduceIte, Nat.reduceAdd, Nat.zero_add, Nat.add_zero, Nat.reduceLeDiff, Int.reduceEq, Nat.reduceMul, List.take_zero, List.drop_succ_cons, List.drop_zero, List.nil_append, List.append_nil, List.drop_nil, List.take_succ_cons, List.take_nil, List.cons_append, Int.toNat_natCast, Int.toNat_zero, Int.toNat_one, c1, hv]
  by_cases c2 : 64 < (regs.length : Int)
  · have hv : newErr regs marks = 23 := by unfold newErr; rw [if_pos (.inr (by omega))]
    subst hsr
    simp only [go_sem, Nat.reduceLT, Nat.reduceEqDiff, ↓reduceIte, Nat.reduceAdd, Nat.zero_add, Nat.add_zero, Nat.reduceLeDiff, Int.reduceEq, Nat.reduceMul, List.take_zero, List.drop_succ_cons, List.drop_zero, List.nil_append, List.append_nil, List.drop_nil, List.take_succ_cons, List.take_nil, List.cons_append, Int.toNat_natCast, Int.toNat_zero, Int.toNat_one, c1, c2, hv]
  rcases hr with ⟨rfl, _⟩ | ⟨ia, ca', row, ro, par, gs, e0, hrow, hel⟩
  · simp at c1
  rw [hsr] at e0
  injection e0 with e1 e2 e3
  subst e1; subst e3
  subst hsr
  have hia : ia < H.next := AHeap.get_lt hrow
  have hnl : regs.length ≤ 64 := by omega
  have hlen0 : ¬ (regs.length = 0 ∨ 64 < regs.length) := by omega
  simp only [go_sem, Nat.reduceLT, Nat.reduceEqDiff, ↓reduceIte, Nat.reduceAdd, Nat.zero_add, Nat.add_zero, Nat.reduceLeDiff, Int.reduceEq, Nat.reduceMul, List.take_zero, List.drop_succ_cons, List.drop_zero, List.nil_append, List.append_nil, List.drop_nil, List.take_succ_cons, List.take_nil, List.cons_append, Int.toNat_natCast, Int.toNat_zero, Int.toNat_one, c1, c2]
  refine codeW_loop (fun nn τ X => ∃ k, nn = regs.length - k ∧ k ≤ regs.length ∧ tget τ 0 = .slice (some ⟨ia, 0, none⟩) regs.length ca ∧ tget τ 1 = sm ∧ tget τ 6 = .pointer (some ⟨H.next + 3, 0, none⟩) ∧ tget τ 27 = .slice (some ⟨ia, 0, none⟩) regs.length ca ∧
    tget τ 28 = .int .i64 regs.length ∧ tget τ 29 = .int .i64 (k : Nat) ∧ KeepLo H.next H X ∧ ConfK X H.next (H.next + 3) (regs.take k) (geosFrom 32 (regs.take k)).1 (geosFrom 32 (regs.take k)).2 ∧ addsErr regs.length [] regs = addsErr regs.length (regs.take k) (regs.drop k)) (n := regs.length) ⟨0, rfl, Nat.zero_le _, ?_, ?_, ?_, ?_, ?_, ?_, ?_, ?_, rfl⟩ ?_
  · simp only [go_sem, Nat.reduceLT, Nat.reduceEqDiff, ↓reduceIte, Nat.reduceAdd, Nat.zero_add, Nat.add_zero, Nat.reduceLeDiff, Int.reduceEq, Nat.reduceMul]
  · simp only [go_sem, Nat.reduceLT, Nat.reduceEqDiff, ↓reduceIte, Nat.reduceAdd, Nat.zero_add, Nat.add_zero, Nat.reduceLeDiff, Int.reduceEq, Nat.reduceMul]
  · simp only [go_sem, Nat.reduceLT, Nat.reduceEqDiff, ↓reduceIte, Nat.reduceAdd, Nat.zero_add, Nat.add_zero, Nat.reduceLeDiff, Int.reduceEq, Nat.reduceMul]
  · simp only [go_sem, Nat.reduceLT, Nat.reduceEqDiff, ↓reduceIte, Nat.reduceAdd, Nat.zero_add, Nat.add_zero, Nat.reduceLeDiff, Int.reduceEq, Nat.reduceMul]
  · simp only [go_sem, Nat.reduceLT, Nat.reduceEqDiff, ↓reduceIte, Nat.reduceAdd, Nat.zero_add, Nat.add_zero, Nat.reduceLeDiff, Int.reduceEq, Nat.reduceMul]
  · simp only [go_sem, Nat.reduceLT, Nat.reduceEqDiff, ↓reduceIte, Nat.reduceAdd, Nat.zero_add, Nat.add_zero, Nat.reduceLeDiff, Int.reduceEq, Nat.reduceMul]; rfl
  · refine ⟨by simp only [go_sem, Nat.reduceLT, Nat.reduceEqDiff, ↓reduceIte, Nat.reduceAdd, Nat.zero_add, Nat.add_zero, Nat.reduceLeDiff, Int.reduceEq, Nat.reduceMul], fun j hj => ?_⟩
    have a1 : ∀ k, j ≠ H.next + k := fun k => by omega
    have a2 : j ≠ H.next := by omega
    simp only [go_sem, Nat.reduceLT, Nat.reduceEqDiff, ↓reduceIte, Nat.reduceAdd, Nat.zero_add, Nat.add_zero, Nat.reduceLeDiff, Int.reduceEq, Nat.reduceMul, a1, a2]
  · refine ⟨⟨H.next, H.next + 1, H.next + 2, .slice none 0 0, .slice none 0 0, ?_, ?_, ?_, ?_, .inl ⟨rfl, rfl, rfl⟩, .inl ⟨rfl, rfl, rfl⟩, by omega, by omega, by omega, by omega, by omega, by omega⟩, by omega, rfl⟩
    · simp only [go_sem, Nat.reduceLT, Nat.reduceEqDiff, ↓reduceIte, Nat.reduceAdd, Nat.zero_add, Nat.add_zero, Nat.reduceLeDiff, Int.reduceEq, Nat.reduceMul]; rfl
    · simp only [go_sem, Nat.reduceLT, Nat.reduceEqDiff, ↓reduceIte, Nat.reduceAdd, Nat.zero_add, Nat.add_zero, Nat.reduceLeDiff, Int.reduceEq, Nat.reduceMul]
    · simp only [go_sem, Nat.reduceLT, Nat.reduceEqDiff, ↓reduceIte, Nat.reduceAdd, Nat.zero_add, Nat.add_zero, Nat.reduceLeDiff, Int.reduceEq, Nat.reduceMul]; rfl
    · simp only [go_sem, Nat.reduceLT, Nat.reduceEqDiff, ↓reduceIte, Nat.reduceAdd, Nat.zero_add, Nat.add_zero, Nat.reduceLeDiff, Int.reduceEq, Nat.reduceMul]; rfl
  · rintro nn τ X ⟨k, rfl, hk, t0, t1, t6, t27, t28, t29, hK, hC, hE⟩
    have xia : X.get ia = some (.cells row ro par gs) := (hK.old ia hia).trans hrow
    have hXl := hK.le
    have hia' : ia < X.next := by omega
    by_cases hlt : k < regs.length
    · obtain ⟨r, hr⟩ : ∃ r, regs[k]? = some r := ⟨_, List.getElem?_eq_getElem hlt⟩
      obtain ⟨e1, e2⟩ := hel k r hr
      have hz : (0 : Int) ≤ (k : Int) := by omega
      have hd : (k : Int) < (regs.length : Int) := by omega
      have hw : IntKind.wrap .i64 ((k : Int) + 1) = ((k + 1 : Nat) : Int) := by rw [wrap64] <;> omega
      have hlk : (regs.take k).length = k := by simp; omega
      have hnext : regs.take (k + 1) = regs.take k ++ [r] := by rw [List.take_add_one, hr]; rfl
      have hadd := add_c (hC.keeps (((Keeps.refl [] X).new' (.cells [.string ⟨#[]⟩, .int .u8 0, .int .u16 0, .int .i64 0, .int .i64 0, .int .i64 0, .int .i64 0, .int .i64 0, .int .i64 0] false [] 0)).set' (o := .cells r.cells false [] 0) (i := X.next) (Nat.le_refl _) (by simp))) (by rw [hlk]; omega) r regs.length
      rw [hlk] at hadd
      simp only [go_sem, Nat.reduceLT, Nat.reduceEqDiff, ↓reduceIte, Nat.reduceAdd, Nat.zero_add, Nat.add_zero, Nat.reduceLeDiff, Int.reduceEq, Nat.reduceMul, List.take_zero, List.drop_succ_cons, List.drop_zero, List.nil_append, List.append_nil, List.drop_nil, List.take_succ_cons, List.take_nil, List.cons_append, Int.toNat_natCast, Int.toNat_zero, Int.toNat_one, t0, t1, t6, t27, t28, t29, xia, hia', hz, hd, e1, e2, RegD.cells, s3_44, hw]
      refine callsx_of (cxS_ok s3_ok) (fn := Tryd.f44) (by kernel_rfl) (by kernel_rfl) hadd ?_
      rintro v X2 ⟨rfl, hk2, hc2⟩
      have hk3 : KeepLo H.next H X2 := hK.trans ((KeepLo.of (((Keeps.refl [] X).new' _).set' (i := X.next) (Nat.le_refl _) (by simp)) hXl).trans hk2)
      by_cases he : addErr regs.length (regs.take k) r = 0
      · have hc3 := hc2 he
        rw [← hnext] at hc3
        have hg : geosFrom 32 (regs.take (k + 1)) = ((geosFrom 32 (regs.take k)).1 ++ [geoOf (geosFrom 32 (regs.take k)).2 r], w64 ((geoOf (geosFrom 32 (regs.take k)).2 r).data + r.blocks)) := by rw [hnext, geosFrom_snoc]
        have hE2 : addsErr regs.length [] regs = addsErr regs.length (regs.take (k + 1)) (regs.drop (k + 1)) := by rw [hE, drop_at hr]; simp only [addsErr, he, if_true, hnext]
        simp only [go_sem, Nat.reduceLT, Nat.reduceEqDiff, ↓reduceIte, Nat.reduceAdd, Nat.zero_add, Nat.add_zero, Nat.reduceLeDiff, Int.reduceEq, Nat.reduceMul, List.take_zero, List.drop_succ_cons, List.drop_zero, List.nil_append, List.append_nil, List.drop_nil, List.take_succ_cons, List.take_nil, List.cons_append, Int.toNat_natCast, Int.toNat_zero, Int.toNat_one, t0, t1, t6, t27, t28, t29, he, hw]
        exact ⟨regs.length - (k + 1), by omega, k + 1, rfl, hlt, rfl, hk3, by rw [hg]; exact hc3, hE2⟩
      · have hE2 : addsErr regs.length [] regs = addErr regs.length (regs.take k) r := by rw [hE, drop_at hr]; simp only [addsErr, he, if_false]
        have hv : newErr regs marks = addErr regs.length (regs.take k) r := by unfold newErr; rw [if_neg hlen0, if_pos (by rw [hE2]; exact he), hE2]
        simp only [go_sem, Nat.reduceLT, Nat.reduceEqDiff, ↓reduceIte, Nat.reduceAdd, Nat.zero_add, Nat.add_zero, Nat.reduceLeDiff, Int.reduceEq, Nat.reduceMul, List.take_zero, List.drop_succ_cons, List.drop_zero, List.nil_append, List.append_nil, List.drop_nil, List.take_succ_cons, List.take_nil, List.cons_append, Int.toNat_natCast, Int.toNat_zero, Int.toNat_one, t0, t1, t6, t27, t28, t29, he, hv]
        exact ⟨hk3.le, fun j hj _ => hk3.old j hj⟩
    · have hk' : k = regs.length := by omega
      subst hk'
      have hd : ¬ ((regs.length : Int) < (regs.length : Int)) := by omega
      rw [List.take_length] at hC hE
      rw [List.drop_length] at hE
      have hE0 : addsErr regs.length [] regs = 0 := by rw [hE]; rfl
      obtain ⟨r0, hr0⟩ : ∃ r, regs[0]? = some r := ⟨_, List.getElem?_eq_getElem (by omega)⟩
      have hgd0 : regs.getD 0 zeroReg = r0 := by simp [List.getD_eq_getElem?_getD, hr0]
      obtain ⟨p1, p2⟩ := hel.part 0 1 2 r0 hr0 (by omega)
      simp only [Nat.zero_mul, Nat.zero_add] at p1 p2
      have hpos : (0 : Int) < (regs.length : Int) := by omega
      have hz0 : ((0 : Int) ≤ 0) = True := by simp
      cases c3 : ((r0.lev == 0) && (r0.cats == 0))
      · have hv : newErr regs marks = 25 := by unfold newErr; rw [if_neg hlen0, if_neg (by rw [hE0]; simp), hgd0, if_pos c3]
        simp only [go_sem, Nat.reduceLT, Nat.reduceEqDiff, ↓reduceIte, Nat.reduceAdd, Nat.zero_add, Nat.add_zero, Nat.reduceLeDiff, Int.reduceEq, Nat.reduceMul, List.take_zero, List.drop_succ_cons, List.drop_zero, List.nil_append, List.append_nil, List.drop_nil, List.take_succ_cons, List.take_nil, List.cons_append, Int.toNat_natCast, Int.toNat_zero, Int.toNat_one, t0, t1, t6, t27, t28, t29, xia, hia', hd, hpos, hz0, p1, p2, RegD.cells, neq36, c3, hv]
        exact ⟨hK.le, fun j hj _ => hK.old j hj⟩
      simp only [go_sem, Nat.reduceLT, Nat.reduceEqDiff, ↓reduceIte, Nat.reduceAdd, Nat.zero_add, Nat.add_zero, Nat.reduceLeDiff, Int.reduceEq, Nat.reduceMul, List.take_zero, List.drop_succ_cons, List.drop_zero, List.nil_append, List.append_nil, List.drop_nil, List.take_succ_cons, List.take_nil, List.cons_append, Int.toNat_natCast, Int.toNat_zero, Int.toNat_one, t0, t1, t6, t27, t28, t29, xia, hia', hd, hpos, hz0, p1, p2, RegD.cells, neq36, c3]
      have hM := hC.toM
      refine codeW_loop (fun nn τ X => ∃ k, nn = regs.length - k ∧ k ≤ regs.length ∧ tget τ 0 = .slice (some ⟨ia, 0, none⟩) regs.length ca ∧ tget τ 1 = sm ∧ tget τ 6 = .pointer (some ⟨H.next + 3, 0, none⟩) ∧ tget τ 50 = .slice (some ⟨ia, 0, none⟩) regs.length ca ∧
        tget τ 51 = .int .i64 regs.length ∧ tget τ 52 = .int .i64 (k : Nat) ∧ KeepLo H.next H X ∧ ConfM X H.next (H.next + 3) regs (geosFrom 32 regs).1 (geosFrom 32 regs).2 [] ∧ leqsFrom regs regs 0 = leqsFrom regs (regs.drop k) k) (n := regs.length) ⟨0, rfl, Nat.zero_le _, ?_, ?_, ?_, ?_, ?_, ?_, hK, hM, rfl⟩ ?_
      · simp only [go_sem, Nat.reduceLT, Nat.reduceEqDiff, ↓reduceIte, Nat.reduceAdd, Nat.zero_add, Nat.add_zero, Nat.reduceLeDiff, Int.reduceEq, Nat.reduceMul, t0]
      · simp only [go_sem, Nat.reduceLT, Nat.reduceEqDiff, ↓reduceIte, Nat.reduceAdd, Nat.zero_add, Nat.add_zero, Nat.reduceLeDiff, Int.reduceEq, Nat.reduceMul, t1]
      · simp only [go_sem, Nat.reduceLT, Nat.reduceEqDiff, ↓reduceIte, Nat.reduceAdd, Nat.zero_add, Nat.add_zero, Nat.reduceLeDiff, Int.reduceEq, Nat.reduceMul, t6]
      · simp only [go_sem, Nat.reduceLT, Nat.reduceEqDiff, ↓reduceIte, Nat.reduceAdd, Nat.zero_add, Nat.add_zero, Nat.reduceLeDiff, Int.reduceEq, Nat.reduceMul]
      · simp only [go_sem, Nat.reduceLT, Nat.reduceEqDiff, ↓reduceIte, Nat.reduceAdd, Nat.zero_add, Nat.add_zero, Nat.reduceLeDiff, Int.reduceEq, Nat.reduceMul]
      · simp only [go_sem, Nat.reduceLT, Nat.reduceEqDiff, ↓reduceIte, Nat.reduceAdd, Nat.zero_add, Nat.add_zero, Nat.reduceLeDiff, Int.reduceEq, Nat.reduceMul]; rfl
      clear hK hC hM hE t0 t1 t6 t27 t28 t29 xia hXl hia' hk hlt
      rintro nn τ X ⟨k, rfl, hk, t0, t1, t6, t50, t51, t52, hK, hM, hE⟩
      have xia : X.get ia = some (.cells row ro par gs) := (hK.old ia hia).trans hrow
      have hXl := hK.le
      have hia' : ia < X.next := by omega
      by_cases hlt : k < regs.length
      · obtain ⟨r, hr⟩ : ∃ r, regs[k]? = some r := ⟨_, List.getElem?_eq_getElem hlt⟩
        obtain ⟨e1, e2⟩ := hel k r hr
        have hz : (0 : Int) ≤ (k : Int) := by omega
        have hd : (k : Int) < (regs.length : Int) := by omega
        have hw : IntKind.wrap .i64 ((k : Int) + 1) = ((k + 1 : Nat) : Int) := by rw [wrap64] <;> omega
        have hX : ∀ o o2 : AObj, Keeps [] X ((X.new o).set X.next o2) := fun o o2 => ((Keeps.refl [] X).new' o).set' (i := X.next) (Nat.le_refl _) (by simp)
        have hM2 := hM.keeps (hX (.cells [.string ⟨#[]⟩, .int .u8 0, .int .u16 0, .int .i64 0, .int .i64 0, .int .i64 0, .int .i64 0, .int .i64 0, .int .i64 0] false [] 0) (.cells r.cells false [] 0))
        obtain ⟨ir, ig, hI⟩ := hM2.isConf (by omega) hnl
        have hq := leq_c hI k r.clear
        have hs : leqsFrom regs (regs.drop k) k = (leqR regs k r.clear && leqsFrom regs (regs.drop (k + 1)) (k + 1)) := by rw [drop_at hr]; rfl
        simp only [go_sem, Nat.reduceLT, Nat.reduceEqDiff, ↓reduceIte, Nat.reduceAdd, Nat.zero_add, Nat.add_zero, Nat.reduceLeDiff, Int.reduceEq, Nat.reduceMul, List.take_zero, List.drop_succ_cons, List.drop_zero, List.nil_append, List.append_nil, List.drop_nil, List.take_succ_cons, List.take_nil, List.cons_append, Int.toNat_natCast, Int.toNat_zero, Int.toNat_one, t0, t1, t6, t50, t51, t52, xia, hia', hz, hd, e1, e2, RegD.cells, s3_45, hw]
        refine callsx_of (cxS_ok s3_ok) (fn := Tryd.f45) (by kernel_rfl) (by kernel_rfl) hq ?_
        rintro v X2 ⟨rfl, rfl⟩
        have hk3 := hK.trans (KeepLo.of (hX (.cells [.string ⟨#[]⟩, .int .u8 0, .int .u16 0, .int .i64 0, .int .i64 0, .int .i64 0, .int .i64 0, .int .i64 0, .int .i64 0] false [] 0) (.cells r.cells false [] 0)) hXl)
        cases c4 : leqR regs k r.clear
        · have hv : newErr regs marks = 2 := by
            unfold newErr; rw [if_neg hlen0, if_neg (by rw [hE0]; simp), hgd0, if_neg (by rw [c3]; simp), if_pos (by rw [hE, hs, c4]; rfl)]
          simp only [go_sem, Nat.reduceLT, Nat.reduceEqDiff, ↓reduceIte, Nat.reduceAdd, Nat.zero_add, Nat.add_zero, Nat.reduceLeDiff, Int.reduceEq, Nat.reduceMul, List.take_zero, List.drop_succ_cons, List.drop_zero, List.nil_append, List.append_nil, List.drop_nil, List.take_succ_cons, List.take_nil, List.cons_append, Int.toNat_natCast, Int.toNat_zero, Int.toNat_one, t0, t1, t6, t50, t51, t52, hw, c4, hv]
          exact ⟨hk3.le, fun j hj _ => hk3.old j hj⟩
        · simp only [go_sem, Nat.reduceLT, Nat.reduceEqDiff, ↓reduceIte, Nat.reduceAdd, Nat.zero_add, Nat.add_zero, Nat.reduceLeDiff, Int.reduceEq, Nat.reduceMul, List.take_zero, List.drop_succ_cons, List.drop_zero, List.nil_append, List.append_nil, List.drop_nil, List.take_succ_cons, List.take_nil, List.cons_append, Int.toNat_natCast, Int.toNat_zero, Int.toNat_one, t0, t1, t6, t50, t51, t52, hw, c4]
          exact ⟨regs.length - (k + 1), by omega, k + 1, rfl, hlt, rfl, hk3, hM2, by rw [hE, hs, c4, Bool.true_and]⟩
      · have hk' : k = regs.length := by omega
        subst hk'
        have hd : ¬ ((regs.length : Int) < (regs.length : Int)) := by omega
        rw [List.drop_length] at hE
        have hL : leqsFrom regs regs 0 = true := by rw [hE]; rfl
        have hv0 : newErr regs marks = marksErr regs [] marks := by unfold newErr; rw [if_neg hlen0, if_neg (by rw [hE0]; simp), hgd0, if_neg (by rw [c3]; simp), if_neg (by rw [hL]; simp)]
        have hsm : ∃ ra ca, sm = .slice ra marks.length ca := by
          rcases hm with ⟨rfl, rfl⟩ | ⟨b, c, row, ro, par, gs, rfl, _⟩
          · exact ⟨none, 0, rfl⟩
          · exact ⟨_, _, rfl⟩
        obtain ⟨rm, cm, hsm⟩ := hsm
        subst hsm
        simp only [go_sem, Nat.reduceLT, Nat.reduceEqDiff, ↓reduceIte, Nat.reduceAdd, Nat.zero_add, Nat.add_zero, Nat.reduceLeDiff, Int.reduceEq, Nat.reduceMul, List.take_zero, List.drop_succ_cons, List.drop_zero, List.nil_append, List.append_nil, List.drop_nil, List.take_succ_cons, List.take_nil, List.cons_append, Int.toNat_natCast, Int.toNat_zero, Int.toNat_one, t0, t1, t6, t50, t51, t52, hd]
        refine codeW_loop (fun nn τ X => ∃ k, nn = marks.length - k ∧ k ≤ marks.length ∧ tget τ 0 = .slice (some ⟨ia, 0, none⟩) regs.length ca ∧ tget τ 6 = .pointer (some ⟨H.next + 3, 0, none⟩) ∧ tget τ 64 = .slice rm marks.length cm ∧
          tget τ 65 = .int .i64 marks.length ∧ tget τ 66 = .int .i64 (k : Nat) ∧ KeepLo H.next H X ∧ ConfM X H.next (H.next + 3) regs (geosFrom 32 regs).1 (geosFrom 32 regs).2 (marks.take k) ∧ marksErr regs [] marks = marksErr regs (marks.take k) (marks.drop k)) (n := marks.length) ⟨0, rfl, Nat.zero_le _, ?_, ?_, ?_, ?_, ?_, hK, hM, rfl⟩ ?_
        · simp only [go_sem, Nat.reduceLT, Nat.reduceEqDiff, ↓reduceIte, Nat.reduceAdd, Nat.zero_add, Nat.add_zero, Nat.reduceLeDiff, Int.reduceEq, Nat.reduceMul, t0]
        · simp only [go_sem, Nat.reduceLT, Nat.reduceEqDiff, ↓reduceIte, Nat.reduceAdd, Nat.zero_add, Nat.add_zero, Nat.reduceLeDiff, Int.reduceEq, Nat.reduceMul, t6]
        · simp only [go_sem, Nat.reduceLT, Nat.reduceEqDiff, ↓reduceIte, Nat.reduceAdd, Nat.zero_add, Nat.add_zero, Nat.reduceLeDiff, Int.reduceEq, Nat.reduceMul]
        · simp only [go_sem, Nat.reduceLT, Nat.reduceEqDiff, ↓reduceIte, Nat.reduceAdd, Nat.zero_add, Nat.add_zero, Nat.reduceLeDiff, Int.reduceEq, Nat.reduceMul]
        · simp only [go_sem, Nat.reduceLT, Nat.reduceEqDiff, ↓reduceIte, Nat.reduceAdd, Nat.zero_add, Nat.add_zero, Nat.reduceLeDiff, Int.reduceEq, Nat.reduceMul]; rfl
        clear hK hM hE t0 t1 t6 t50 t51 t52 xia hXl hia' hk hlt
        rintro nn τ X ⟨k, rfl, hk, t0, t6, t64, t65, t66, hK, hM, hE⟩
        have xia : X.get ia = some (.cells row ro par gs) := (hK.old ia hia).trans hrow
        have hXl := hK.le
        by_cases hlt : k < marks.length
        · rcases hm with ⟨rfl, _⟩ | ⟨im, cm', rowm, rom, parm, gsm, e0, hrowm, helm⟩
          · simp at hlt
          injection e0 with e1 _ e3
          subst e1; subst e3
          have him : im < H.next := AHeap.get_lt hrowm
          have xim : X.get im = some (.cells rowm rom parm gsm) := (hK.old im him).trans hrowm
          obtain ⟨m, hmk⟩ : ∃ m, marks[k]? = some m := ⟨_, List.getElem?_eq_getElem hlt⟩
          obtain ⟨g1, g2, g3, g4⟩ := hmw m (List.mem_of_getElem? hmk)
          obtain ⟨ma, mb⟩ := m
          simp only at g1 g2 g3 g4
          obtain ⟨e1, e2⟩ := helm k (ma, mb) hmk
          have hz : (0 : Int) ≤ (k : Int) := by omega
          have hd : (k : Int) < (marks.length : Int) := by omega
          have hw : IntKind.wrap .i64 ((k : Int) + 1) = ((k + 1 : Nat) : Int) := by rw [wrap64] <;> omega
          have hwa : IntKind.wrap .i64 ma = ma := by rw [wrap64] <;> omega
          have hwb : IntKind.wrap .i64 mb = mb := by rw [wrap64] <;> omega
          have hs : marksErr regs (marks.take k) (marks.drop k) = marksErr regs (marks.take k) ((ma, mb) :: marks.drop (k + 1)) := by rw [drop_at hmk]
          have hnext : marks.take (k + 1) = marks.take k ++ [(ma, mb)] := by rw [List.take_add_one, hmk]; rfl
          simp only [go_sem, Nat.reduceLT, Nat.reduceEqDiff, ↓reduceIte, Nat.reduceAdd, Nat.zero_add, Nat.add_zero, Nat.reduceLeDiff, Int.reduceEq, Nat.reduceMul, List.take_zero, List.drop_succ_cons, List.drop_zero, List.nil_append, List.append_nil, List.drop_nil, List.take_succ_cons, List.take_nil, List.cons_append, Int.toNat_natCast, Int.toNat_zero, Int.toNat_one, t0, t6, t64, t65, t66, xim, hz, hd, e1, e2, mkC]
          refine codeW_forget (fun τ Y => tget τ 0 = .slice (some ⟨ia, 0, none⟩) regs.length ca ∧ tget τ 6 = .pointer (some ⟨H.next + 3, 0, none⟩) ∧ tget τ 13 = .pointer (some ⟨X.next, 0, none⟩) ∧ tget τ 64 = .slice (some ⟨im, 0, none⟩) marks.length cm ∧
            tget τ 65 = .int .i64 marks.length ∧ tget τ 66 = .int .i64 (k : Nat) ∧ Keeps [] X Y ∧ Y.get X.next = some (.cells [.int .u8 ma, .int .u16 mb] false [] 0)) ?_ ?_
          · refine ⟨?_, ?_, ?_, ?_, ?_, ?_, ((Keeps.refl [] X).new' _).set' (i := X.next) (Nat.le_refl _) (by simp), ?_⟩
            · simp only [go_sem, Nat.reduceLT, Nat.reduceEqDiff, ↓reduceIte, Nat.reduceAdd, Nat.zero_add, Nat.add_zero, Nat.reduceLeDiff, Int.reduceEq, Nat.reduceMul, t0]
            · simp only [go_sem, Nat.reduceLT, Nat.reduceEqDiff, ↓reduceIte, Nat.reduceAdd, Nat.zero_add, Nat.add_zero, Nat.reduceLeDiff, Int.reduceEq, Nat.reduceMul, t6]
            · simp only [go_sem, Nat.reduceLT, Nat.reduceEqDiff, ↓reduceIte, Nat.reduceAdd, Nat.zero_add, Nat.add_zero, Nat.reduceLeDiff, Int.reduceEq, Nat.reduceMul]
            · simp only [go_sem, Nat.reduceLT, Nat.reduceEqDiff, ↓reduceIte, Nat.reduceAdd, Nat.zero_add, Nat.add_zero, Nat.reduceLeDiff, Int.reduceEq, Nat.reduceMul, t64]
            · simp only [go_sem, Nat.reduceLT, Nat.reduceEqDiff, ↓reduceIte, Nat.reduceAdd, Nat.zero_add, Nat.add_zero, Nat.reduceLeDiff, Int.reduceEq, Nat.reduceMul, t65]
            · simp only [go_sem, Nat.reduceLT, Nat.reduceEqDiff, ↓reduceIte, Nat.reduceAdd, Nat.zero_add, Nat.add_zero, Nat.reduceLeDiff, Int.reduceEq, Nat.reduceMul, t66]
            · simp only [go_sem, Nat.reduceLT, Nat.reduceEqDiff, ↓reduceIte, Nat.reduceAdd, Nat.zero_add, Nat.add_zero, Nat.reduceLeDiff, Int.reduceEq, Nat.reduceMul]
          clear t0 t6 t64 t65 t66
          rintro τ Y ⟨t0, t6, t13, t64, t65, t66, hXY, yx⟩
          have hKY := hK.trans (KeepLo.of hXY hXl)
          have hMY := hM.keeps hXY
          have yia : Y.get ia = some (.cells row ro par gs) := hXY.get xia (by simp)
          have ixl : H.next + 3 < X.next := by obtain ⟨⟨_, _, _, _, _, _, h, _⟩, _⟩ := hM; exact AHeap.get_lt h
          have hXn : X.next < Y.next := AHeap.get_lt yx
          have fail : ∀ (Z : AHeap), Keeps [] Y Z → Keeps [] H Z := fun Z hZ => by
            have h1 := hKY.trans (KeepLo.of hZ hKY.le)
            exact ⟨h1.le, fun j hj _ => h1.old j hj⟩
          refine codeW_any (cxS_ok s3_ok) inf20_22 (by kernel_rfl) fun _ => ?_
          by_cases c5 : (regs.length : Int) ≤ ma
          · have hv : newErr regs marks = 27 := by rw [hv0, hE, hs]; simp only [marksErr]; rw [if_pos (.inl c5)]
            simp only [inf20_22, go_sem, Nat.reduceLT, Nat.reduceEqDiff, ↓reduceIte, Nat.reduceAdd, Nat.zero_add, Nat.add_zero, Nat.reduceLeDiff, Int.reduceEq, Nat.reduceMul, List.take_zero, List.drop_succ_cons, List.drop_zero, List.nil_append, List.append_nil, List.drop_nil, List.take_succ_cons, List.take_nil, List.cons_append, Int.toNat_natCast, Int.toNat_zero, Int.toNat_one, t0, t6, t13, yx, hwa, hwb, c5, hv]
            exact fail _ (Keeps.refl _ _)
          by_cases c6 : mb < 1
          · have hv : newErr regs marks = 27 := by rw [hv0, hE, hs]; simp only [marksErr]; rw [if_pos (.inr (.inl c6))]
            simp only [inf20_22, go_sem, Nat.reduceLT, Nat.reduceEqDiff, ↓reduceIte, Nat.reduceAdd, Nat.zero_add, Nat.add_zero, Nat.reduceLeDiff, Int.reduceEq, Nat.reduceMul, List.take_zero, List.drop_succ_cons, List.drop_zero, List.nil_append, List.append_nil, List.drop_nil, List.take_succ_cons, List.take_nil, List.cons_append, Int.toNat_natCast, Int.toNat_zero, Int.toNat_one, t0, t6, t13, yx, hwa, hwb, c5, c6, hv]
            exact fail _ (Keeps.refl _ _)
          obtain ⟨p, rfl⟩ : ∃ p : Nat, ma = p := ⟨ma.toNat, by omega⟩
          obtain ⟨q, hq⟩ : ∃ q, regs[p]? = some q := ⟨_, List.getElem?_eq_getElem (by omega)⟩
          obtain ⟨w1, w2⟩ := hel.part p 4 1 q hq (by omega)
          have hgd : regs.getD p zeroReg = q := by simp [List.getD_eq_getElem?_getD, hq]
          have hzp : (0 : Int) ≤ (p : Int) := by omega
          have hpl : (p : Int) < (regs.length : Int) := by omega
          have hnode : row[p * 9 + 4]? = some (.int .i64 q.nodes) := by
            have h := congrArg (fun l => l[0]?) w1
            simp only [List.getElem?_take, List.getElem?_drop] at h
            simpa [RegD.cells] using h
          by_cases c7 : q.nodes < mb
          · have hv : newErr regs marks = 27 := by rw [hv0, hE, hs]; simp only [marksErr]; rw [if_pos (.inr (.inr (by simp only [Int.toNat_natCast, hgd]; exact c7)))]
            simp only [inf20_22, go_sem, Nat.reduceLT, Nat.reduceEqDiff, ↓reduceIte, Nat.reduceAdd, Nat.zero_add, Nat.add_zero, Nat.reduceLeDiff, Int.reduceEq, Nat.reduceMul, List.take_zero, List.drop_succ_cons, List.drop_zero, List.nil_append, List.append_nil, List.drop_nil, List.take_succ_cons, List.take_nil, List.cons_append, Int.toNat_natCast, Int.toNat_zero, Int.toNat_one, t0, t6, t13, yx, yia, hwa, hwb, c5, c6, c7, hzp, hpl, hnode, hv]
            exact fail _ (Keeps.refl _ _)
          simp only [inf20_22, go_sem, Nat.reduceLT, Nat.reduceEqDiff, ↓reduceIte, Nat.reduceAdd, Nat.zero_add, Nat.add_zero, Nat.reduceLeDiff, Int.reduceEq, Nat.reduceMul, List.take_zero, List.drop_succ_cons, List.drop_zero, List.nil_append, List.append_nil, List.drop_nil, List.take_succ_cons, List.take_nil, List.cons_append, Int.toNat_natCast, Int.toNat_zero, Int.toNat_one, t0, t6, t13, yx, yia, hwa, hwb, c5, c6, c7, hzp, hpl, hnode]
          obtain ⟨⟨it, inn, il, sr, smc, sg, yi, yit, yinn, yil, rsr, rsm, rsg, l1, l2, l3, d1, d2, d3⟩, hlow, hsame⟩ := hMY
          have hlk : (marks.take k).length = k := by simp; omega
          have hlook := look96 yit p mb
          refine codeW_any (cxS_ok s3_ok) inf20_24 (by kernel_rfl) fun _ => ?_
          cases c8 : (marks.take k).any fun x => (p : Int) == x.1 && mb == x.2
          rotate_left
          · have hv : newErr regs marks = 29 := by
              rw [hv0, hE, hs]; simp only [marksErr]
              rw [if_neg (by simp only [Int.toNat_natCast, hgd]; omega), if_pos c8]
            simp only [inf20_24, go_sem, Nat.reduceLT, Nat.reduceEqDiff, ↓reduceIte, Nat.reduceAdd, Nat.zero_add, Nat.add_zero, Nat.reduceLeDiff, Int.reduceEq, Nat.reduceMul, List.take_zero, List.drop_succ_cons, List.drop_zero, List.nil_append, List.append_nil, List.drop_nil, List.take_succ_cons, List.take_nil, List.cons_append, Int.toNat_natCast, Int.toNat_zero, Int.toNat_one, t0, t6, t13, yx, yi, hlook, c8, hv]
            exact fail _ (Keeps.refl _ _)
          have hs2 : marksErr regs (marks.take k) (marks.drop k) = marksErr regs (marks.take (k + 1)) (marks.drop (k + 1)) := by
            rw [hs, hnext]; simp only [marksErr]
            rw [if_neg (by simp only [Int.toNat_natCast, hgd]; omega), if_neg (by rw [c8]; simp)]
          simp only [inf20_24, go_sem, Nat.reduceLT, Nat.reduceEqDiff, ↓reduceIte, Nat.reduceAdd, Nat.zero_add, Nat.add_zero, Nat.reduceLeDiff, Int.reduceEq, Nat.reduceMul, List.take_zero, List.drop_succ_cons, List.drop_zero, List.nil_append, List.append_nil, List.drop_nil, List.take_succ_cons, List.take_nil, List.cons_append, Int.toNat_natCast, Int.toNat_zero, Int.toNat_one, t0, t6, t13, yx, yi, hlook, c8]
          have hup := update96 yit c8
          refine codeW_any (cxS_ok s3_ok) inf20_26 (by kernel_rfl) fun _ => ?_
          have itl : it < Y.next := AHeap.get_lt yit
          simp only [inf20_26, go_sem, Nat.reduceLT, Nat.reduceEqDiff, ↓reduceIte, Nat.reduceAdd, Nat.zero_add, Nat.add_zero, Nat.reduceLeDiff, Int.reduceEq, Nat.reduceMul, List.take_zero, List.drop_succ_cons, List.drop_zero, List.nil_append, List.append_nil, List.drop_nil, List.take_succ_cons, List.take_nil, List.cons_append, Int.toNat_natCast, Int.toNat_zero, Int.toNat_one, t0, t6, t13, yx, yi, hup]
          have hYN : KeepLo H.next Y (Y.set it (.map (entB (marks.take k ++ [((p : Int), mb)])) ((marks.take k).length + 1))) := ⟨by simp, fun j hj => by rw [AHeap.get_set _ _ _ _ itl, if_neg (by omega)]⟩
          refine codeW_forget (fun τ Z => tget τ 0 = .slice (some ⟨ia, 0, none⟩) regs.length ca ∧ tget τ 6 = .pointer (some ⟨H.next + 3, 0, none⟩) ∧ tget τ 13 = .pointer (some ⟨X.next, 0, none⟩) ∧ tget τ 64 = .slice (some ⟨im, 0, none⟩) marks.length cm ∧
            tget τ 65 = .int .i64 marks.length ∧ tget τ 66 = .int .i64 (k : Nat) ∧ Z.next = Y.next ∧ Z.get it = some (.map (entB (marks.take (k + 1))) (marks.take (k + 1)).length false) ∧ (∀ j, j ≠ it → Z.get j = Y.get j)) ?_ ?_
          · refine ⟨?_, ?_, ?_, ?_, ?_, ?_, ?_, ?_, ?_⟩
            · simp only [go_sem, Nat.reduceLT, Nat.reduceEqDiff, ↓reduceIte, Nat.reduceAdd, Nat.zero_add, Nat.add_zero, Nat.reduceLeDiff, Int.reduceEq, Nat.reduceMul, t0]
            · simp only [go_sem, Nat.reduceLT, Nat.reduceEqDiff, ↓reduceIte, Nat.reduceAdd, Nat.zero_add, Nat.add_zero, Nat.reduceLeDiff, Int.reduceEq, Nat.reduceMul, t6]
            · simp only [go_sem, Nat.reduceLT, Nat.reduceEqDiff, ↓reduceIte, Nat.reduceAdd, Nat.zero_add, Nat.add_zero, Nat.reduceLeDiff, Int.reduceEq, Nat.reduceMul, t13]
            · simp only [go_sem, Nat.reduceLT, Nat.reduceEqDiff, ↓reduceIte, Nat.reduceAdd, Nat.zero_add, Nat.add_zero, Nat.reduceLeDiff, Int.reduceEq, Nat.reduceMul, t64]
            · simp only [go_sem, Nat.reduceLT, Nat.reduceEqDiff, ↓reduceIte, Nat.reduceAdd, Nat.zero_add, Nat.add_zero, Nat.reduceLeDiff, Int.reduceEq, Nat.reduceMul, t65]
            · simp only [go_sem, Nat.reduceLT, Nat.reduceEqDiff, ↓reduceIte, Nat.reduceAdd, Nat.zero_add, Nat.add_zero, Nat.reduceLeDiff, Int.reduceEq, Nat.reduceMul, t66]
            · simp only [go_sem, Nat.reduceLT, Nat.reduceEqDiff, ↓reduceIte, Nat.reduceAdd, Nat.zero_add, Nat.add_zero, Nat.reduceLeDiff, Int.reduceEq, Nat.reduceMul]
            · rw [AHeap.get_set _ _ _ _ itl, if_pos rfl, hnext]; simp
            · intro j hj; rw [AHeap.get_set _ _ _ _ itl, if_neg (by omega)]
          clear t0 t6 t13 t64 t65 t66
          rintro τ Z ⟨t0, t6, t13, t64, t65, t66, zn, zit, zk⟩
          have nm : ∀ j o, Y.get j = some o → (∀ e c r, o ≠ .map e c r) → j ≠ it := fun j o h1 h2 e => by rw [e, yit] at h1; injection h1 with h1; exact h2 _ _ _ h1.symm
          have zi := (zk _ (nm _ _ yi (by intros; simp))).trans yi
          have zx := (zk _ (nm _ _ yx (by intros; simp))).trans yx
          have zinn := (zk _ (Ne.symm d1)).trans yinn
          have zil := (zk _ (Ne.symm d2)).trans yil
          have hil3 : H.next + 3 < Z.next := by omega
          have hx3 : X.next < Z.next := by omega
          have iA : ∀ k, H.next + 3 < Z.next + k := fun k => by omega
          have iB : ∀ k, H.next + 3 ≠ Z.next + k := fun k => by omega
          have iC : H.next + 3 ≠ Z.next := by omega
          have xA : ∀ k, X.next < Z.next + k := fun k => by omega
          have xB : ∀ k, X.next ≠ Z.next + k := fun k => by omega
          have xC : X.next ≠ Z.next := by omega
          have ix : H.next + 3 ≠ X.next := by omega
          have fin : ∀ (U : AHeap) (sm' : Value), Z.next ≤ U.next → (∀ j, j < H.next → U.get j = Z.get j) → U.get it = Z.get it → U.get inn = Z.get inn → U.get il = Z.get il →
              U.get (H.next + 3) = some (.cells [sr, .map (some it), sm', .map (some inn), .map (some il), sg, .int .i64 (geosFrom 32 regs).2] false [] 0) →
              RowS U H.next (H.next + 3) sm' (marks.take (k + 1)).length 2 ((marks.take (k + 1)).flatMap mkC) → (∀ b cs ro par sz, Z.get b = some (.cells cs ro par sz) → sz = 9 ∨ sz = 6 → U.get b = Z.get b) →
              KeepLo H.next H U ∧ ConfM U H.next (H.next + 3) regs (geosFrom 32 regs).1 (geosFrom 32 regs).2 (marks.take (k + 1)) := by
            intro U sm' f1 f2 f3 f4 f5 f6 f7 f8
            have rs : ∀ {s n sz cs}, sz = 9 ∨ sz = 6 → RowS Y H.next (H.next + 3) s n sz cs → RowS U H.next (H.next + 3) s n sz cs := by
              rintro s n sz cs hsz (h | ⟨b, par, a1, a2, a3, a4, a5⟩)
              · exact .inl h
              · have b1 := (zk _ (nm _ _ a3 (by intros; simp))).trans a3
                exact .inr ⟨b, par, a1, a2, (f8 _ _ _ _ _ b1 hsz).trans b1, a4, a5⟩
            refine ⟨⟨by have := hKY.le; omega, fun j hj => ?_⟩, ⟨it, inn, il, sr, sm', sg, f6, f3.trans zit, f4.trans zinn, f5.trans zil, rs (.inl rfl) rsr, f7, rs (.inr rfl) rsg, l1, l2, l3, d1, d2, d3⟩, hlow, hsame⟩
            rw [f2 j hj, zk j (by omega), hKY.old j hj]
          have w1 : it < Z.next := AHeap.get_lt zit
          have w2 : inn < Z.next := AHeap.get_lt zinn
          have w3 : il < Z.next := AHeap.get_lt zil
          have n1 : it ≠ H.next + 3 := fun e => by rw [e, zi] at zit; cases zit
          have n2 : inn ≠ H.next + 3 := fun e => by rw [e, zi] at zinn; cases zinn
          have n3 : il ≠ H.next + 3 := fun e => by rw [e, zi] at zil; cases zil
          refine codeW_any (cxS_ok s3_ok) inf20_27 (by kernel_rfl) fun hL => ?_
          rcases rsm with ⟨z1, rfl, z3⟩ | ⟨b, par, z1, rfl, z3, z4, z5⟩
          · rw [hlk] at z1
            subst z1
            simp only [inf20_27, go_sem, Nat.reduceLT, Nat.reduceEqDiff, ↓reduceIte, Nat.reduceAdd, Nat.zero_add, Nat.add_zero, Nat.reduceLeDiff, Int.reduceEq, Nat.reduceMul, List.take_zero, List.drop_succ_cons, List.drop_zero, List.nil_append, List.append_nil, List.drop_nil, List.take_succ_cons, List.take_nil, List.cons_append, Int.toNat_natCast, Int.toNat_zero, Int.toNat_one, t0, t6, t13, t64, t65, t66, zi, zx, hil3, hx3, iA, iB, iC, xA, xB, xC, ix, Ne.symm ix, hw]
            obtain ⟨u1, u2⟩ := fin (((Z.new (.cells [.int .u8 (p : Int), .int .u16 mb] false [] 2)).new (.cells [.int .u8 (p : Int), .int .u16 mb] false [] 2)).set (H.next + 3) (.cells [sr, .map (some it), .slice (some ⟨Z.next + 1, 0, none⟩) 1 (grow + 1), .map (some inn), .map (some il), sg, .int .i64 (geosFrom 32 regs).2] false [] 0)) (.slice (some ⟨Z.next + 1, 0, none⟩) 1 (grow + 1))
              (by simp only [go_sem, Nat.reduceLT, Nat.reduceEqDiff, ↓reduceIte, Nat.reduceAdd, Nat.zero_add, Nat.add_zero, Nat.reduceLeDiff, Int.reduceEq, Nat.reduceMul]) (fun j hj => by
                have a1 : j ≠ H.next + 3 := by omega
                have a2 : ∀ k, j ≠ Z.next + k := fun k => by omega
                have a3 : j ≠ Z.next := by omega
                simp only [go_sem, Nat.reduceLT, Nat.reduceEqDiff, ↓reduceIte, Nat.reduceAdd, Nat.zero_add, Nat.add_zero, Nat.reduceLeDiff, Int.reduceEq, Nat.reduceMul, a1, a2, a3, hil3, iA])
              (by
                have a2 : ∀ k, it ≠ Z.next + k := fun k => by omega
                have a3 : it ≠ Z.next := by omega
                simp only [go_sem, Nat.reduceLT, Nat.reduceEqDiff, ↓reduceIte, Nat.reduceAdd, Nat.zero_add, Nat.add_zero, Nat.reduceLeDiff, Int.reduceEq, Nat.reduceMul, a2, a3, n1, hil3, iA])
              (by
                have a2 : ∀ k, inn ≠ Z.next + k := fun k => by omega
                have a3 : inn ≠ Z.next := by omega
                simp only [go_sem, Nat.reduceLT, Nat.reduceEqDiff, ↓reduceIte, Nat.reduceAdd, Nat.zero_add, Nat.add_zero, Nat.reduceLeDiff, Int.reduceEq, Nat.reduceMul, a2, a3, n2, hil3, iA])
              (by
                have a2 : ∀ k, il ≠ Z.next + k := fun k => by omega
                have a3 : il ≠ Z.next := by omega
                simp only [go_sem, Nat.reduceLT, Nat.reduceEqDiff, ↓reduceIte, Nat.reduceAdd, Nat.zero_add, Nat.add_zero, Nat.reduceLeDiff, Int.reduceEq, Nat.reduceMul, a2, a3, n3, hil3, iA])
              (by simp only [go_sem, Nat.reduceLT, Nat.reduceEqDiff, ↓reduceIte, Nat.reduceAdd, Nat.zero_add, Nat.add_zero, Nat.reduceLeDiff, Int.reduceEq, Nat.reduceMul, hil3, iA])
              (by
                rw [hnext]
                refine .inr ⟨Z.next + 1, [], by simp, by simp, ?_, by omega, by omega⟩
                have a1 : Z.next + 1 ≠ H.next + 3 := by omega
                simp only [go_sem, Nat.reduceLT, Nat.reduceEqDiff, ↓reduceIte, Nat.reduceAdd, Nat.zero_add, Nat.add_zero, Nat.reduceLeDiff, Int.reduceEq, Nat.reduceMul, hil3, iA, a1, List.take_zero, List.nil_append, List.flatMap_cons, List.flatMap_nil, List.append_nil, mkC])
              (fun b cs ro par sz hb hsz => by
                have hbl := AHeap.get_lt hb
                have a1 : b ≠ H.next + 3 := fun e => by rw [e, zi] at hb; injection hb with hb; injection hb with _ _ _ h; omega
                have a2 : ∀ k, b ≠ Z.next + k := fun k => by omega
                have a3 : b ≠ Z.next := by omega
                simp only [go_sem, Nat.reduceLT, Nat.reduceEqDiff, ↓reduceIte, Nat.reduceAdd, Nat.zero_add, Nat.add_zero, Nat.reduceLeDiff, Int.reduceEq, Nat.reduceMul, hil3, iA, a1, a2, a3])
            exact ⟨marks.length - 1, by omega, 1, rfl, hlt, rfl, u1, u2, by rw [hE, hs2]⟩
          · have zb := (zk b (nm _ _ z3 (by intros; simp))).trans z3
            have hbZ : b < Z.next := AHeap.get_lt zb
            have b1 : b ≠ H.next + 3 := fun e => by rw [e, zi] at zb; injection zb with zb; injection zb with _ _ _ h; omega
            have b2 : b ≠ X.next := fun e => by rw [e, zx] at zb; injection zb with zb; injection zb with _ _ _ h; omega
            have bA : ∀ k, b < Z.next + k := fun k => by omega
            have bB : ∀ k, b ≠ Z.next + k := fun k => by omega
            have bC : b ≠ Z.next := by omega
            have hlen : (marks.take k).length * 2 = ((marks.take k).flatMap mkC).length := (flat_len (f := mkC) (fun _ => rfl) _).symm
            have a1 := fun o vs => appW_more (sz := 2) (by_ := 4) (n := 1) (l := (marks.take k).length) (b := b) (vs := vs) (cs := (marks.take k).flatMap mkC) (par := par) (H := Z.new o) (by omega) (by rw [get_new_old o (by omega)]; exact zb) hlen (by omega) (by unfold grow; omega)
            have hgr : Grew Z := by obtain ⟨μ, a, w, hR, _⟩ := hL; exact hR.grew
            have pr := hgr b _ zb
            have p1 : H.next + 3 ∉ par := fun h => by have := (pr _ h).2 _ zi; cases this
            have p2 : X.next ∉ par := fun h => by have := (pr _ h).2 _ zx; cases this
            simp only [inf20_27, go_sem, Nat.reduceLT, Nat.reduceEqDiff, ↓reduceIte, Nat.reduceAdd, Nat.zero_add, Nat.add_zero, Nat.reduceLeDiff, Int.reduceEq, Nat.reduceMul, List.take_zero, List.drop_succ_cons, List.drop_zero, List.nil_append, List.append_nil, List.drop_nil, List.take_succ_cons, List.take_nil, List.cons_append, Int.toNat_natCast, Int.toNat_zero, Int.toNat_one, t0, t6, t13, t64, t65, t66, zi, zx, zb, hil3, hx3, iA, iB, iC, xA, xB, xC, ix, Ne.symm ix, hw, a1, hbZ, bA, bB, bC, b1, b2, Ne.symm b1, Ne.symm b2, z5, Ne.symm z5, p1, p2]
            have e0 : b ≠ it := fun e => by rw [e, zit] at zb; cases zb
            have e1 : b ≠ inn := fun e => by rw [e, zinn] at zb; cases zb
            have e2 : b ≠ il := fun e => by rw [e, zil] at zb; cases zb
            obtain ⟨u1, u2⟩ := fin ((((Z.new (.cells [.int .u8 (p : Int), .int .u16 mb] false [] 2)).set b (.cells ((marks.take k).flatMap mkC) true par 2)).new (.cells ((marks.take k).flatMap mkC ++ [.int .u8 (p : Int), .int .u16 mb]) false (b :: par) 2)).set (H.next + 3) (.cells [sr, .map (some it), .slice (some ⟨Z.next + 1, 0, none⟩) ((marks.take k).length + 1) (grow + ((marks.take k).length + 1)), .map (some inn), .map (some il), sg, .int .i64 (geosFrom 32 regs).2] false [] 0)) (.slice (some ⟨Z.next + 1, 0, none⟩) ((marks.take k).length + 1) (grow + ((marks.take k).length + 1)))
              (by simp only [go_sem, Nat.reduceLT, Nat.reduceEqDiff, ↓reduceIte, Nat.reduceAdd, Nat.zero_add, Nat.add_zero, Nat.reduceLeDiff, Int.reduceEq, Nat.reduceMul]) (fun j hj => by
                have a1 : j ≠ H.next + 3 := by omega
                have a2 : ∀ k, j ≠ Z.next + k := fun k => by omega
                have a3 : j ≠ Z.next := by omega
                have a4 : j ≠ b := by omega
                simp only [go_sem, Nat.reduceLT, Nat.reduceEqDiff, ↓reduceIte, Nat.reduceAdd, Nat.zero_add, Nat.add_zero, Nat.reduceLeDiff, Int.reduceEq, Nat.reduceMul, a1, a2, a3, a4, hil3, iA, hbZ, bA])
              (by
                have a2 : ∀ k, it ≠ Z.next + k := fun k => by omega
                have a3 : it ≠ Z.next := by omega
                simp only [go_sem, Nat.reduceLT, Nat.reduceEqDiff, ↓reduceIte, Nat.reduceAdd, Nat.zero_add, Nat.add_zero, Nat.reduceLeDiff, Int.reduceEq, Nat.reduceMul, a2, a3, n1, hil3, iA, hbZ, bA, Ne.symm e0])
              (by
                have a2 : ∀ k, inn ≠ Z.next + k := fun k => by omega
                have a3 : inn ≠ Z.next := by omega
                simp only [go_sem, Nat.reduceLT, Nat.reduceEqDiff, ↓reduceIte, Nat.reduceAdd, Nat.zero_add, Nat.add_zero, Nat.reduceLeDiff, Int.reduceEq, Nat.reduceMul, a2, a3, n2, hil3, iA, hbZ, bA, Ne.symm e1])
              (by
                have a2 : ∀ k, il ≠ Z.next + k := fun k => by omega
                have a3 : il ≠ Z.next := by omega
                simp only [go_sem, Nat.reduceLT, Nat.reduceEqDiff, ↓reduceIte, Nat.reduceAdd, Nat.zero_add, Nat.add_zero, Nat.reduceLeDiff, Int.reduceEq, Nat.reduceMul, a2, a3, n3, hil3, iA, hbZ, bA, Ne.symm e2])
              (by simp only [go_sem, Nat.reduceLT, Nat.reduceEqDiff, ↓reduceIte, Nat.reduceAdd, Nat.zero_add, Nat.add_zero, Nat.reduceLeDiff, Int.reduceEq, Nat.reduceMul, hil3, iA, hbZ, bA])
              (by
                rw [hnext]
                refine .inr ⟨Z.next + 1, b :: par, by simp, by simp, ?_, by omega, by omega⟩
                have a1 : Z.next + 1 ≠ H.next + 3 := by omega
                simp only [go_sem, Nat.reduceLT, Nat.reduceEqDiff, ↓reduceIte, Nat.reduceAdd, Nat.zero_add, Nat.add_zero, Nat.reduceLeDiff, Int.reduceEq, Nat.reduceMul, hil3, iA, a1, hbZ, bA, List.flatMap_append, List.flatMap_cons, List.flatMap_nil, List.append_nil, mkC])
              (fun b' cs ro par' sz hb hsz => by
                have hbl := AHeap.get_lt hb
                have a1 : b' ≠ H.next + 3 := fun e => by rw [e, zi] at hb; injection hb with hb; injection hb with _ _ _ h; omega
                have a2 : ∀ k, b' ≠ Z.next + k := fun k => by omega
                have a3 : b' ≠ Z.next := by omega
                have a4 : b' ≠ b := fun e => by rw [e, zb] at hb; injection hb with hb; injection hb with _ _ _ h; omega
                simp only [go_sem, Nat.reduceLT, Nat.reduceEqDiff, ↓reduceIte, Nat.reduceAdd, Nat.zero_add, Nat.add_zero, Nat.reduceLeDiff, Int.reduceEq, Nat.reduceMul, hil3, iA, a1, a2, a3, a4, hbZ, bA])
            exact ⟨marks.length - (k + 1), by omega, k + 1, rfl, hlt, rfl, u1, u2, by rw [hE, hs2]⟩
        · have hk' : k = marks.length := by omega
          subst hk'
          have hd : ¬ ((marks.length : Int) < (marks.length : Int)) := by omega
          rw [List.drop_length] at hE
          have hv : newErr regs marks = 0 := by rw [hv0, hE]; rfl
          obtain ⟨ir, ig, hI⟩ := hM.isConf (by omega) hnl
          simp only [go_sem, Nat.reduceLT, Nat.reduceEqDiff, ↓reduceIte, Nat.reduceAdd, Nat.zero_add, Nat.add_zero, Nat.reduceLeDiff, Int.reduceEq, Nat.reduceMul, List.take_zero, List.drop_succ_cons, List.drop_zero, List.nil_append, List.append_nil, List.drop_nil, List.take_succ_cons, List.take_nil, List.cons_append, Int.toNat_natCast, Int.toNat_zero, Int.toNat_one, t0, t6, t64, t65, t66, hd, hv]
          exact ⟨⟨hK.le, fun j hj _ => hK.old j hj⟩, .inr ⟨H.next + 3, ir, ig, rfl, hI⟩⟩
end Go.Proofs.YtkjclebafpomhaaDoor
