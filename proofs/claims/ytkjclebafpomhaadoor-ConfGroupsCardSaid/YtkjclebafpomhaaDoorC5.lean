/- Maps whose keys are texts, labels, marks; labels held against each other. -/
import Derived.Test.YtkjclebafpomhaaDoorC4
set_option linter.unusedVariables false
set_option linter.unusedSimpArgs false
set_option maxRecDepth 100000
namespace Go.Proofs.YtkjclebafpomhaaDoor
open Go Go.Eng

theorem und36 : Tryd.prog.underlying 36 = some (.struct #[{ name := "Level", type := 5, offset := 0, embedded := false, tag := "", pkgPath := "", byteOffset := 0 }, { name := "Cats", type := 34, offset := 1, embedded := false, tag := "", pkgPath := "", byteOffset := 2 }]) := by kernel_rfl
theorem und5 : Tryd.prog.underlying 5 = some (.int .u8) := by kernel_rfl
theorem und34 : Tryd.prog.underlying 34 = some (.int .u16) := by kernel_rfl
theorem eqInt (d : Nat) (t : TypeId) (k : IntKind) (k' : IntKind) (a b : Int) (h : Tryd.prog.underlying t = some (.int k')) : prun Tryd.prog (Op.equalIn (d + 1) t (.int k a) (.int k b)) = some (a == b) := by
  unfold Op.equalIn
  simp only [prun_bind, prun_underlying h, Option.bind_some]
  rfl
theorem stood36 : Tryd.prog.stoodInHeld 36 = false := by kernel_rfl
theorem part_at (t : TypeId) (k : IntKind) (ht : Tryd.prog.underlying t = some (.int k)) (l : Array Value) (o : Nat) (v : Value) (h : l[o]? = some v) : prun Tryd.prog (part t l o) = some v := by
  unfold part isAgg
  simp only [prun_bind, prun_underlying ht, Option.bind_some]
  rw [h]
  rfl
theorem und48 : Tryd.prog.underlying 48 = some (.struct #[{ name := "Lab", type := 5, offset := 0, embedded := false, tag := "", pkgPath := "", byteOffset := 0 }, { name := "Num", type := 34, offset := 1, embedded := false, tag := "", pkgPath := "", byteOffset := 2 }]) := by kernel_rfl
theorem stood48 : Tryd.prog.stoodInHeld 48 = false := by kernel_rfl
theorem eq36 (a b c d : Int) : prun Tryd.prog (Op.equal 36 (.agg #[.int .u8 a, .int .u16 b]) (.agg #[.int .u8 c, .int .u16 d])) = some ((a == c) && (b == d)) := by
  show prun Tryd.prog (Op.equalIn 10000 36 _ _) = _
  unfold Op.equalIn
  simp only [prun_bind, prun_underlying und36, Option.bind_some, prun_program, stood36]
  simp only [Bool.false_eq_true, if_false, List.forIn_toArray, List.forIn_cons, List.forIn_nil, prun_bind]
  have n1 : ("Level" ≠ "_") = True := by simp
  have n2 : ("Cats" ≠ "_") = True := by simp
  simp only [n1, n2, if_true, prun_bind, part_at 5 _ und5 #[Value.int IntKind.u8 a, Value.int IntKind.u16 b] 0 (.int .u8 a) rfl, part_at 5 _ und5 #[Value.int IntKind.u8 c, Value.int IntKind.u16 d] 0 (.int .u8 c) rfl, part_at 34 _ und34 #[Value.int IntKind.u8 a, Value.int IntKind.u16 b] 1 (.int .u16 b) rfl, part_at 34 _ und34 #[Value.int IntKind.u8 c, Value.int IntKind.u16 d] 1 (.int .u16 d) rfl, Option.bind_some]
  have e1 : prun Tryd.prog (Op.equalIn 9999 5 (.int .u8 a) (.int .u8 c)) = some (a == c) := eqInt 9998 5 .u8 .u8 a c und5
  have e2 : prun Tryd.prog (Op.equalIn 9999 34 (.int .u16 b) (.int .u16 d)) = some (b == d) := eqInt 9998 34 .u16 .u16 b d und34
  rw [e1]
  cases (a == c)
  · rfl
  · simp only [Option.bind_some, Bool.not_true, Bool.false_eq_true, if_false, prun_pure, prun_bind, part_at 34 _ und34 #[Value.int IntKind.u8 a, Value.int IntKind.u16 b] 1 (.int .u16 b) rfl, part_at 34 _ und34 #[Value.int IntKind.u8 c, Value.int IntKind.u16 d] 1 (.int .u16 d) rfl, e2]
    cases (b == d) <;> rfl
theorem eq48 (a b c d : Int) : prun Tryd.prog (Op.equal 48 (.agg #[.int .u8 a, .int .u16 b]) (.agg #[.int .u8 c, .int .u16 d])) = some ((a == c) && (b == d)) := by
  show prun Tryd.prog (Op.equalIn 10000 48 _ _) = _
  unfold Op.equalIn
  simp only [prun_bind, prun_underlying und48, Option.bind_some, prun_program, stood48]
  simp only [Bool.false_eq_true, if_false, List.forIn_toArray, List.forIn_cons, List.forIn_nil, prun_bind]
  have n1 : ("Lab" ≠ "_") = True := by simp
  have n2 : ("Num" ≠ "_") = True := by simp
  simp only [n1, n2, if_true, prun_bind, part_at 5 _ und5 #[Value.int IntKind.u8 a, Value.int IntKind.u16 b] 0 (.int .u8 a) rfl, part_at 5 _ und5 #[Value.int IntKind.u8 c, Value.int IntKind.u16 d] 0 (.int .u8 c) rfl, part_at 34 _ und34 #[Value.int IntKind.u8 a, Value.int IntKind.u16 b] 1 (.int .u16 b) rfl, part_at 34 _ und34 #[Value.int IntKind.u8 c, Value.int IntKind.u16 d] 1 (.int .u16 d) rfl, Option.bind_some]
  have e1 : prun Tryd.prog (Op.equalIn 9999 5 (.int .u8 a) (.int .u8 c)) = some (a == c) := eqInt 9998 5 .u8 .u8 a c und5
  have e2 : prun Tryd.prog (Op.equalIn 9999 34 (.int .u16 b) (.int .u16 d)) = some (b == d) := eqInt 9998 34 .u16 .u16 b d und34
  rw [e1]
  cases (a == c)
  · rfl
  · simp only [Option.bind_some, Bool.not_true, Bool.false_eq_true, if_false, prun_pure, prun_bind, part_at 34 _ und34 #[Value.int IntKind.u8 a, Value.int IntKind.u16 b] 1 (.int .u16 b) rfl, part_at 34 _ und34 #[Value.int IntKind.u8 c, Value.int IntKind.u16 d] 1 (.int .u16 d) rfl, e2]
    cases (b == d) <;> rfl

/-! ### Entries, in the order in which they came -/
def ents {α : Type} (kf : α → Value) (l : List α) : List MapEntry := l.zipIdx.map fun p => { key := kf p.1, val := .int .i64 p.2, born := p.2 }
theorem ents_append {α : Type} (kf : α → Value) (l : List α) (a : α) : ents kf (l ++ [a]) = ents kf l ++ [{ key := kf a, val := .int .i64 l.length, born := l.length }] := by
  unfold ents
  rw [List.zipIdx_append, List.map_append]
  simp
theorem ents_length {α : Type} (kf : α → Value) (l : List α) : (ents kf l).length = l.length := by simp [ents]
theorem ents_mem {α : Type} {kf : α → Value} {l : List α} {e : MapEntry} (h : e ∈ ents kf l) : ∃ (a : α) (i : Nat), l[i]? = some a ∧ e = { key := kf a, val := .int .i64 i, born := i } := by
  unfold ents at h
  obtain ⟨⟨a, i⟩, h1, rfl⟩ := List.mem_map.1 h
  exact ⟨a, i, by have := List.mem_zipIdx_iff_getElem?.1 h1; simpa using this, rfl⟩
/-- Whether a key is there, and where. -/
def spot {α : Type} (eq : α → Bool) : List α → Nat → Option Nat
  | [], _ => none
  | a :: l, i => if eq a then some i else spot eq l (i + 1)
theorem spot_some {α : Type} {eq : α → Bool} : ∀ (l : List α) (i j : Nat), spot eq l i = some j → i ≤ j ∧ ∃ a, l[j - i]? = some a ∧ eq a = true := by
  intro l
  induction l with
  | nil => intro i j h; cases h
  | cons a l ih =>
    intro i j h
    simp only [spot] at h
    split at h
    · rename_i he; injection h with h; subst h; exact ⟨Nat.le_refl _, a, by simp, he⟩
    · obtain ⟨h1, b, h2, h3⟩ := ih _ _ h
      refine ⟨by omega, b, ?_, h3⟩
      rw [show j - i = (j - (i + 1)) + 1 by omega]
      simpa using h2
theorem spot_any {α : Type} (eq : α → Bool) : ∀ (l : List α) (i : Nat), (spot eq l i).isSome = l.any eq := by
  intro l
  induction l with
  | nil => intro i; rfl
  | cons a l ih =>
    intro i
    simp only [spot, List.any_cons]
    split
    · rename_i h; simp [h]
    · rename_i h; rw [ih]; simp [h]
theorem spot_none {α : Type} {eq : α → Bool} {l : List α} {i : Nat} (h : l.any eq = false) : spot eq l i = none := by
  have := spot_any eq l i
  rw [h] at this
  cases hs : spot eq l i with
  | none => rfl
  | some j => rw [hs] at this; cases this

theorem findNow_ents (s : ByteArray) : ∀ (l : List (ByteArray × Nat)) (i : Nat), aFindNow .string (.string s) (l.map fun p => ({ key := .string p.1, val := .int .i64 p.2, born := p.2 } : MapEntry)) i = some (spot (fun x => s == x.1) l i) := by
  intro l
  induction l with
  | nil => intro i; rfl
  | cons a l ih =>
    intro i
    simp only [List.map_cons, aFindNow, spot]
    rw [if_pos (show flat 2 (.string a.1) = true from rfl)]
    have e : Instr.sameNow .string (.string s) (.string a.1) = some (s == a.1) := rfl
    rw [e]
    by_cases h : (s == a.1) = true
    · rw [if_pos h, h]
    · rw [if_neg h, Bool.eq_false_iff.2 h]
      simp only
      rw [ih]
theorem spot_map {α β : Type} (f : α → β) (eq : β → Bool) : ∀ (l : List α) (i : Nat), spot eq (l.map f) i = spot (fun a => eq (f a)) l i := by
  intro l
  induction l with
  | nil => intro i; rfl
  | cons a l ih => intro i; simp only [List.map_cons, spot, ih]
theorem spot_zip {α : Type} (eq : α → Bool) : ∀ (l : List α) (i k : Nat), spot (fun p : α × Nat => eq p.1) (l.zipIdx k) i = spot eq l i := by
  intro l
  induction l with
  | nil => intro i k; rfl
  | cons a l ih => intro i k; simp only [List.zipIdx_cons, spot, ih]
theorem findAsk_ents {α : Type} (t : TypeId) (kf : α → Value) (k : Value) (eq : α → Bool) (hf : ∀ a, flat 2 (kf a) = true) (he : ∀ a, prun Tryd.prog (Op.equal t k (kf a)) = some (eq a)) : ∀ (l : List α) (es : List MapEntry) (i : Nat), es.map (·.key) = l.map kf → aFindAsk Tryd.prog t k es i = some (spot eq l i) := by
  intro l
  induction l with
  | nil => intro es i h; cases es with | nil => rfl | cons e es => cases h
  | cons a l ih =>
    intro es i h
    cases es with
    | nil => cases h
    | cons e es =>
      simp only [List.map_cons, List.cons.injEq] at h
      simp only [aFindAsk, spot, h.1]
      rw [if_pos (hf a), he a]
      cases eq a with
      | true => simp
      | false => simp only []; rw [ih es _ h.2]; simp
theorem ents_keys {α : Type} (kf : α → Value) (l : List α) : (ents kf l).map (·.key) = l.map kf := by
  unfold ents
  rw [List.map_map]
  have : ((fun x : MapEntry => x.key) ∘ fun p : α × Nat => ({ key := kf p.1, val := .int .i64 p.2, born := p.2 } : MapEntry)) = kf ∘ Prod.fst := rfl
  rw [this, ← List.map_map, List.zipIdx_map_fst]
theorem find97 (s : ByteArray) (l : List ByteArray) : aFind Tryd.prog tb 9 (.string s) (ents .string l) = some (spot (fun x => s == x) l 0) := by
  have h : tb.und 9 = some .string := by kernel_rfl
  unfold aFind
  rw [h]
  show aFindNow .string (.string s) (ents .string l) 0 = _
  unfold ents
  rw [findNow_ents, spot_zip]
def labV (p : Int × Int) : Value := .agg #[.int .u8 p.1, .int .u16 p.2]
theorem find98 (a b : Int) (l : List (Int × Int)) : aFind Tryd.prog tb 36 (labV (a, b)) (ents labV l) = some (spot (fun x => (a == x.1) && (b == x.2)) l 0) := by
  have h : tb.und 36 = Tryd.prog.underlying 36 := rfl
  unfold aFind
  rw [h, und36]
  show aFindAsk Tryd.prog 36 (labV (a, b)) (ents labV l) 0 = _
  exact findAsk_ents 36 labV _ _ (fun _ => rfl) (fun x => eq36 a b x.1 x.2) l _ 0 (ents_keys _ _)
theorem find96 (a b : Int) (l : List (Int × Int)) (es : List MapEntry) (hk : es.map (·.key) = l.map labV) : aFind Tryd.prog tb 48 (labV (a, b)) es = some (spot (fun x => (a == x.1) && (b == x.2)) l 0) := by
  have h : tb.und 48 = Tryd.prog.underlying 48 := rfl
  unfold aFind
  rw [h, und48]
  show aFindAsk Tryd.prog 48 (labV (a, b)) es 0 = _
  exact findAsk_ents 48 labV _ _ (fun _ => rfl) (fun x => eq48 a b x.1 x.2) l es 0 hk

theorem und97 : tb.und 97 = some (.map 9 3) := by kernel_rfl
theorem und98 : tb.und 98 = some (.map 36 3) := by kernel_rfl
theorem und96 : tb.und 96 = some (.map 48 4) := by kernel_rfl
theorem chk9 (e : Bool) (s : ByteArray) : prun Tryd.prog (Instr.checkKey e 10000 9 (.string s)) = some () := by cases e <;> kernel_rfl
theorem chk36 (e : Bool) (a b : Int) : prun Tryd.prog (Instr.checkKey e 10000 36 (.agg #[.int .u8 a, .int .u16 b])) = some () := by cases e <;> kernel_rfl
theorem chk48 (e : Bool) (a b : Int) : prun Tryd.prog (Instr.checkKey e 10000 48 (.agg #[.int .u8 a, .int .u16 b])) = some () := by cases e <;> kernel_rfl

theorem look97 {H : AHeap} {r ck : Nat} {ro : Bool} {l : List ByteArray} (hg : H.get r = some (.map (ents .string l) ck ro)) (s : ByteArray) : ∃ v, aLookup Tryd.prog tb 97 (.map (some r)) (.string s) true H = some (.tuple #[v, .bool (l.any fun x => s == x)]) := by
  have hz : zeroT tb 3 = some (.int .i64 0) := by kernel_rfl
  unfold aLookup
  simp only [und97, hg, chk9, find97]
  rw [if_pos (show flat 2 (.string s) = true from rfl)]
  have := spot_any (fun x => s == x) l 0
  cases h : spot (fun x => s == x) l 0 with
  | none =>
    rw [h] at this
    rw [← this]
    exact ⟨_, by simp only [hz, Option.map_some, if_true]; rfl⟩
  | some j =>
    rw [h] at this
    rw [← this]
    exact ⟨_, by simp only [if_true]; rfl⟩
theorem look98 {H : AHeap} {r ck : Nat} {ro : Bool} {l : List (Int × Int)} (hg : H.get r = some (.map (ents labV l) ck ro)) (a b : Int) : ∃ v, aLookup Tryd.prog tb 98 (.map (some r)) (.agg #[.int .u8 a, .int .u16 b]) true H = some (.tuple #[v, .bool (l.any fun x => (a == x.1) && (b == x.2))]) := by
  have hz : zeroT tb 3 = some (.int .i64 0) := by kernel_rfl
  have hf := find98 a b l
  unfold labV at hf
  unfold aLookup
  simp only [und98, hg, chk36]
  have hf : aFind Tryd.prog tb 36 (.agg #[.int .u8 a, .int .u16 b]) (ents labV l) = _ := hf
  rw [if_pos (show flat 2 (.agg #[.int .u8 a, .int .u16 b]) = true from rfl), hf]
  have := spot_any (fun x : Int × Int => (a == x.1) && (b == x.2)) l 0
  cases h : spot (fun x : Int × Int => (a == x.1) && (b == x.2)) l 0 with
  | none =>
    rw [h] at this
    rw [← this]
    exact ⟨_, by simp only [hz, Option.map_some, if_true]; rfl⟩
  | some j =>
    rw [h] at this
    rw [← this]
    exact ⟨_, by simp only [if_true]; rfl⟩
theorem entry97 {H : AHeap} {r : Nat} {l : List ByteArray} (hg : H.get r = some (.map (ents .string l) l.length false)) {s : ByteArray} (hn : (l.any fun x => s == x) = false) :
    aMapEntry Tryd.prog tb 97 (.map (some r)) (.string s) H = some (.tuple #[.int .i64 0, .int .i64 l.length], H.set r (.map (ents .string l ++ [{ key := .string s, val := .int .i64 0, born := l.length }]) (l.length + 1))) := by
  have hz : zeroT tb 3 = some (.int .i64 0) := by kernel_rfl
  unfold aMapEntry
  simp only [und97, hg, chk9, find97, spot_none hn, hz, Option.map_some]
  rw [if_pos (show flat 2 (.string s) = true from rfl)]
theorem entry98 {H : AHeap} {r : Nat} {l : List (Int × Int)} (hg : H.get r = some (.map (ents labV l) l.length false)) {a b : Int} (hn : (l.any fun x => (a == x.1) && (b == x.2)) = false) :
    aMapEntry Tryd.prog tb 98 (.map (some r)) (.agg #[.int .u8 a, .int .u16 b]) H = some (.tuple #[.int .i64 0, .int .i64 l.length], H.set r (.map (ents labV l ++ [{ key := .agg #[.int .u8 a, .int .u16 b], val := .int .i64 0, born := l.length }]) (l.length + 1))) := by
  have hz : zeroT tb 3 = some (.int .i64 0) := by kernel_rfl
  have hf := find98 a b l
  have hf : aFind Tryd.prog tb 36 (.agg #[.int .u8 a, .int .u16 b]) (ents labV l) = _ := hf
  unfold aMapEntry
  simp only [und98, hg, chk36, hf, spot_none hn, hz, Option.map_some]
  rw [if_pos (show flat 2 (.agg #[.int .u8 a, .int .u16 b]) = true from rfl)]
theorem bornAt_last (n : Nat) (e : MapEntry) (he : e.born = n) : ∀ (es : List MapEntry) (i : Nat), (∀ x ∈ es, x.born ≠ n) → bornAt (n : Int) (es ++ [e]) i = some (i + es.length) := by
  intro es
  induction es with
  | nil =>
    intro i _
    simp only [List.nil_append, bornAt, he, beq_self_eq_true, if_true, List.length_nil, Nat.add_zero]
  | cons x es ih =>
    intro i h
    have hx := h x (List.mem_cons_self ..)
    simp only [List.cons_append, bornAt]
    rw [if_neg (by simp; omega), ih _ (fun y hy => h y (List.mem_cons_of_mem _ hy))]
    simp; omega
theorem emod_last (es : List MapEntry) (e : MapEntry) (f : MapEntry → MapEntry) : emod (es ++ [e]) es.length f = es ++ [f e] := by
  unfold emod
  simp
theorem estore {α : Type} {H : AHeap} {r ck : Nat} {kf : α → Value} {l : List α} {k v0 v : Value} (hg : H.get r = some (.map (ents kf l ++ [{ key := k, val := v0, born := l.length }]) ck false)) :
    aEntryStore (.map (some r)) (.int .i64 l.length) v H = some (H.set r (.map (ents kf l ++ [{ key := k, val := v, born := l.length }]) ck)) := by
  unfold aEntryStore
  simp only [hg]
  have hb := bornAt_last l.length { key := k, val := v0, born := l.length } rfl (ents kf l) 0 (fun x hx => by
    obtain ⟨a, i, h1, rfl⟩ := ents_mem hx
    have := (List.getElem?_eq_some_iff.1 h1).1
    simp; omega)
  rw [hb]
  simp only [Option.map_some, Nat.zero_add]
  rw [ents_length, show l.length = (ents kf l).length by rw [ents_length], emod_last]
/-- Two labels held against each other. -/
theorem neq36 (ox oy : Operand) (H : AHeap) (a b c d : Int) : aBinF Tryd.prog tb .neq 36 ox oy (.agg #[.int .u8 a, .int .u16 b]) (.agg #[.int .u8 c, .int .u16 d]) H = some (.bool !((a == c) && (b == d))) := by
  have hq : prun Tryd.prog (eqGuard .neq 36 ox oy (.agg #[.int .u8 a, .int .u16 b]) (.agg #[.int .u8 c, .int .u16 d])) = some () := by
    have : (Tryd.prog).eqGuardType (Tryd.prog).depth 36 = false := by kernel_rfl
    unfold eqGuard
    simp [this]
  have e : prun Tryd.prog (do eqGuard .neq 36 ox oy (.agg #[.int .u8 a, .int .u16 b]) (.agg #[.int .u8 c, .int .u16 d]); binOp .neq 36 (.agg #[.int .u8 a, .int .u16 b]) (.agg #[.int .u8 c, .int .u16 d])) = some (.bool !((a == c) && (b == d))) := by
    simp only [prun_bind, hq, Option.bind_some]
    have h2 : binOp .neq 36 (.agg #[.int .u8 a, .int .u16 b]) (.agg #[.int .u8 c, .int .u16 d]) = (do pure (.bool (!(← Op.equal 36 (.agg #[.int .u8 a, .int .u16 b]) (.agg #[.int .u8 c, .int .u16 d]))))) := rfl
    rw [h2]
    simp only [prun_bind, eq36, Option.bind_some, prun_pure]
  unfold aBinF aBin
  rw [if_pos (by rfl), e]
  rfl
end Go.Proofs.YtkjclebafpomhaaDoor
