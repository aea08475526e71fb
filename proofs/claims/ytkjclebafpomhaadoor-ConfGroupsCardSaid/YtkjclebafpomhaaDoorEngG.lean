/- The engine, part 7: conversions, arithmetic, comparisons, lengths. -/
import Derived.Test.YtkjclebafpomhaaDoorEngF
set_option linter.unusedVariables false
set_option linter.unusedSimpArgs false
namespace Go.Eng
open Go
section
variable {P : Program} {G : Nat} {μ : Mu} {H : AHeap} {w : World} {T : Tb}

/-! ### make -/
def aMakeSlice (T : Tb) (t : TypeId) (len cap : Value) (H : AHeap) : Option (Value × AHeap) :=
  match T.und t, len, cap with
  | some (.slice e), .int _ l, .int _ c =>
    match T.info e, zeroT T e with
    | some i, some z =>
      if 0 < i.size ∧ 0 ≤ l ∧ l ≤ c ∧ c < 9223372036854775808 ∧ i.bytes * c ≤ 281474976710656 then
        (aNew (zeros z c.toNat) i.size H).map fun r => (.slice (some ⟨H.next, 0, none⟩) l.toNat c.toNat, r.2)
      else none
    | _, _ => none
  | _, _, _ => none

theorem aMakeSlice_ok (hT : TbOK P T) (hR : Rel G μ H w) {t : TypeId} {len len' cap cap' : Value} {r : Value × AHeap} (h1 : VRel μ len len') (h2 : VRel μ cap cap') (h : aMakeSlice T t len cap H = some r) :
    Snd P G μ H w (Instr.makeSlice t len' cap') r := by
  unfold aMakeSlice at h
  split at h
  · rename_i e k l k' c hu
    cases h1
    cases h2
    split at h
    · rename_i i z hi hz
      have hzz : i.zero = some z := by simpa [zeroT, hi] using hz
      obtain ⟨f1, f2, f3⟩ := hT.zero e i z hi hzz
      split at h
      · rename_i hc
        obtain ⟨b0, b1, b2, b3, b4⟩ := hc
        obtain ⟨q, hq, rfl⟩ := Option.map_eq_some_iff.1 h
        have hza := zeros_arr (μ := μ) z c.toNat (by omega) (LRel.flat (zeros_flat f1 c.toNat))
        obtain ⟨w', μ', g1, g2, g3, g4, g5⟩ := aNew_ok (P := P) (e := e) (gs := i.size) hR hza hq
        have hwl : IntKind.i64.wrap l = l := by
          simp [IntKind.wrap, IntKind.bits, IntKind.signed]; omega
        have hwc : IntKind.i64.wrap c = c := by
          simp [IntKind.wrap, IntKind.bits, IntKind.signed]; omega
        refine ⟨.slice (some ⟨w.heap.size, 0, none⟩) l.toNat c.toNat, w', μ', ?_, ?_, g3, g4⟩
        · have hn1 : ¬ (c < 0) := by omega
          have hn2 : ¬ (l < 0) := by omega
          have hn3 : ¬ (c < l) := by omega
          have hn4 : ¬ (281474976710656 < (i.bytes : Int) * c) := by omega
          have g1' : (newRow e (Array.map (fun x => z.cells[x % z.cells.size]!) (Array.range (c.toNat * i.size)))).run P w = .ok ⟨w.heap.size, 0, none⟩ w' := by
            rw [← f2]; rw [Array.toArray_toList] at g1; exact g1
          by_cases h0 : c.toNat * i.size = 0
          · rw [h0] at g1'
            have r0 : Array.range 0 = #[] := Array.eq_empty_of_size_eq_zero (by simp)
            rw [r0] at g1'
            have g1'' : (newRow e #[]).run P w = .ok ⟨w.heap.size, 0, none⟩ w' := by simpa using g1'
            simp only [Instr.makeSlice, Sem.run_bind, run_und hT hu, Result.andThen_ok, asInt, asIntOf, pure_bind, run_info hT hi, hwl, hwc, Sem.run_pure, run_size hT hi, h0, run_askRoom]
            simp [hn1, hn2, hn3, hn4, run_size hT hi, h0, g1'', r0]
          · simp only [Instr.makeSlice, Sem.run_bind, run_und hT hu, Result.andThen_ok, asInt, asIntOf, pure_bind, run_info hT hi, hwl, hwc, Sem.run_pure, run_size hT hi, h0, run_askRoom]
            simp [hn1, hn2, hn3, hn4, run_size hT hi, h0, run_zero hT hi hzz, g1']
        · rw [g5]
          have hlt : c.toNat < grow := by unfold grow; omega
          have := VRel.slice (μ := μ.upd H.next ⟨w.heap.size, 0, ((Array.range (c.toNat * z.cells.size)).map (fun x => z.cells[x % z.cells.size]!)).toList.length, i.size⟩) (o := 0) (l := l.toNat) (c := c.toNat) (c' := c.toNat) (Mu.upd_same H.next _) ⟨by omega, hlt, .inl ⟨hlt, rfl⟩⟩
          simpa using this
      · cases h
    · cases h
  · cases h

/-! ### Conversions -/
def bytesOf : List Value → Option (List UInt8)
  | [] => some []
  | .int .u8 n :: l => (bytesOf l).map fun r => UInt8.ofNat n.toNat :: r
  | _ => none

def aConv (T : Tb) (src dst : TypeId) (x : Value) (H : AHeap) : Option (Value × AHeap) :=
  match T.und src, T.und dst, x with
  | some _, some (.int k), .int _ n => some (.int k (k.wrap n), H)
  | some _, some .string, .string s => some (.string s, H)
  | some (.slice e), some .string, .slice none _ _ => (match T.und e with | some (.int .u8) => some (.string .empty, H) | _ => none)
  | some (.slice e), some .string, .slice (some a) l c =>
    (match T.und e with
     | some (.int .u8) => if c = empt then none else (loadN H a l).bind fun vs => (bytesOf vs).map fun bs => (.string ⟨bs.toArray⟩, H)
     | _ => none)
  | some _, some (.slice e), .string s =>
    (match T.und e with
     | some (.int .u8) => if s.size < grow then (aNew (s.data.toList.map fun b => .int .u8 b.toNat) 1 H).map fun r => (.slice (some ⟨H.next, 0, none⟩) s.size (grow + s.size), r.2) else none
     | _ => none)
  | _, _, _ => none

theorem bytesOf_flat : ∀ (vs : List Value) (bs : List UInt8), bytesOf vs = some bs → vs.all (flat 0) = true := by
  intro vs
  induction vs with
  | nil => intros; rfl
  | cons v vs ih =>
    intro bs h
    unfold bytesOf at h
    split at h
    · rename_i heq; cases heq
    · rename_i n l heq
      injection heq with e1 e2
      subst e1; subst e2
      obtain ⟨bs', hb, rfl⟩ := Option.map_eq_some_iff.1 h
      simp only [List.all_cons, Bool.and_eq_true]
      exact ⟨rfl, ih bs' hb⟩
    · cases h

theorem bytesOf_run (P : Program) (f : Value → ByteArray → Sem (ForInStep ByteArray)) (hf : ∀ n r, f (.int .u8 n) r = pure (ForInStep.yield (r.push (UInt8.ofNat n.toNat)))) :
    ∀ (vs : List Value) (bs : List UInt8), bytesOf vs = some bs → ∀ (s : ByteArray) (w : World), (forIn (m := Sem) vs s f).run P w = .ok ⟨(s.data.toList ++ bs).toArray⟩ w := by
  intro vs
  induction vs with
  | nil =>
    intro bs h s w
    injection h with h
    subst h
    simp
  | cons v vs ih =>
    intro bs h s w
    unfold bytesOf at h
    split at h
    · rename_i heq; cases heq
    · rename_i n l heq
      injection heq with e1 e2
      subst e1; subst e2
      obtain ⟨bs', hb, rfl⟩ := Option.map_eq_some_iff.1 h
      simp only [List.forIn_cons, hf, Sem.run_bind, Sem.run_pure, Result.andThen_ok]
      rw [ih bs' hb]
      simp [ByteArray.push]
    · cases h

theorem freeze_new (w : World) (C : Array Value) (e : TypeId) : (w.drew.alloc (.cells C e)).freeze ⟨w.heap.size, C.size, none⟩ 1 =
    { w with drawn := w.drawn + 1, heap := w.heap.push (.cells C e (C.size, C.size + 1)) } := by
  unfold World.freeze World.alloc World.drew
  rw [if_neg (by omega)]
  congr 1
  apply Array.ext
  · simp
  · intro i h1 h2
    simp only [Array.getElem_modify]
    split
    · rename_i e1
      subst e1
      simp
    · rename_i e1
      simp only [Array.size_push] at h2
      rw [Array.getElem_push_lt (by omega), Array.getElem_push_lt (by omega)]

theorem aConv_ok (hT : TbOK P T) (hR : Rel G μ H w) {src dst : TypeId} {x x' : Value} {r : Value × AHeap} (hx : VRel μ x x') (h : aConv T src dst x H = some r) : Snd P G μ H w (convert src dst x') r := by
  unfold aConv at h
  split at h
  · rename_i d k k' n hs hd
    injection h with h
    subst h
    cases hx
    refine Snd.same hR (v' := .int k (k.wrap n)) ?_ (.int _ _)
    simp [convert, run_und hT hs, run_und hT hd, Conv.intToInt]
  · rename_i d s hs hd
    injection h with h
    subst h
    cases hx
    refine Snd.same hR (v' := .string s) ?_ (.string _)
    simp [convert, run_und hT hs, run_und hT hd]
  · rename_i e l c hs hd
    cases hx
    split at h
    · rename_i he
      injection h with h
      subst h
      refine Snd.same hR (v' := .string .empty) ?_ (.string _)
      simp [convert, run_und hT hs, run_und hT hd, run_und hT he, Conv.bytesToString]
    · cases h
  · rename_i e a l c hs hd
    split at h
    · rename_i he
      split at h
      · cases h
      · rename_i hc
        obtain ⟨vs, hvs, h⟩ := Option.bind_eq_some_iff.1 h
        obtain ⟨bs, hbs, rfl⟩ := Option.map_eq_some_iff.1 h
        cases hx with
        | empty => exact absurd rfl hc
        | @slice i0 o _ _ c' p hp hcap =>
          obtain ⟨vs', k1, k2, k3, k4, k5⟩ := load_cells (P := P) hR hp hvs
          have hb' : bytesOf vs' = some bs := by
            rw [k1.flat_eq (bytesOf_flat vs bs hbs)]; exact hbs
          refine Snd.same hR (v' := .string ⟨bs.toArray⟩) ?_ (.string _)
          simp only [convert, Sem.run_bind, run_und hT hs, run_und hT hd, run_und hT he, Result.andThen_ok, Conv.bytesToString, k5 w rfl, List.forIn_toArray]
          rw [bytesOf_run P _ (fun _ _ => rfl) vs' bs hb' .empty w]
          rfl
    · cases h
  · rename_i d e s hs hd
    cases hx
    split at h
    · rename_i he
      split at h
      case isFalse => cases h
      rename_i hsz
      obtain ⟨q, hq, rfl⟩ := Option.map_eq_some_iff.1 h
      unfold aNew at hq
      have hfl : (s.data.toList.map fun b => Value.int .u8 b.toNat).all (flat 0) = true := List.all_eq_true.2 fun x hx => by
        obtain ⟨b, _, rfl⟩ := List.mem_map.1 hx
        rfl
      rw [if_pos (all_one hfl)] at hq
      injection hq with hq
      subst hq
      obtain ⟨c', hc'⟩ : ∃ c', c' = (Question.appendCap s.size 0 e).cut (w.tape w.drawn (.appendCap s.size 0 e)) := ⟨_, rfl⟩
      have hn : s.size ≤ c' := by rw [hc']; simp [Question.cut]
      have hlt : c' < grow := by
        rw [hc']
        simp only [Question.cut]
        have := Nat.mod_lt (w.tape w.drawn (.appendCap s.size 0 e)) (show 0 < 2 ^ 63 - s.size by unfold grow at hsz; omega)
        unfold grow at *
        omega
      let C : Array Value := (s.data.map fun b => Value.int .u8 b.toNat) ++ Array.replicate (c' - s.size) (.int .u8 0)
      have hC : C.size = c' := by simp [C]; omega
      have hrun : (convert src dst (.string s)).run P w = .ok (.slice (some ⟨w.heap.size, 0, none⟩) s.size c') { w with drawn := w.drawn + 1, heap := w.heap.push (.cells C e (C.size, C.size + 1)) } := by
        rw [← freeze_new]
        have hsh : (w.drew.alloc (.cells C e)).shape? w.heap.size = some (e, C.size) := by
          have : (w.drew.alloc (.cells C e)).heap[w.heap.size]? = some (.cells C e (0, 0)) := by show (w.heap.push _)[w.heap.size]? = _; simp
          simp only [World.shape?, this]
        simp only [convert, Sem.run_bind, run_und hT hs, run_und hT hd, run_und hT he, Result.andThen_ok, Conv.stringToBytes, run_choose, Question.forced, Bool.false_eq_true, if_false, ← hc']
        have hnr : (newRow e C).run P w.drew = .ok ⟨w.heap.size, 0, none⟩ (w.drew.alloc (.cells C e)) := rfl
        show ((newRow e C).run P w.drew).andThen _ = _
        rw [hnr]
        simp [markStringish, hsh]
      have ho : ObjRel μ (.cells (s.data.toList.map fun b => Value.int .u8 b.toNat) false [] 1) (.cells C e (C.size, C.size + 1)) ⟨w.heap.size, 0, C.size, 1⟩ := by
        refine .cells rfl rfl (by simp [hC]; omega) (fun i hi => ?_) (fun x hx => flat_one (List.all_eq_true.1 hfl x hx)) (fun _ j _ hj => by omega) (fun e => by cases e)
        have hi' : i < s.size := by simpa using hi
        have e1 : (s.data.toList.map fun b => Value.int .u8 b.toNat).getD i undef = C.getD (0 + i) undef := by
          simp [C, Array.getD_eq_getD_getElem?, List.getD_eq_getElem?_getD, Array.getElem?_append, hi']
        rw [← e1]
        refine flat_rel 0 _ ?_
        have e2 := List.all_eq_true.1 hfl _ (List.getElem_mem (h := hi))
        have e3 : ∀ (l : List Value) (hi : i < l.length), l.getD i undef = l[i] := fun l hi => by simp [List.getD_eq_getElem?_getD, hi]
        rw [e3 _ hi]
        exact e2
      obtain ⟨k1, k2⟩ := hR.push0 (w' := { w with drawn := w.drawn + 1, heap := w.heap.push (.cells C e (C.size, C.size + 1)) }) ho rfl rfl rfl rfl rfl rfl
      refine ⟨_, _, _, hrun, ?_, k1, k2⟩
      have := VRel.slice (μ := μ.upd H.next ⟨w.heap.size, 0, C.size, 1⟩) (o := 0) (l := s.size) (c := grow + s.size) (c' := c') (Mu.upd_same H.next _)
        ⟨hn, hlt, .inr ⟨by omega, by unfold grow empt at *; omega, by omega, by simp [hC]⟩⟩
      simpa using this
    · cases h
  · cases h

end
end Go.Eng
