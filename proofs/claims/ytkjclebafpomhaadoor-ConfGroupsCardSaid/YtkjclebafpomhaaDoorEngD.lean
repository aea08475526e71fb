/- The engine, part 4: structs, arrays, slices and addresses. -/
import Derived.Test.YtkjclebafpomhaaDoorEngC
set_option linter.unusedVariables false
set_option linter.unusedSimpArgs false
namespace Go.Eng
open Go
section
variable {P : Program} {G : Nat} {μ : Mu} {H : AHeap} {w : World} {T : Tb}

/-! ### Filling a row -/
def afill (place : Nat → Option (Nat × Nat)) : List Value → List (Nat × Value) → Option (List Value)
  | cs, [] => some cs
  | cs, (i, v) :: rest =>
    match place i with
    | none => none
    | some (off, size) => if (vcells v).length = size ∧ off + size ≤ cs.length ∧ known v = true then afill place (splice cs off (vcells v)) rest else none

theorem foldl_set (off : Nat) : ∀ (l : List Value) (k : Nat) (c : Array Value), off + k + l.length ≤ c.size →
    ∃ c', (l.zipIdx k).foldl (fun cs x => cs.setIfInBounds (off + x.2) x.1) c = c' ∧ c'.size = c.size ∧
      ∀ j, c'.getD j undef = if off + k ≤ j ∧ j < off + k + l.length then l.getD (j - (off + k)) undef else c.getD j undef := by
  intro l
  induction l with
  | nil => intro k c _; exact ⟨c, rfl, rfl, fun j => by rw [if_neg (by simp only [List.length_nil]; omega)]⟩
  | cons v l ih =>
    intro k c h
    simp only [List.length_cons] at h
    obtain ⟨c', h1, h2, h3⟩ := ih (k + 1) (c.setIfInBounds (off + k) v) (by simp; omega)
    refine ⟨c', by simpa using h1, by simpa using h2, fun j => ?_⟩
    rw [h3 j]
    simp only [List.length_cons]
    by_cases e1 : j = off + k
    · subst e1
      rw [if_neg (by omega), if_pos (by omega)]
      simp [Array.getD_eq_getD_getElem?, show off + k < c.size by omega]
    · by_cases e2 : off + (k + 1) ≤ j ∧ j < off + (k + 1) + l.length
      · rw [if_pos e2, if_pos (by omega), show j - (off + k) = (j - (off + (k + 1))) + 1 by omega]
        simp
      · rw [if_neg e2, if_neg (by omega)]
        simp [Array.getD_eq_getD_getElem?, Array.getElem?_setIfInBounds_ne (Ne.symm e1)]

/-- Parts: the same places, related values. -/
inductive PRel (μ : Mu) : List (Nat × Value) → List (Nat × Value) → Prop
  | nil : PRel μ [] []
  | cons (i : Nat) {v v' : Value} {l l' : List (Nat × Value)} : VRel μ v v' → PRel μ l l' → PRel μ ((i, v) :: l) ((i, v') :: l')

theorem lgetD_toArray (l : List Value) (i : Nat) : l.toArray.getD i undef = l.getD i undef := by simp [Array.getD_eq_getD_getElem?, List.getD_eq_getElem?_getD]
theorem agetD_toList (l : Array Value) (i : Nat) : l.toList.getD i undef = l.getD i undef := by simp [Array.getD_eq_getD_getElem?, List.getD_eq_getElem?_getD]

theorem afill_ok {place : Nat → Option (Nat × Nat)} : ∀ {parts parts' : List (Nat × Value)} {cs out : List Value} {cs' : Array Value}, PRel μ parts parts' → LRel μ cs cs'.toList →
    afill place cs parts = some out → ∃ out', Instr.fill place cs' parts' = some out' ∧ LRel μ out out'.toList := by
  intro parts parts' cs out cs' hp
  induction hp generalizing cs cs' with
  | nil => intro hl h; injection h with h; subst h; exact ⟨cs', rfl, hl⟩
  | @cons i v v' l l' hv _ ih =>
    intro hl h
    simp only [afill] at h
    split at h
    · cases h
    · rename_i off size hpl
      split at h
      · rename_i hc
        obtain ⟨hc1, hc2, hc3⟩ := hc
        have hc : (vcells v).length = size ∧ off + size ≤ cs.length := ⟨hc1, hc2⟩
        have hvc := hv.cells hc3
        have hs1 : v'.cells.size = size := by rw [← hc.1, hvc.1]; simp [vcells]
        have hs2 : cs'.size = cs.length := by rw [hl.1]; simp
        obtain ⟨c2, k1, k2, k3⟩ := foldl_set off v'.cells.toList 0 cs' (by simp; omega)
        have hrel : LRel μ (splice cs off (vcells v)) c2.toList := by
          refine ⟨by rw [splice_length (by omega)]; simp; omega, fun j hj => ?_⟩
          rw [splice_length (by omega)] at hj
          rw [splice_getD (by omega), agetD_toList c2, k3 j]
          simp only [Nat.add_zero]
          by_cases e : off ≤ j ∧ j < off + (vcells v).length
          · rw [if_pos e, if_pos (by rw [hvc.1] at e; simpa [vcells] using e)]
            exact hvc.2 _ (by omega)
          · rw [if_neg e, if_neg (by rw [hvc.1] at e; simpa [vcells] using e)]
            have := hl.2 j hj
            rwa [agetD_toList cs'] at this
        obtain ⟨out', q1, q2⟩ := ih hrel h
        refine ⟨out', ?_, q2⟩
        unfold Instr.fill
        rw [hpl]
        simp only
        rw [if_neg (by simp; omega)]
        have : (v'.cells.zipIdx.foldl (fun cs x => cs.setIfInBounds (off + x.2) x.1) cs') = c2 := by
          rw [← k1, ← Array.foldl_toList]
          simp
        rw [← q1, ← this]
      · cases h

/-! ### Fields' places -/
def places (T : Tb) (fs : List Field) : Option (List (Nat × Nat)) := fs.mapM fun f => (T.info f.type).map fun i => (f.offset, i.size)
theorem run_mapM {α β : Type} (f : α → Sem β) (w : World) : ∀ (l : List α) (ys : List β), l.length = ys.length → (∀ (i : Nat) x y, l[i]? = some x → ys[i]? = some y → (f x).run P w = .ok y w) → (l.mapM f).run P w = .ok ys w := by
  intro l
  induction l with
  | nil => intro ys h _; cases ys with | nil => rfl | cons y ys => cases h
  | cons x l ih =>
    intro ys h hf
    cases ys with
    | nil => cases h
    | cons y ys =>
      have h0 := hf 0 x y rfl rfl
      have := ih ys (by simpa using h) (fun i x y hx hy => hf (i + 1) x y (by simpa using hx) (by simpa using hy))
      simp [List.mapM_cons, h0, this]
theorem optMapM {α β : Type} (f : α → Option β) : ∀ (l : List α) (ys : List β), l.mapM f = some ys → l.length = ys.length ∧ ∀ (i : Nat) x y, l[i]? = some x → ys[i]? = some y → f x = some y := by
  intro l
  induction l with
  | nil => intro ys h; simp at h; subst h; exact ⟨rfl, fun i x y h => by simp at h⟩
  | cons x l ih =>
    intro ys h
    simp only [List.mapM_cons, Option.bind_eq_bind, Option.pure_def, Option.bind_eq_some_iff, Option.some.injEq] at h
    obtain ⟨y, hy, ys', hys, rfl⟩ := h
    obtain ⟨h1, h2⟩ := ih ys' hys
    refine ⟨by simp [h1], fun i a b ha hb => ?_⟩
    cases i with
    | zero => simp at ha hb; subst ha; subst hb; exact hy
    | succ i => exact h2 i a b (by simpa using ha) (by simpa using hb)
theorem places_run' (hT : TbOK P T) {fs : Array Field} {ps : List (Nat × Nat)} (h : places T fs.toList = some ps) :
    (fs.mapM fun f => Prod.mk f.offset <$> sizeOf f.type : Sem (Array (Nat × Nat))).run P w = .ok ps.toArray w := by
  obtain ⟨h1, h2⟩ := optMapM _ _ _ h
  rw [Array.mapM_eq_mapM_toList]
  have := run_mapM (P := P) (fun f : Field => (Prod.mk f.offset <$> sizeOf f.type : Sem (Nat × Nat))) w fs.toList ps h1 (fun i x y hx hy => by
    obtain ⟨inf, hi, rfl⟩ := Option.map_eq_some_iff.1 (h2 i x y hx hy)
    simp [run_size hT hi])
  simp [this]

def aBuild (T : Tb) (t : TypeId) (parts : List (Nat × Value)) : Option Value :=
  match zeroT T t with
  | none => none
  | some z =>
    match T.und t with
    | some (.struct fs) => (places T fs.toList).bind fun ps => (afill (fun i => ps[i]?) (vcells z) parts).map fun cs => .agg cs.toArray
    | some (.array _ e) => (T.info e).bind fun i => (afill (fun k => some (k * i.size, i.size)) (vcells z) parts).map fun cs => .agg cs.toArray
    | _ => none

theorem aBuild_ok (hT : TbOK P T) (hR : Rel G μ H w) {t : TypeId} {parts : List (Nat × Value)} {parts' : Array (Nat × Value)} {v : Value} (hp : PRel μ parts parts'.toList) (h : aBuild T t parts = some v) :
    Snd P G μ H w (Instr.build t parts') (v, H) := by
  unfold aBuild at h
  split at h
  · cases h
  · rename_i z hz
    have hzr : VRel μ z z := zero_rel hT hz
    split at h
    · rename_i fs hu
      obtain ⟨ps, hps, h⟩ := Option.bind_eq_some_iff.1 h
      obtain ⟨cs, hcs, rfl⟩ := Option.map_eq_some_iff.1 h
      obtain ⟨out', k1, k2⟩ := afill_ok (cs' := z.cells) hp (hzr.cells (zero_known hT hz)) hcs
      refine Snd.same hR (v' := .agg out') ?_ (VRel.agg (by simpa using k2.1) (by simpa using k2.arr.2))
      simp [Instr.build, zero_run hT hz, run_und hT hu, places_run' hT hps, k1]
    · rename_i n e hu
      obtain ⟨inf, hi, h⟩ := Option.bind_eq_some_iff.1 h
      obtain ⟨cs, hcs, rfl⟩ := Option.map_eq_some_iff.1 h
      obtain ⟨out', k1, k2⟩ := afill_ok (cs' := z.cells) hp (hzr.cells (zero_known hT hz)) hcs
      refine Snd.same hR (v' := .agg out') ?_ (VRel.agg (by simpa using k2.1) (by simpa using k2.arr.2))
      simp [Instr.build, zero_run hT hz, run_und hT hu, run_size hT hi, k1]
    · cases h

/-- So many zero elements. -/
def zeros (z : Value) : Nat → List Value
  | 0 => []
  | n + 1 => vcells z ++ zeros z n
theorem zeros_length (z : Value) (n : Nat) : (zeros z n).length = n * (vcells z).length := by
  induction n with
  | zero => simp [zeros]
  | succ n ih => simp [zeros, ih, Nat.succ_mul, Nat.add_comm]
theorem zeros_getD (z : Value) (n i : Nat) (h : i < n * (vcells z).length) : (zeros z n).getD i undef = (vcells z).getD (i % (vcells z).length) undef := by
  induction n generalizing i with
  | zero => simp at h
  | succ n ih =>
    simp only [zeros, List.getD_eq_getElem?_getD]
    by_cases e : i < (vcells z).length
    · rw [List.getElem?_append_left e, Nat.mod_eq_of_lt e]
    · rw [List.getElem?_append_right (Nat.le_of_not_lt e)]
      have h' : i - (vcells z).length < n * (vcells z).length := by rw [Nat.succ_mul] at h; omega
      have := ih _ h'
      simp only [List.getD_eq_getElem?_getD] at this
      rw [this]
      congr 2
      have : i = (i - (vcells z).length) + (vcells z).length := by omega
      conv => rhs; rw [this]
      simp
theorem zeros_arr (z : Value) (n : Nat) (hz : 0 < z.cells.size) : LRel μ (zeros z n) (zeros z n) → LRel μ (zeros z n) ((Array.range (n * z.cells.size)).map (fun x => z.cells[x % z.cells.size]!)).toList := by
  intro h
  have e : (vcells z).length = z.cells.size := by simp [vcells]
  refine ⟨by rw [zeros_length, e]; simp, fun i hi => ?_⟩
  have h2 := h.2 i hi
  rw [zeros_length, e] at hi
  have hlt : i % z.cells.size < z.cells.size := Nat.mod_lt _ hz
  have e2 : ((Array.range (n * z.cells.size)).map (fun x => z.cells[x % z.cells.size]!)).toList.getD i undef = (zeros z n).getD i undef := by
    rw [zeros_getD z n i (by rw [e]; exact hi), e]
    simp [List.getD_eq_getElem?_getD, hi, vcells, hlt]
  rw [e2]
  exact h2
theorem zeros_flat {z : Value} (h : z.cells.toList.all (flat 0) = true) (n : Nat) : (zeros z n).all (flat 0) = true := by
  induction n with
  | zero => rfl
  | succ n ih => simp only [zeros, List.all_append, Bool.and_eq_true]; exact ⟨h, ih⟩

def aBuildSlice (T : Tb) (t : TypeId) (len : Nat) (parts : List (Nat × Value)) (H : AHeap) : Option (Value × AHeap) :=
  match T.und t with
  | some (.slice e) =>
    match T.info e, zeroT T e with
    | some i, some z =>
      if 0 < i.size ∧ len * i.size ≤ 16777216 then
        (afill (fun k => some (k * i.size, i.size)) (zeros z len) parts).bind fun cs => (aNew cs i.size H).map fun r => (.slice (some ⟨H.next, 0, none⟩) len len, r.2)
      else none
    | _, _ => none
  | _ => none

theorem aBuildSlice_ok (hT : TbOK P T) (hR : Rel G μ H w) {t : TypeId} {len : Nat} {parts : List (Nat × Value)} {parts' : Array (Nat × Value)} {r : Value × AHeap} (hp : PRel μ parts parts'.toList)
    (h : aBuildSlice T t len parts H = some r) : Snd P G μ H w (Instr.buildSlice t len parts') r := by
  unfold aBuildSlice at h
  split at h
  · rename_i e hu
    split at h
    · rename_i inf z hi hz
      split at h
      · rename_i hc
        obtain ⟨cs, hcs, h⟩ := Option.bind_eq_some_iff.1 h
        obtain ⟨q, hq, rfl⟩ := Option.map_eq_some_iff.1 h
        have hzz : ∃ i, T.info e = some i ∧ i.zero = some z := by
          unfold zeroT at hz; exact Option.bind_eq_some_iff.1 hz
        obtain ⟨i2, hi2, hz2⟩ := hzz
        obtain rfl : i2 = inf := by rw [hi2] at hi; injection hi
        obtain ⟨f1, f2, f3⟩ := hT.zero e i2 z hi2 hz2
        have hza := zeros_arr (μ := μ) z len (by omega) (LRel.flat (zeros_flat f1 len))
        obtain ⟨out', k1, k2⟩ := afill_ok hp hza hcs
        obtain ⟨w', μ', h1, h2, h3, h4, h5⟩ := aNew_ok (P := P) (e := e) (gs := i2.size) hR k2 hq
        have hlen : len < grow := by
          have := Nat.le_mul_of_pos_right len hc.1
          unfold grow; omega
        refine ⟨.slice (some ⟨w.heap.size, 0, none⟩) len len, w', μ', ?_, ?_, h3, h4⟩
        · have h1' : (newRow e out').run P w = .ok ⟨w.heap.size, 0, none⟩ w' := by simpa using h1
          have hbig : ¬ (len * i2.size > 2 ^ 24) := by omega
          have k1' : Instr.fill (fun k => some (k * i2.size, i2.size)) (Array.map (fun x => z.cells[x % z.cells.size]!) (Array.range (len * i2.size))) parts'.toList = some out' := by
            rw [← k1, f2]
          by_cases h0 : len * i2.size = 0
          · have e0 : len = 0 := by
              rcases Nat.mul_eq_zero.1 h0 with h | h
              · exact h
              · omega
            subst e0
            simp only [Nat.zero_mul] at k1'
            have k2' : Instr.fill (fun k => some (k * i2.size, i2.size)) #[] parts'.toList = some out' := by
              have e0 : Array.map (fun x => z.cells[x % z.cells.size]!) (Array.range 0) = #[] := Array.eq_empty_of_size_eq_zero (by simp)
              rwa [e0] at k1'
            have r0 : Array.range 0 = #[] := Array.eq_empty_of_size_eq_zero (by simp)
            simp [r0, Instr.buildSlice, run_und hT hu, run_size hT hi, k2', h1']
          · simp [Instr.buildSlice, run_und hT hu, run_size hT hi, zero_run hT hz, h0, hbig, k1', h1']
        · rw [h5]
          have := VRel.slice (μ := μ.upd H.next ⟨w.heap.size, 0, out'.toList.length, i2.size⟩) (o := 0) (l := len) (c := len) (c' := len) (Mu.upd_same H.next _) ⟨Nat.le_refl _, hlen, .inl ⟨hlen, rfl⟩⟩
          simpa using this
      · cases h
    · cases h
  · cases h

/-! ### Addresses -/
def aFieldAddr (T : Tb) (s : TypeId) (x : Value) (f : Nat) : Option Value :=
  match T.und s, x with
  | some (.struct fs), .pointer (some a) =>
    match fs.toList[f]? with
    | some fd =>
      match T.info fd.type with
      | some i => if 0 < i.size then some (.pointer (some ⟨a.block, a.off + fd.offset, none⟩)) else none
      | none => none
    | none => none
  | _, _ => none

theorem aFieldAddr_ok (hT : TbOK P T) (hR : Rel G μ H w) {s : TypeId} {x x' v : Value} {f : Nat} (hx : VRel μ x x') (h : aFieldAddr T s x f = some v) : Snd P G μ H w (Instr.fieldAt s x' f) (v, H) := by
  unfold aFieldAddr at h
  split at h
  · rename_i fs a hu
    obtain ⟨i, o, p, rfl, hp, rfl⟩ := ptr_inv hx
    split at h
    · rename_i fd hf
      split at h
      · rename_i inf hi
        split at h
        · rename_i hpos
          injection h with h
          subst h
          have hf' : fs[f]? = some fd := by simpa using hf
          refine Snd.same hR (v' := .pointer (some ⟨p.b, p.s + o + fd.offset, none⟩)) ?_ (by rw [Nat.add_assoc]; exact .ptr hp)
          simp [Instr.fieldAt, run_und hT hu, hf', Instr.sureAddr, fieldPlace, run_size hT hi, show inf.size ≠ 0 by omega, add_spot]
        · cases h
      · cases h
    · cases h
  · cases h

def aIndexAddr (T : Tb) (t : TypeId) (x ix : Value) : Option Value :=
  match T.und t, x, ix with
  | some (.array len e), .pointer (some a), .int _ i =>
    match T.info e with
    | some inf => if 0 ≤ i ∧ i < len then some (.pointer (some ⟨a.block, a.off + i.toNat * inf.size, none⟩)) else none
    | none => none
  | some (.slice e), .slice (some a) len _, .int _ i =>
    match T.info e with
    | some inf => if 0 ≤ i ∧ i < len then some (.pointer (some ⟨a.block, a.off + i.toNat * inf.size, none⟩)) else none
    | none => none
  | _, _, _ => none

theorem aIndexAddr_ok (hT : TbOK P T) (hR : Rel G μ H w) {t : TypeId} {x x' ix ix' v : Value} (hx : VRel μ x x') (hix : VRel μ ix ix') (h : aIndexAddr T t x ix = some v) :
    Snd P G μ H w (Instr.indexAt t x' ix') (v, H) := by
  unfold aIndexAddr at h
  split at h
  · rename_i len e a k n hu
    obtain ⟨i, o, p, rfl, hp, rfl⟩ := ptr_inv hx
    cases hix
    split at h
    · rename_i inf hi
      split at h
      · rename_i hb
        injection h with h
        subst h
        refine Snd.same hR (v' := .pointer (some ⟨p.b, p.s + o + n.toNat * inf.size, none⟩)) ?_ (by rw [Nat.add_assoc]; exact .ptr hp)
        simp [Instr.indexAt, run_und hT hu, Instr.sureAddr, asIntOf, run_size hT hi, hb, add_spot]
      · cases h
    · cases h
  · rename_i e a len c k n hu
    cases hix
    split at h
    · rename_i inf hi
      split at h
      · rename_i hb
        injection h with h
        subst h
        cases hx with
        | @slice i o l c c' p hp hc =>
          refine Snd.same hR (v' := .pointer (some ⟨p.b, p.s + o + n.toNat * inf.size, none⟩)) ?_ (by rw [Nat.add_assoc]; exact .ptr hp)
          simp [Instr.indexAt, run_und hT hu, asIntOf, run_size hT hi, hb, add_spot]
        | empty => omega
      · cases h
    · cases h
  · cases h

end
end Go.Eng
