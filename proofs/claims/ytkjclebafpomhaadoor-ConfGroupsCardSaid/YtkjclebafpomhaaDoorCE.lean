/- What the laws' arguments are, opened. -/
import Derived.Test.YtkjclebafpomhaaDoorC9
import Derived.Test.YtkjclebafpomhaaDoorEngZ2
import Derived.SizedLaws
set_option linter.unusedVariables false
set_option linter.unusedSimpArgs false
set_option maxRecDepth 100000
namespace Go.Proofs.YtkjclebafpomhaaDoor
open Go Go.Eng Go.ChangeShapes Go.RowKit

theorem LRel.flat0 {μ : Mu} {l : List Value} (h : ∀ v ∈ l, flat 0 v = true) : LRel μ l l := ⟨rfl, fun i hi => by
  rw [List.getD_eq_getElem?_getD, List.getElem?_eq_getElem hi]; exact flat_rel 0 _ (h _ (List.getElem_mem hi))⟩

/-- The row of a slice that came in; its value on the abstract heap. -/
theorem slice_arg {α : Type} {f : α → List Value} {good : α → Prop} {c : Nat} {v : Value} {W : World} {l : List α} (hz : ∃ z te fr, W.heap[0]? = some (.cells z te fr)) (hp : ∀ z, good z → ∀ x ∈ f z, flat 0 x = true ∧ one x = true) (hl : ∀ z ∈ l, good z)
    (h : (l = [] ∧ v = .slice none 0 0) ∨ (l = [] ∧ ∃ a cap, v = .slice (some a) 0 cap ∧ cap ≤ maxLen) ∨
      ∃ a cap arr te fr, v = .slice (some a) l.length cap ∧ a.spot = none ∧ l.length ≤ cap ∧ cap ≤ maxLen ∧ W.heap[a.block]? = some (.cells arr te fr) ∧ a.off + l.length * c ≤ arr.size ∧ ∀ i z, l[i]? = some z → rowC arr (a.off + i * c) c = f z) :
    ∃ (r : RIn) (sv : Nat → Value), r.ok W ∧ (∀ rs k, rs[k]? = some r → VRel (inMu rs) (sv k) v ∧ SlcE (inHeap rs) (sv k) f c l) := by
  have hml : maxLen < grow := by decide
  obtain ⟨z, te, fr, hz⟩ := hz
  have nil_ok : RIn.ok W ⟨0, 0, z.size, []⟩ := ⟨z, te, fr, hz, rfl, by simp, fun i hi => by simp at hi, by simp⟩
  rcases h with ⟨rfl, rfl⟩ | ⟨rfl, a, cap, rfl, h1⟩ | ⟨a, cap, arr, te, fr, rfl, h1, h2, h3, h4, h5, h6⟩
  · exact ⟨⟨0, 0, z.size, []⟩, fun _ => .slice none 0 0, nil_ok, fun rs k _ => ⟨.sliceNil, .inl ⟨rfl, rfl⟩⟩⟩
  · exact ⟨⟨0, 0, z.size, []⟩, fun k => .slice (some ⟨4 + k, 0, none⟩) 0 empt, nil_ok, fun rs k hk => ⟨.empty (by omega), .inr ⟨4 + k, empt, _, _, _, _, rfl, inHeap_row hk, fun i z hz => by simp at hz⟩⟩⟩
  · have hcl : l.length * c = (rowC arr a.off (l.length * c)).length := (rowC_len _ _ _).symm
    refine ⟨⟨a.block, a.off, arr.size, rowC arr a.off (l.length * c)⟩, fun k => .slice (some ⟨4 + k, 0, none⟩) l.length cap, ⟨arr, te, fr, h4, rfl, by rw [rowC_len]; exact h5, fun i hi => ?_, fun x hx => ?_⟩, fun rs k hk => ⟨?_, ?_⟩⟩
    · rw [rowC_len] at hi
      show _ = (rowC arr a.off (l.length * c)).getD i undef
      unfold rowC
      rw [List.getD_eq_getElem?_getD, List.getElem?_map, rg, if_pos hi]
      rfl
    · obtain ⟨i, hi, hm⟩ := chunk_mem (rowC_len arr a.off (l.length * c)) hx
      have hic : i * c + c ≤ l.length * c := by rw [← Nat.succ_mul]; exact Nat.mul_le_mul_right c hi
      rw [rowC_chunk _ _ _ _ _ hic, h6 i _ (List.getElem?_eq_getElem hi)] at hm
      exact hp _ (hl _ (List.getElem_mem hi)) _ hm
    · have := VRel.slice (o := 0) (l := l.length) (c := cap) (c' := cap) (inMu_row hk) ⟨h2, by omega, .inl ⟨by omega, rfl⟩⟩
      obtain ⟨ab, ao, asp⟩ := a
      simp only at h1
      subst h1
      exact this
    · refine .inr ⟨4 + k, cap, _, _, _, _, rfl, inHeap_row hk, fun i z hz => ?_⟩
      have hi := (List.getElem?_eq_some_iff.1 hz).1
      have hic : i * c + c ≤ l.length * c := by rw [← Nat.succ_mul]; exact Nat.mul_le_mul_right c hi
      show ((rowC arr a.off (l.length * c)).drop (i * c)).take c = _ ∧ _ ≤ (rowC arr a.off (l.length * c)).length
      rw [rowC_chunk _ _ _ _ _ hic, rowC_len]
      exact ⟨h6 i z hz, hic⟩

section
variable {H : Type} {enc : TypeId × Value → H} {W : World} {base fuel : Nat} {sp : Nat → Bool} {held : Bool}
theorem c5 : Tryd.prog.cellsOf 5 = 1 := by kernel_rfl
theorem c23 : Tryd.prog.cellsOf 23 = 25 := by kernel_rfl
theorem c24 : Tryd.prog.cellsOf 24 = 1 := by kernel_rfl
theorem c26 : Tryd.prog.cellsOf 26 = 27 := by kernel_rfl
theorem b5 : Tryd.prog.bytesOf 5 = 1 := by kernel_rfl
theorem bytes_dec : ∀ n cs (y : DataW H × List MemPlace), DataW.trod enc Tryd.prog W base sp held n 5 cs = some y → ∃ z : Int, (0 ≤ z ∧ z ≤ 255) ∧ cs = [Value.int .u8 z] := fun n cs y h => by
  obtain ⟨z, h1, _, h2⟩ := DataW.trod_int Tryd.underlying5 h
  exact ⟨z, wf_u8 h2, h1⟩
/-- A Size that came in. -/
theorem size_open {v : Value} {d : DataW H} {ps : List MemPlace} (hz : ∃ z te fr, W.heap[0]? = some (.cells z te fr)) (hok : Value.okWide Tryd.prog W .any 0 26 v) (h : DataW.Trod enc Tryd.prog W base sp held 26 v d ps)
    {ts : List TypeId} {ds : List (DataW H)} {j : Nat} (hj : ts[j]? = some 26) (hd : ds[j]? = some d) (hw : (DataW.weightsEach Tryd.prog ts ds).all (· ≤ reachBytes) = true) :
    ∃ (a : Int) (arr bytes : List Int) (r : RIn) (sv : Nat → Value), (0 ≤ a ∧ a ≤ 255) ∧ arr.length = 25 ∧ (∀ x ∈ arr, 0 ≤ x ∧ x ≤ 255) ∧ (∀ x ∈ bytes, 0 ≤ x ∧ x ≤ 255) ∧ bytes.length ≤ reachBytes ∧ r.ok W ∧
      ∀ rs k, rs[k]? = some r → VRel (inMu rs) (.agg (sizeCells a arr (sv k)).toArray) v ∧ SlcE (inHeap rs) (sv k) (fun x => [Value.int .u8 x]) 1 bytes := by
  obtain ⟨fuel, h⟩ := h
  obtain ⟨cs, rfl, hcs⟩ : ∃ cs, v = .agg cs ∧ cs.size = 27 := by
    unfold Value.okWide at hok
    rw [Tryd.underlying26] at hok
    obtain ⟨cs, h1, h2, _⟩ := hok
    exact ⟨cs, h1, h2.trans c26⟩
  have hcl : (Value.agg cs).cells.toList = cs.toList := rfl
  rw [hcl] at h
  obtain ⟨xs, n, _, hx, h1, h2, h3⟩ := DataW.trod_struct Tryd.underlying26 h
  have hxl : xs.length = 3 := h2
  have f0 := h3 0 _ rfl
  have f1 := h3 1 _ rfl
  have f2 := h3 2 _ rfl
  have f0 : DataW.trod enc Tryd.prog W base sp held n 5 ((cs.toList.drop 0).take (Tryd.prog.cellsOf 5)) = xs[0]? := f0
  have f1 : DataW.trod enc Tryd.prog W base sp held n 23 ((cs.toList.drop 1).take (Tryd.prog.cellsOf 23)) = xs[1]? := f1
  have f2 : DataW.trod enc Tryd.prog W base sp held n 24 ((cs.toList.drop 26).take (Tryd.prog.cellsOf 24)) = xs[2]? := f2
  rw [c5] at f0
  rw [c23] at f1
  rw [c24] at f2
  rw [List.getElem?_eq_getElem (by omega)] at f0 f1 f2
  obtain ⟨a, e0, _, w0⟩ := DataW.trod_int Tryd.underlying5 f0
  obtain ⟨l1, m1⟩ := arr_arr (n := 5) (c := 5) (p := intC .u8) Tryd.underlying23 (by kernel_rfl) (by kernel_rfl) (fun m cs x hh => (arr_ints (n := 5) Tryd.underlying22 c5 (by kernel_rfl) Tryd.underlying5 hh).2) f1
  obtain ⟨arr, e1, w1⟩ := ints_of m1
  obtain ⟨s, e2⟩ : ∃ s, (cs.toList.drop 26).take 1 = [s] := by
    have : ((cs.toList.drop 26).take 1).length = 1 := by simp; omega
    match hq : (cs.toList.drop 26).take 1, this with
    | [s], _ => exact ⟨s, rfl⟩
  rw [e2] at f2
  obtain ⟨bytes, w2, hlen, hsl⟩ := slice_open (f := fun x : Int => [Value.int .u8 x]) (good := fun x => 0 ≤ x ∧ x ≤ 255) (c := 1) Tryd.underlying24 c5 (by omega) bytes_dec f2
  obtain ⟨r, sv, hr, hrs⟩ := slice_arg (f := fun x : Int => [Value.int .u8 x]) hz (fun z _ x hx => by simp at hx; subst hx; exact ⟨rfl, rfl⟩) w2 hsl
  have hall : cs.toList = sizeCells a arr s := by
    have e : cs.toList = (cs.toList.drop 0).take 1 ++ ((cs.toList.drop 1).take 25 ++ (cs.toList.drop 26).take 1) := by
      have hl : cs.toList.length = 27 := by simpa using hcs
      have q1 : (cs.toList.drop 26).take 1 = cs.toList.drop 26 := List.take_of_length_le (by simp; omega)
      have q2 : cs.toList.drop 26 = (cs.toList.drop 1).drop 25 := by rw [List.drop_drop]
      rw [q1, q2, List.take_append_drop, List.drop_zero, List.take_append_drop]
    rw [e, e0, e1, e2]
    rfl
  have harr : arr.length = 25 := by
    have := congrArg List.length e1
    rw [l1] at this
    simpa using this.symm
  refine ⟨a, arr, bytes, r, sv, wf_u8 w0, harr, fun x hx => wf_u8 (w1 x hx), w2, ?_, hr, fun rs k hk => ⟨?_, (hrs rs k hk).2⟩⟩
  · rcases hlen with rfl | ⟨es, rest, q1, q2⟩
    · simp
    · rw [← q2]
      have hmem : (es.length + rest.length) * 1 ∈ d.weights Tryd.prog 26 := by
        injection hx with hx1 hx2
        have hx1 : d = .agg (xs.map (·.1)) := hx1
        rw [hx1]
        simp only [DataW.weights, Tryd.underlying26]
        refine DataW.weights_mem_each (j := 2) (t := 24) (d := .slice es rest) rfl ?_ _ ?_
        · rw [List.getElem?_map, List.getElem?_eq_getElem (by omega), Option.map_some, q1]
        · simp [DataW.weights, Tryd.underlying24, b5]
      have := List.all_eq_true.1 hw _ (DataW.weights_mem_each hj hd _ hmem)
      simp only [decide_eq_true_eq] at this
      omega
  · have hL : LRel (inMu rs) (sizeCells a arr (sv k)) (sizeCells a arr s) :=
      LRel.cons (flat_rel 0 _ rfl) (LRel.append (LRel.flat0 (by intro v hv; obtain ⟨x, _, rfl⟩ := List.mem_map.1 hv; rfl)) (LRel.cons (hrs rs k hk).1 LRel.nil))
    have : cs = (sizeCells a arr s).toArray := by rw [← hall]
    rw [this]
    have := hL.arr
    exact .agg this.1 this.2
end
end Go.Proofs.YtkjclebafpomhaaDoor
