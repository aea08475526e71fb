/- ConfMakes: for whatever labels and marks, size, places and number that come in, the law answers true, and leaves its arguments as they were; conditions: none beyond the row's own (its listed variables read as laid). -/
import Derived.Test.YtkjclebafpomhaaDoorPDA10
set_option linter.unusedVariables false
set_option linter.unusedSimpArgs false
set_option maxRecDepth 100000
namespace Go.Proofs.YtkjclebafpomhaaDoor.confMakes
open Go Go.Eng Go.ChangeShapes Go.RowKit Go.Proofs Go.Proofs.YtkjclebafpomhaaDoor

section
variable {H : Type} {enc : TypeId × Value → H} {W : World} {base fuel : Nat} {sp : Nat → Bool} {held : Bool}
theorem c3 : Tryd.prog.cellsOf 3 = 1 := by kernel_rfl
theorem c9 : Tryd.prog.cellsOf 9 = 1 := by kernel_rfl
theorem c34 : Tryd.prog.cellsOf 34 = 1 := by kernel_rfl
theorem c36 : Tryd.prog.cellsOf 36 = 2 := by kernel_rfl
theorem c38 : Tryd.prog.cellsOf 38 = 9 := by kernel_rfl
theorem c48 : Tryd.prog.cellsOf 48 = 2 := by kernel_rfl
theorem pair_dec {t : TypeId} {a b : Field} (ht : Tryd.prog.underlying t = some (.struct #[a, b])) (hc : Tryd.prog.cellsOf t = 2) (ha : a.type = 5 ∧ a.offset = 0) (hb : b.type = 34 ∧ b.offset = 1) :
    ∀ n cs (y : DataW H × List MemPlace), DataW.trod enc Tryd.prog W base sp held n t cs = some y → ∃ p q : Int, cs = [.int .u8 p, .int .u16 q] ∧ (0 ≤ p ∧ p ≤ 255) ∧ 0 ≤ q ∧ q ≤ 65535 := fun n cs y h => by
  obtain ⟨xs, m, _, _, h1, h2, h3⟩ := DataW.trod_struct ht h
  have f0 := h3 0 a rfl
  have f1 := h3 1 b rfl
  have hxl : xs.length = 2 := h2
  rw [ha.1, ha.2, c5, List.getElem?_eq_getElem (by omega)] at f0
  rw [hb.1, hb.2, c34, List.getElem?_eq_getElem (by omega)] at f1
  obtain ⟨p, e0, _, w0⟩ := DataW.trod_int Tryd.underlying5 f0
  obtain ⟨q, e1, _, w1⟩ := DataW.trod_int Tryd.underlying34 f1
  rw [hc] at h1
  match cs, h1 with
  | [u, v], _ =>
    simp at e0 e1
    subst e0; subst e1
    exact ⟨p, q, rfl, wf_u8 w0, wf_u16 w1⟩
theorem mark_dec : ∀ n cs (y : DataW H × List MemPlace), DataW.trod enc Tryd.prog W base sp held n 48 cs = some y → ∃ z : Int × Int, (0 ≤ z.1 ∧ z.1 ≤ 255 ∧ 0 ≤ z.2 ∧ z.2 ≤ 65535) ∧ cs = mkC z := fun n cs y h => by
  obtain ⟨p, q, h1, h2, h3⟩ := pair_dec Tryd.underlying48 c48 ⟨rfl, rfl⟩ ⟨rfl, rfl⟩ n cs y h
  exact ⟨(p, q), ⟨h2.1, h2.2, h3⟩, h1⟩
theorem reg_dec : ∀ n cs (y : DataW H × List MemPlace), DataW.trod enc Tryd.prog W base sp held n 38 cs = some y → ∃ z : RegD, ((0 ≤ z.lev ∧ z.lev ≤ 255) ∧ 0 ≤ z.cats ∧ z.cats ≤ 65535) ∧ cs = z.cells := fun n cs y h => by
  obtain ⟨xs, m, _, _, h1, h2, h3⟩ := DataW.trod_struct und38 h
  have hxl : xs.length = 8 := h2
  have f0 := h3 0 _ rfl
  have f1 := h3 1 _ rfl
  have g : ∀ (i o : Nat) (nm : String) (bo : Nat), i < 8 → (#[fdI "Name" 9 0 0, fdI "Label" 36 1 16, fdI "Blocks" 3 3 24, fdI "Nodes" 3 4 32, fdI "Frames" 3 5 40, fdI "Procs" 3 6 48, fdI "Opens" 3 7 56, fdI "Clear" 3 8 64] : Array Field)[i]? = some (fdI nm 3 o bo) → ∃ z, (cs.drop o).take 1 = [Value.int .i64 z] := fun i o nm bo hi hf => by
    have f := h3 i _ hf
    have f : DataW.trod enc Tryd.prog W base sp held m 3 ((cs.drop o).take (Tryd.prog.cellsOf 3)) = xs[i]? := f
    rw [c3, List.getElem?_eq_getElem (by omega)] at f
    obtain ⟨z, e, _, _⟩ := DataW.trod_int Tryd.underlying3 f
    exact ⟨z, e⟩
  have f0 : DataW.trod enc Tryd.prog W base sp held m 9 ((cs.drop 0).take (Tryd.prog.cellsOf 9)) = xs[0]? := f0
  have f1 : DataW.trod enc Tryd.prog W base sp held m 36 ((cs.drop 1).take (Tryd.prog.cellsOf 36)) = xs[1]? := f1
  rw [c9, List.getElem?_eq_getElem (by omega)] at f0
  rw [c36, List.getElem?_eq_getElem (by omega)] at f1
  obtain ⟨nm, e0, _, _⟩ := DataW.trod_string Tryd.underlying9 f0
  obtain ⟨p, q, e1, w1, w2⟩ := pair_dec Tryd.underlying36 c36 ⟨rfl, rfl⟩ ⟨rfl, rfl⟩ _ _ _ f1
  obtain ⟨z2, e2⟩ := g 2 3 "Blocks" 24 (by omega) rfl
  obtain ⟨z3, e3⟩ := g 3 4 "Nodes" 32 (by omega) rfl
  obtain ⟨z4, e4⟩ := g 4 5 "Frames" 40 (by omega) rfl
  obtain ⟨z5, e5⟩ := g 5 6 "Procs" 48 (by omega) rfl
  obtain ⟨z6, e6⟩ := g 6 7 "Opens" 56 (by omega) rfl
  obtain ⟨z7, e7⟩ := g 7 8 "Clear" 64 (by omega) rfl
  rw [c38] at h1
  refine ⟨⟨nm, p, q, z2, z3, z4, z5, z6, z7⟩, ⟨w1, w2⟩, ?_⟩
  match cs, h1 with
  | [x0, x1, x2, x3, x4, x5, x6, x7, x8], _ =>
    simp at e0 e1 e2 e3 e4 e5 e6 e7
    obtain ⟨rfl, rfl⟩ := e1
    subst e0; subst e2; subst e3; subst e4; subst e5; subst e6; subst e7
    rfl
end

theorem contract (H : Type) (enc : TypeId × Value → H) (W : World) (args : Array Value) (ds gs : List (DataW H)) (before : List MemPlace)
    (hval : ∀ (j : Nat) t v, Tryd.f4.params[j]? = some t → args[j]? = some v → Value.okWide Tryd.prog W .any 0 t v)
    (hW : DataW.Whole enc Tryd.prog Tryd.f4.params.toList Rows.confMakesSpec.vars false W args.toList ds gs before) (hw : (DataW.weightsEach Tryd.prog (Tryd.f4.params.toList ++ []) (ds ++ gs)).all (· ≤ reachBytes) = true) (hS : W.ShapedOpen Tryd.prog) :
    Calls Tryd.prog 4 args W fun e W' => ∃ v, e = .returned v ∧ Rows.confMakesSpec.post enc Tryd.prog Tryd.f4 false true false false W args v W' := by
  have hW' := hW
  obtain ⟨p, q, hA0, hV, rfl, hfz, hnd⟩ := hW
  have hA : DataW.TrodAll enc Tryd.prog W 0 (fun _ => true) true Tryd.f4.params.toList args.toList ds p := hA0
  rw [Tryd.params4] at hA hval
  obtain ⟨v0, vs0, d0, ds0, p0, q0, hargs, rfl, rfl, h0, r0⟩ := trodAll_cons hA
  obtain ⟨v1, vs1, d1, ds1, p1, q1, rfl, rfl, rfl, h1, r1⟩ := trodAll_cons r0
  obtain ⟨v2, vs2, d2, ds2, p2, q2, rfl, rfl, rfl, h2, r2⟩ := trodAll_cons r1
  obtain ⟨v3, vs3, d3, ds3, p3, q3, rfl, rfl, rfl, h3, r3⟩ := trodAll_cons r2
  obtain ⟨v4, vs4, d4, ds4, p4, q4, rfl, rfl, rfl, h4, r4⟩ := trodAll_cons r3
  obtain ⟨v5, vs5, d5, ds5, p5, q5, rfl, rfl, rfl, h5, r5⟩ := trodAll_cons r4
  obtain ⟨rfl, rfl, rfl⟩ := trodAll_nil r5
  obtain rfl : args = #[v0, v1, v2, v3, v4, v5] := by cases args; simp_all
  obtain ⟨rfl, rfl⟩ := trodVars_none hV
  obtain ⟨at_, rfl, rfl, rfl, w3⟩ := open_int Tryd.underlying5 (hval 3 5 v3 rfl rfl) h3
  obtain ⟨wh, rfl, rfl, rfl, w4⟩ := open_int Tryd.underlying5 (hval 4 5 v4 rfl rfl) h4
  obtain ⟨n, rfl, rfl, rfl, w5⟩ := open_int Tryd.underlying3 (hval 5 3 v5 rfl rfl) h5
  have hz := glob0 hS
  obtain ⟨a, arr, bytes, r, sv, ha, h25, hb, hbb, hlen, hr, hrs⟩ := size_open (j := 2) hz (hval 2 26 v2 rfl rfl) h2 rfl rfl hw
  obtain ⟨a0, l0, k0, rfl⟩ := WideShapes.okWide_slice Tryd.underlying43 (hval 0 43 v0 rfl rfl)
  obtain ⟨a1, l1, k1, rfl⟩ := WideShapes.okWide_slice Tryd.underlying44 (hval 1 44 v1 rfl rfl)
  obtain ⟨fu0, h0⟩ := h0
  obtain ⟨fu1, h1⟩ := h1
  obtain ⟨regs, g0, _, s0⟩ := slice_open (f := RegD.cells) (good := fun z => (0 ≤ z.lev ∧ z.lev ≤ 255) ∧ 0 ≤ z.cats ∧ z.cats ≤ 65535) (c := 9) Tryd.underlying43 c38 (by omega) reg_dec (show DataW.trod enc Tryd.prog W 0 (fun _ => true) true fu0 43 [.slice a0 l0 k0] = _ from h0)
  obtain ⟨marks, g1, _, s1⟩ := slice_open (f := mkC) (good := fun z => 0 ≤ z.1 ∧ z.1 ≤ 255 ∧ 0 ≤ z.2 ∧ z.2 ≤ 65535) (c := 2) Tryd.underlying44 c48 (by omega) mark_dec (show DataW.trod enc Tryd.prog W 0 (fun _ => true) true fu1 44 [.slice a1 l1 k1] = _ from h1)
  obtain ⟨rr0, sv0, hr0, hrs0⟩ := slice_arg (f := RegD.cells) hz (fun z _ x hx => by simp [RegD.cells] at hx; rcases hx with rfl | rfl | rfl | rfl | rfl | rfl | rfl | rfl | rfl <;> exact ⟨rfl, rfl⟩) g0 s0
  obtain ⟨rr1, sv1, hr1, hrs1⟩ := slice_arg (f := mkC) hz (fun z _ x hx => by simp [mkC] at hx; rcases hx with rfl | rfl <;> exact ⟨rfl, rfl⟩) g1 s1
  obtain ⟨e0, e1, _⟩ := hrs0 [rr0, rr1, r] 0 rfl
  obtain ⟨e2, e3, e4⟩ := hrs1 [rr0, rr1, r] 1 rfl
  obtain ⟨e5, e6⟩ := hrs [rr0, rr1, r] 2 rfl
  have hlt : bytes.length < 4611686018427387904 := by unfold reachBytes at hlen; omega
  have walk := law_world (args' := #[.slice a0 l0 k0, .slice a1 l1 k1, v2, .int .u8 at_, .int .u8 wh, .int .i64 n]) (rs := [rr0, rr1, r]) (W := W) (fun x hx => by simp at hx; rcases hx with rfl | rfl | rfl <;> assumption)
    (LRel.cons e0 (LRel.cons e2 (LRel.cons e5 (LRel.flat0 (l := [.int .u8 at_, .int .u8 wh, .int .i64 n]) (by simp [flat])))))
    ((makes_c (n := n) e1 e3 e4 g0 g1 ha h25 hb e6 hbb hlt (wf_u8 w3) (wf_u8 w4)).mono fun v _ h => h)
  refine walk.mono fun e W' ⟨he, hg⟩ => ⟨_, he, ?_⟩
  exact law_post (tb := 4) laidB (by rw [Tryd.params4]; intro t ht; simp at ht; rcases ht with rfl | rfl | rfl | rfl | rfl | rfl <;> exact ⟨by kernel_rfl, of_decide_eq_true (by kernel_rfl)⟩) (by kernel_rfl) Tryd.underlying4 rfl
    (fun l hl => by rw [Tryd.params4] at hl; match l, hl with | [_, _, _, _, _, _], _ => rfl) hW' hg

abbrev wit : Array Value := #[.slice none 0 0, .slice none 0 0, sizeZ, .int .u8 0, .int .u8 0, .int .i64 0]
theorem reads (os : Os) {H : Type} (enc : TypeId × Value → H) : ∃ ds places, DataW.whole enc Tryd.prog ((laidWorld os).forCall (fun _ _ => 0) ⟨#[], wit, []⟩).memory Tryd.f4.params.toList Rows.confMakesSpec.vars false wit.toList 8 = some (ds, [], places) :=
  ⟨[.nil, .nil, .agg [.lit (.int .u8 0), .agg (List.replicate 5 (.agg (List.replicate 5 (.lit (.int .u8 0))))), .nil], .lit (.int .u8 0), .lit (.int .u8 0), .lit (.int .i64 0)], [], by kernel_rfl⟩

theorem lifted (os : Os) (started : os.Started) (H : Type) (enc : TypeId × Value → H) (F : Stop.Interp) :
    ReturnsInHanded {} Tryd.checked os 4 .any ((OpenSpec.ofChange Rows.confMakesSpec).preRow enc Tryd.prog Tryd.f4 Rows.confMakesRow.domain false Rows.confMakesRow.laid) (((OpenSpec.ofChange Rows.confMakesSpec).at F).post enc Tryd.prog Tryd.f4 false true false false) := by
  obtain ⟨ds, places, hx⟩ := reads os enc
  refine returnsInHanded_of_row (C := Tryd.checked) (s := OpenSpec.ofChange Rows.confMakesSpec) own started (by kernel_rfl) Tryd.func4
    (witness_row_at (enc := enc) (C := Tryd.checked) false (laidWorld os) wit rfl (by kernel_rfl) (by kernel_rfl) (by kernel_rfl)
      (OpenSpec.preRow_of_cond 8 hx (by kernel_rfl) (fun k hk => by cases hk) (by kernel_rfl) (laid_met os _))) ?_
  intro W base args ds gs before hval hW _ _ hw hL hS _
  exact contract H enc W args ds gs before hval hW hw hS

theorem said : Rows.ConfMakesSaid :=
  OpenClaim.holds_of_cond 4 Tryd.f4 rfl rfl rfl rfl rfl rfl rfl ⟨rfl, rfl, rfl, rfl, rfl⟩ rfl rfl rfl rfl rfl (by kernel_rfl) Tryd.func4 (by kernel_rfl)
    (of_decide_eq_true (by kernel_rfl)) (by unfold Func.isWrapper; first | (rw [if_pos (by decide +kernel)]; kernel_rfl) | (rw [if_neg (by decide +kernel)]; exact ⟨rfl, rfl⟩))
    (fun os started H enc _ F => by rw [OpenClaim.pre_eq_preRow]; exact lifted os started H enc F)

theorem plain (f : FuncId) (fn : Func) (hf : Tryd.pinned.checked.prog.funcNamed "garrison/garrisonlaw02.ConfMakes" = some f) (hfn : Tryd.pinned.checked.prog.funcs[f]? = some fn) :
    false = Tryd.pinned.checked.prog.looks [] ∧ ∀ (j : Nat) t, fn.params[j]? = some t → Tryd.pinned.checked.prog.wantsStandIn t = false := by
  obtain rfl : f = 4 := Option.some.inj ((show Tryd.prog.funcNamed "garrison/garrisonlaw02.ConfMakes" = some 4 by kernel_rfl).symm.trans hf) |>.symm
  obtain rfl : fn = Tryd.f4 := (Option.some.inj (Tryd.func4.symm.trans hfn)).symm
  refine ⟨by kernel_rfl, fun j t ht => ?_⟩
  rw [Tryd.params4] at ht
  have ht : t ∈ #[43, 44, 26, 5, 5, 3] := Array.mem_of_getElem? ht
  simp at ht
  rcases ht with rfl | rfl | rfl | rfl | rfl | rfl
  · exact (show Tryd.prog.wantsStandIn 43 = false by kernel_rfl)
  · exact (show Tryd.prog.wantsStandIn 44 = false by kernel_rfl)
  · exact (show Tryd.prog.wantsStandIn 26 = false by kernel_rfl)
  · exact (show Tryd.prog.wantsStandIn 5 = false by kernel_rfl)
  · exact (show Tryd.prog.wantsStandIn 3 = false by kernel_rfl)

theorem card : Rows.ConfMakesCardSaid :=
  Claim7.holds_tied_plain_at .later [] _ _ _ _ said (fun _ h => by cases h) (by kernel_rfl) (fun _ h => by cases h) confMakes_row_tie rfl ⟨rfl, rfl⟩ (by kernel_rfl) rfl plain (by kernel_rfl)
#print axioms card
end Go.Proofs.YtkjclebafpomhaaDoor.confMakes
