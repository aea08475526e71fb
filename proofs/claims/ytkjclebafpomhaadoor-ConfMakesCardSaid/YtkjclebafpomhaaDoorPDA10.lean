/- What all laws' frames share: a world for the witness, a global's block. -/
import Derived.Test.YtkjclebafpomhaaDoorPDA9
import Derived.Test.YtkjclebafpomhaaDoorCards
import Derived.Test.YtkjclebafpomhaaDoorTie
import Derived.WalkKit
import Derived.ProofKit
import Derived.Deep.DeepHandedRow
import Derived.Lib.LaidTab
set_option linter.unusedVariables false
set_option linter.unusedSimpArgs false
set_option maxRecDepth 100000
namespace Go.Proofs.YtkjclebafpomhaaDoor
open Go Go.Eng Go.ChangeShapes Go.RowKit

theorem own : ownKnob Tryd.prog.godebug = none := by kernel_rfl
def dCells : Nat → DataW Unit → List Value
  | _, .lit (.int k n) => [.int k n]
  | n + 1, .agg l => l.flatMap (dCells n)
  | _, _ => []
def putCells (d : DataW Unit) : Obj → Obj
  | .cells _ t fr => .cells (dCells 4 d).toArray t fr
  | o => o
/-- A world for the witness: the settled one, its tables laid. -/
noncomputable def laidWorld (os : Os) : World :=
  { World.holding Tryd.prog os ⟨#[], #[], []⟩ with heap := (((World.holding Tryd.prog os ⟨#[], #[], []⟩).heap.modify 0 (putCells Rows.laid_math_bits_deBruijn32tab)).modify 2 (putCells Rows.laid_unicode_utf8_first)).modify 3 (putCells Rows.laid_unicode_utf8_acceptRanges) }
theorem laid_met (os : Os) (args : Array Value) : laidMet Tryd.prog Rows.confGroupsRow.laid ((laidWorld os).forCall (fun _ _ => 0) ⟨#[], args, []⟩).memory :=
  laidMet_of_run' 8 (by kernel_rfl) (by kernel_rfl)
theorem glob0 {W : World} (h : W.ShapedOpen Tryd.prog) : ∃ z te fr, W.heap[0]? = some (.cells z te fr) := by
  obtain ⟨h1, _⟩ := h
  obtain ⟨⟨zero, t⟩, hq⟩ := Option.isSome_iff_exists.1 (show (((begin Tryd.prog (fun _ _ => 0) default).world.heap[0]?).bind Obj.row?).isSome = true by kernel_rfl)
  obtain ⟨cs, h2, _⟩ := h1 0 zero t (of_decide_eq_true (by kernel_rfl)) hq
  exact ⟨cs, _, _, h2⟩
theorem laidB : laidOutB Tryd.prog = true := by kernel_rfl
def sizeZ : Value := .agg (sizeCells 0 (List.replicate 25 0) (.slice none 0 0)).toArray
end Go.Proofs.YtkjclebafpomhaaDoor
