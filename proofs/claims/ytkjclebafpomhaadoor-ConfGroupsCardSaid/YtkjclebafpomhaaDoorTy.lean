/- The seat's tables, read for simp (printed by wip/tools/types.py). -/
import Derived.Test.YtkjclebafpomhaaDoorEngT
import Derived.Test.YtkjclebafpomhaaDoorAwake
import Derived.KernelRfl
set_option linter.unusedVariables false
set_option maxRecDepth 100000
namespace Go.Proofs.YtkjclebafpomhaaDoor
open Go Go.Eng
@[go_sem] theorem cx_T : cx.T = tb := id rfl
@[go_sem] theorem cx_P : cx.P = Tryd.prog := id rfl
@[go_sem] theorem cx_G : cx.G = 4 := id rfl
@[go_sem] theorem cx_sp (g : FuncId) : cx.sp g = none := id rfl
@[go_sem] theorem bool_eql (ox oy : Operand) (H : AHeap) (c d : Bool) : aBinF Tryd.prog tb .eql 4 ox oy (.bool c) (.bool d) H = some (.bool (c == d)) := aBinF_eqlB _ _ _ _ _ _ _ _ (by kernel_rfl) cxOK.tb
@[go_sem] theorem al_22 (H : AHeap) : aAlloc tb 22 H = some (.pointer (some ⟨H.next, 0, none⟩), H.new (.cells [.int .u8 0, .int .u8 0, .int .u8 0, .int .u8 0, .int .u8 0] false [] 0)) := by exact id (by kernel_rfl)
@[go_sem] theorem al_38 (H : AHeap) : aAlloc tb 38 H = some (.pointer (some ⟨H.next, 0, none⟩), H.new (.cells [.string ⟨#[]⟩, .int .u8 0, .int .u16 0, .int .i64 0, .int .i64 0, .int .i64 0, .int .i64 0, .int .i64 0, .int .i64 0] false [] 0)) := by exact id (by kernel_rfl)
@[go_sem] theorem al_48 (H : AHeap) : aAlloc tb 48 H = some (.pointer (some ⟨H.next, 0, none⟩), H.new (.cells [.int .u8 0, .int .u16 0] false [] 0)) := by exact id (by kernel_rfl)
@[go_sem] theorem al_93 (H : AHeap) : aAlloc tb 93 H = some (.pointer (some ⟨H.next, 0, none⟩), H.new (.cells [.int .i64 0, .int .i64 0, .int .i64 0, .int .i64 0, .int .i64 0, .int .i64 0] false [] 0)) := by exact id (by kernel_rfl)
@[go_sem] theorem ap_43_43 (P : Program) (s x : Value) (H : AHeap) : aBuiltin P tb .append #[43, 43] [s, x] H = appW 9 72 s (srcOf H 9 x) H := aAppend_app (T := tb) (t := 43) (xt := 43) (sz := 9) (by_ := 72) (by kernel_rfl) s x H
@[go_sem] theorem ap_44_44 (P : Program) (s x : Value) (H : AHeap) : aBuiltin P tb .append #[44, 44] [s, x] H = appW 2 4 s (srcOf H 2 x) H := aAppend_app (T := tb) (t := 44) (xt := 44) (sz := 2) (by_ := 4) (by kernel_rfl) s x H
@[go_sem] theorem ap_99_99 (P : Program) (s x : Value) (H : AHeap) : aBuiltin P tb .append #[99, 99] [s, x] H = appW 6 48 s (srcOf H 6 x) H := aAppend_app (T := tb) (t := 99) (xt := 99) (sz := 6) (by_ := 48) (by kernel_rfl) s x H
@[go_sem] theorem bl_101 (ps : List (Nat × Value)) : aBuild tb 101 ps = (afill (fun i => ([(0, 1), (1, 1), (2, 1), (3, 1), (4, 1), (5, 1), (6, 1)] : List (Nat × Nat))[i]?) [.slice none 0 0, .map none, .slice none 0 0, .map none, .map none, .slice none 0 0, .int .i64 0] ps).map fun cs => .agg cs.toArray := by exact id (by kernel_rfl)
@[go_sem] theorem bl_36 (ps : List (Nat × Value)) : aBuild tb 36 ps = (afill (fun i => ([(0, 1), (1, 1)] : List (Nat × Nat))[i]?) [.int .u8 0, .int .u16 0] ps).map fun cs => .agg cs.toArray := by exact id (by kernel_rfl)
@[go_sem] theorem bl_38 (ps : List (Nat × Value)) : aBuild tb 38 ps = (afill (fun i => ([(0, 1), (1, 2), (3, 1), (4, 1), (5, 1), (6, 1), (7, 1), (8, 1)] : List (Nat × Nat))[i]?) [.string ⟨#[]⟩, .int .u8 0, .int .u16 0, .int .i64 0, .int .i64 0, .int .i64 0, .int .i64 0, .int .i64 0, .int .i64 0] ps).map fun cs => .agg cs.toArray := by exact id (by kernel_rfl)
@[go_sem] theorem bl_48 (ps : List (Nat × Value)) : aBuild tb 48 ps = (afill (fun i => ([(0, 1), (1, 1)] : List (Nat × Nat))[i]?) [.int .u8 0, .int .u16 0] ps).map fun cs => .agg cs.toArray := by exact id (by kernel_rfl)
@[go_sem] theorem bl_93 (ps : List (Nat × Value)) : aBuild tb 93 ps = (afill (fun i => ([(0, 1), (1, 1), (2, 1), (3, 1), (4, 1), (5, 1)] : List (Nat × Nat))[i]?) [.int .i64 0, .int .i64 0, .int .i64 0, .int .i64 0, .int .i64 0, .int .i64 0] ps).map fun cs => .agg cs.toArray := by exact id (by kernel_rfl)
@[go_sem] theorem bs_104_5 (ps : List (Nat × Value)) (H : AHeap) : aBuildSlice tb 104 5 ps H = (afill (fun k => some (k * 2, 2)) [.int .u8 0, .int .u16 0, .int .u8 0, .int .u16 0, .int .u8 0, .int .u16 0, .int .u8 0, .int .u16 0, .int .u8 0, .int .u16 0] ps).bind fun cs => (aNew cs 2 H).map fun r => (.slice (some ⟨H.next, 0, none⟩) 5 5, r.2) := by exact id (by kernel_rfl)
@[go_sem] theorem bs_43_1 (ps : List (Nat × Value)) (H : AHeap) : aBuildSlice tb 43 1 ps H = (afill (fun k => some (k * 9, 9)) [.string ⟨#[]⟩, .int .u8 0, .int .u16 0, .int .i64 0, .int .i64 0, .int .i64 0, .int .i64 0, .int .i64 0, .int .i64 0] ps).bind fun cs => (aNew cs 9 H).map fun r => (.slice (some ⟨H.next, 0, none⟩) 1 1, r.2) := by exact id (by kernel_rfl)
@[go_sem] theorem bs_44_1 (ps : List (Nat × Value)) (H : AHeap) : aBuildSlice tb 44 1 ps H = (afill (fun k => some (k * 2, 2)) [.int .u8 0, .int .u16 0] ps).bind fun cs => (aNew cs 2 H).map fun r => (.slice (some ⟨H.next, 0, none⟩) 1 1, r.2) := by exact id (by kernel_rfl)
@[go_sem] theorem bs_60_5 (ps : List (Nat × Value)) (H : AHeap) : aBuildSlice tb 60 5 ps H = (afill (fun k => some (k * 1, 1)) [.string ⟨#[]⟩, .string ⟨#[]⟩, .string ⟨#[]⟩, .string ⟨#[]⟩, .string ⟨#[]⟩] ps).bind fun cs => (aNew cs 1 H).map fun r => (.slice (some ⟨H.next, 0, none⟩) 5 5, r.2) := by exact id (by kernel_rfl)
@[go_sem] theorem bs_99_1 (ps : List (Nat × Value)) (H : AHeap) : aBuildSlice tb 99 1 ps H = (afill (fun k => some (k * 6, 6)) [.int .i64 0, .int .i64 0, .int .i64 0, .int .i64 0, .int .i64 0, .int .i64 0] ps).bind fun cs => (aNew cs 6 H).map fun r => (.slice (some ⟨H.next, 0, none⟩) 1 1, r.2) := by exact id (by kernel_rfl)
@[go_sem] theorem cv_27_3 (k : IntKind) (n : Int) (H : AHeap) : aConv tb 27 3 (.int k n) H = some (.int .i64 (IntKind.wrap .i64 n), H) := by exact id (by kernel_rfl)
@[go_sem] theorem cv_34_3 (k : IntKind) (n : Int) (H : AHeap) : aConv tb 34 3 (.int k n) H = some (.int .i64 (IntKind.wrap .i64 n), H) := by exact id (by kernel_rfl)
@[go_sem] theorem cv_3_27 (k : IntKind) (n : Int) (H : AHeap) : aConv tb 3 27 (.int k n) H = some (.int .u64 (IntKind.wrap .u64 n), H) := by exact id (by kernel_rfl)
@[go_sem] theorem cv_3_5 (k : IntKind) (n : Int) (H : AHeap) : aConv tb 3 5 (.int k n) H = some (.int .u8 (IntKind.wrap .u8 n), H) := by exact id (by kernel_rfl)
@[go_sem] theorem cv_5_3 (k : IntKind) (n : Int) (H : AHeap) : aConv tb 5 3 (.int k n) H = some (.int .i64 (IntKind.wrap .i64 n), H) := by exact id (by kernel_rfl)
@[go_sem] theorem cv_5_34 (k : IntKind) (n : Int) (H : AHeap) : aConv tb 5 34 (.int k n) H = some (.int .u16 (IntKind.wrap .u16 n), H) := by exact id (by kernel_rfl)
@[go_sem] theorem fa_101_0 (b o : Nat) (sp : Option Nat) : aFieldAddr tb 101 (.pointer (some ⟨b, o, sp⟩)) 0 = some (.pointer (some ⟨b, o + 0, none⟩)) := by exact id (by kernel_rfl)
@[go_sem] theorem fa_101_1 (b o : Nat) (sp : Option Nat) : aFieldAddr tb 101 (.pointer (some ⟨b, o, sp⟩)) 1 = some (.pointer (some ⟨b, o + 1, none⟩)) := by exact id (by kernel_rfl)
@[go_sem] theorem fa_101_2 (b o : Nat) (sp : Option Nat) : aFieldAddr tb 101 (.pointer (some ⟨b, o, sp⟩)) 2 = some (.pointer (some ⟨b, o + 2, none⟩)) := by exact id (by kernel_rfl)
@[go_sem] theorem fa_101_3 (b o : Nat) (sp : Option Nat) : aFieldAddr tb 101 (.pointer (some ⟨b, o, sp⟩)) 3 = some (.pointer (some ⟨b, o + 3, none⟩)) := by exact id (by kernel_rfl)
@[go_sem] theorem fa_101_4 (b o : Nat) (sp : Option Nat) : aFieldAddr tb 101 (.pointer (some ⟨b, o, sp⟩)) 4 = some (.pointer (some ⟨b, o + 4, none⟩)) := by exact id (by kernel_rfl)
@[go_sem] theorem fa_101_5 (b o : Nat) (sp : Option Nat) : aFieldAddr tb 101 (.pointer (some ⟨b, o, sp⟩)) 5 = some (.pointer (some ⟨b, o + 5, none⟩)) := by exact id (by kernel_rfl)
@[go_sem] theorem fa_101_6 (b o : Nat) (sp : Option Nat) : aFieldAddr tb 101 (.pointer (some ⟨b, o, sp⟩)) 6 = some (.pointer (some ⟨b, o + 6, none⟩)) := by exact id (by kernel_rfl)
@[go_sem] theorem fa_26_0 (b o : Nat) (sp : Option Nat) : aFieldAddr tb 26 (.pointer (some ⟨b, o, sp⟩)) 0 = some (.pointer (some ⟨b, o + 0, none⟩)) := by exact id (by kernel_rfl)
@[go_sem] theorem fa_26_1 (b o : Nat) (sp : Option Nat) : aFieldAddr tb 26 (.pointer (some ⟨b, o, sp⟩)) 1 = some (.pointer (some ⟨b, o + 1, none⟩)) := by exact id (by kernel_rfl)
@[go_sem] theorem fa_26_2 (b o : Nat) (sp : Option Nat) : aFieldAddr tb 26 (.pointer (some ⟨b, o, sp⟩)) 2 = some (.pointer (some ⟨b, o + 26, none⟩)) := by exact id (by kernel_rfl)
@[go_sem] theorem fa_36_0 (b o : Nat) (sp : Option Nat) : aFieldAddr tb 36 (.pointer (some ⟨b, o, sp⟩)) 0 = some (.pointer (some ⟨b, o + 0, none⟩)) := by exact id (by kernel_rfl)
@[go_sem] theorem fa_36_1 (b o : Nat) (sp : Option Nat) : aFieldAddr tb 36 (.pointer (some ⟨b, o, sp⟩)) 1 = some (.pointer (some ⟨b, o + 1, none⟩)) := by exact id (by kernel_rfl)
@[go_sem] theorem fa_38_0 (b o : Nat) (sp : Option Nat) : aFieldAddr tb 38 (.pointer (some ⟨b, o, sp⟩)) 0 = some (.pointer (some ⟨b, o + 0, none⟩)) := by exact id (by kernel_rfl)
@[go_sem] theorem fa_38_1 (b o : Nat) (sp : Option Nat) : aFieldAddr tb 38 (.pointer (some ⟨b, o, sp⟩)) 1 = some (.pointer (some ⟨b, o + 1, none⟩)) := by exact id (by kernel_rfl)
@[go_sem] theorem fa_38_2 (b o : Nat) (sp : Option Nat) : aFieldAddr tb 38 (.pointer (some ⟨b, o, sp⟩)) 2 = some (.pointer (some ⟨b, o + 3, none⟩)) := by exact id (by kernel_rfl)
@[go_sem] theorem fa_38_3 (b o : Nat) (sp : Option Nat) : aFieldAddr tb 38 (.pointer (some ⟨b, o, sp⟩)) 3 = some (.pointer (some ⟨b, o + 4, none⟩)) := by exact id (by kernel_rfl)
@[go_sem] theorem fa_38_4 (b o : Nat) (sp : Option Nat) : aFieldAddr tb 38 (.pointer (some ⟨b, o, sp⟩)) 4 = some (.pointer (some ⟨b, o + 5, none⟩)) := by exact id (by kernel_rfl)
@[go_sem] theorem fa_38_5 (b o : Nat) (sp : Option Nat) : aFieldAddr tb 38 (.pointer (some ⟨b, o, sp⟩)) 5 = some (.pointer (some ⟨b, o + 6, none⟩)) := by exact id (by kernel_rfl)
@[go_sem] theorem fa_38_6 (b o : Nat) (sp : Option Nat) : aFieldAddr tb 38 (.pointer (some ⟨b, o, sp⟩)) 6 = some (.pointer (some ⟨b, o + 7, none⟩)) := by exact id (by kernel_rfl)
@[go_sem] theorem fa_38_7 (b o : Nat) (sp : Option Nat) : aFieldAddr tb 38 (.pointer (some ⟨b, o, sp⟩)) 7 = some (.pointer (some ⟨b, o + 8, none⟩)) := by exact id (by kernel_rfl)
@[go_sem] theorem fa_48_0 (b o : Nat) (sp : Option Nat) : aFieldAddr tb 48 (.pointer (some ⟨b, o, sp⟩)) 0 = some (.pointer (some ⟨b, o + 0, none⟩)) := by exact id (by kernel_rfl)
@[go_sem] theorem fa_48_1 (b o : Nat) (sp : Option Nat) : aFieldAddr tb 48 (.pointer (some ⟨b, o, sp⟩)) 1 = some (.pointer (some ⟨b, o + 1, none⟩)) := by exact id (by kernel_rfl)
@[go_sem] theorem fa_93_0 (b o : Nat) (sp : Option Nat) : aFieldAddr tb 93 (.pointer (some ⟨b, o, sp⟩)) 0 = some (.pointer (some ⟨b, o + 0, none⟩)) := by exact id (by kernel_rfl)
@[go_sem] theorem fa_93_1 (b o : Nat) (sp : Option Nat) : aFieldAddr tb 93 (.pointer (some ⟨b, o, sp⟩)) 1 = some (.pointer (some ⟨b, o + 1, none⟩)) := by exact id (by kernel_rfl)
@[go_sem] theorem fa_93_2 (b o : Nat) (sp : Option Nat) : aFieldAddr tb 93 (.pointer (some ⟨b, o, sp⟩)) 2 = some (.pointer (some ⟨b, o + 2, none⟩)) := by exact id (by kernel_rfl)
@[go_sem] theorem fa_93_3 (b o : Nat) (sp : Option Nat) : aFieldAddr tb 93 (.pointer (some ⟨b, o, sp⟩)) 3 = some (.pointer (some ⟨b, o + 3, none⟩)) := by exact id (by kernel_rfl)
@[go_sem] theorem fa_93_4 (b o : Nat) (sp : Option Nat) : aFieldAddr tb 93 (.pointer (some ⟨b, o, sp⟩)) 4 = some (.pointer (some ⟨b, o + 4, none⟩)) := by exact id (by kernel_rfl)
@[go_sem] theorem ix_104 (b o l c : Nat) (sp : Option Nat) (k : IntKind) (i : Int) : aIndexAddr tb 104 (.slice (some ⟨b, o, sp⟩) l c) (.int k i) = if 0 ≤ i ∧ i < l then some (.pointer (some ⟨b, o + i.toNat * 2, none⟩)) else none := aIndexAddr_slice (by kernel_rfl) b o l c sp k i
@[go_sem] theorem ix_22 (b o : Nat) (sp : Option Nat) (k : IntKind) (i : Int) : aIndexAddr tb 22 (.pointer (some ⟨b, o, sp⟩)) (.int k i) = if 0 ≤ i ∧ i < (5 : Nat) then some (.pointer (some ⟨b, o + i.toNat * 1, none⟩)) else none := aIndexAddr_array (by kernel_rfl) b o sp k i
@[go_sem] theorem ix_23 (b o : Nat) (sp : Option Nat) (k : IntKind) (i : Int) : aIndexAddr tb 23 (.pointer (some ⟨b, o, sp⟩)) (.int k i) = if 0 ≤ i ∧ i < (5 : Nat) then some (.pointer (some ⟨b, o + i.toNat * 5, none⟩)) else none := aIndexAddr_array (by kernel_rfl) b o sp k i
@[go_sem] theorem ix_24 (b o l c : Nat) (sp : Option Nat) (k : IntKind) (i : Int) : aIndexAddr tb 24 (.slice (some ⟨b, o, sp⟩) l c) (.int k i) = if 0 ≤ i ∧ i < l then some (.pointer (some ⟨b, o + i.toNat * 1, none⟩)) else none := aIndexAddr_slice (by kernel_rfl) b o l c sp k i
@[go_sem] theorem ix_43 (b o l c : Nat) (sp : Option Nat) (k : IntKind) (i : Int) : aIndexAddr tb 43 (.slice (some ⟨b, o, sp⟩) l c) (.int k i) = if 0 ≤ i ∧ i < l then some (.pointer (some ⟨b, o + i.toNat * 9, none⟩)) else none := aIndexAddr_slice (by kernel_rfl) b o l c sp k i
@[go_sem] theorem ix_44 (b o l c : Nat) (sp : Option Nat) (k : IntKind) (i : Int) : aIndexAddr tb 44 (.slice (some ⟨b, o, sp⟩) l c) (.int k i) = if 0 ≤ i ∧ i < l then some (.pointer (some ⟨b, o + i.toNat * 2, none⟩)) else none := aIndexAddr_slice (by kernel_rfl) b o l c sp k i
@[go_sem] theorem ix_60 (b o l c : Nat) (sp : Option Nat) (k : IntKind) (i : Int) : aIndexAddr tb 60 (.slice (some ⟨b, o, sp⟩) l c) (.int k i) = if 0 ≤ i ∧ i < l then some (.pointer (some ⟨b, o + i.toNat * 1, none⟩)) else none := aIndexAddr_slice (by kernel_rfl) b o l c sp k i
@[go_sem] theorem ix_99 (b o l c : Nat) (sp : Option Nat) (k : IntKind) (i : Int) : aIndexAddr tb 99 (.slice (some ⟨b, o, sp⟩) l c) (.int k i) = if 0 ≤ i ∧ i < l then some (.pointer (some ⟨b, o + i.toNat * 6, none⟩)) else none := aIndexAddr_slice (by kernel_rfl) b o l c sp k i
@[go_sem] theorem ld_22 (b o : Nat) (sp : Option Nat) (H : AHeap) : aLoad tb 22 (.pointer (some ⟨b, o, sp⟩)) H = (ldN (H.get b) o 5).map fun vs => (.agg vs.toArray, H) := aLoad_agg (by kernel_rfl) b o sp H
@[go_sem] theorem ld_24 (b o : Nat) (sp : Option Nat) (H : AHeap) : aLoad tb 24 (.pointer (some ⟨b, o, sp⟩)) H = (ld1 (H.get b) o).map (·, H) := aLoad_one (by kernel_rfl) b o sp H
@[go_sem] theorem ld_26 (b o : Nat) (sp : Option Nat) (H : AHeap) : aLoad tb 26 (.pointer (some ⟨b, o, sp⟩)) H = (ldN (H.get b) o 27).map fun vs => (.agg vs.toArray, H) := aLoad_agg (by kernel_rfl) b o sp H
@[go_sem] theorem ld_3 (b o : Nat) (sp : Option Nat) (H : AHeap) : aLoad tb 3 (.pointer (some ⟨b, o, sp⟩)) H = (ld1 (H.get b) o).map (·, H) := aLoad_one (by kernel_rfl) b o sp H
@[go_sem] theorem ld_34 (b o : Nat) (sp : Option Nat) (H : AHeap) : aLoad tb 34 (.pointer (some ⟨b, o, sp⟩)) H = (ld1 (H.get b) o).map (·, H) := aLoad_one (by kernel_rfl) b o sp H
@[go_sem] theorem ld_36 (b o : Nat) (sp : Option Nat) (H : AHeap) : aLoad tb 36 (.pointer (some ⟨b, o, sp⟩)) H = (ldN (H.get b) o 2).map fun vs => (.agg vs.toArray, H) := aLoad_agg (by kernel_rfl) b o sp H
@[go_sem] theorem ld_38 (b o : Nat) (sp : Option Nat) (H : AHeap) : aLoad tb 38 (.pointer (some ⟨b, o, sp⟩)) H = (ldN (H.get b) o 9).map fun vs => (.agg vs.toArray, H) := aLoad_agg (by kernel_rfl) b o sp H
@[go_sem] theorem ld_43 (b o : Nat) (sp : Option Nat) (H : AHeap) : aLoad tb 43 (.pointer (some ⟨b, o, sp⟩)) H = (ld1 (H.get b) o).map (·, H) := aLoad_one (by kernel_rfl) b o sp H
@[go_sem] theorem ld_44 (b o : Nat) (sp : Option Nat) (H : AHeap) : aLoad tb 44 (.pointer (some ⟨b, o, sp⟩)) H = (ld1 (H.get b) o).map (·, H) := aLoad_one (by kernel_rfl) b o sp H
@[go_sem] theorem ld_48 (b o : Nat) (sp : Option Nat) (H : AHeap) : aLoad tb 48 (.pointer (some ⟨b, o, sp⟩)) H = (ldN (H.get b) o 2).map fun vs => (.agg vs.toArray, H) := aLoad_agg (by kernel_rfl) b o sp H
@[go_sem] theorem ld_5 (b o : Nat) (sp : Option Nat) (H : AHeap) : aLoad tb 5 (.pointer (some ⟨b, o, sp⟩)) H = (ld1 (H.get b) o).map (·, H) := aLoad_one (by kernel_rfl) b o sp H
@[go_sem] theorem ld_9 (b o : Nat) (sp : Option Nat) (H : AHeap) : aLoad tb 9 (.pointer (some ⟨b, o, sp⟩)) H = (ld1 (H.get b) o).map (·, H) := aLoad_one (by kernel_rfl) b o sp H
@[go_sem] theorem ld_93 (b o : Nat) (sp : Option Nat) (H : AHeap) : aLoad tb 93 (.pointer (some ⟨b, o, sp⟩)) H = (ldN (H.get b) o 6).map fun vs => (.agg vs.toArray, H) := aLoad_agg (by kernel_rfl) b o sp H
@[go_sem] theorem ld_96 (b o : Nat) (sp : Option Nat) (H : AHeap) : aLoad tb 96 (.pointer (some ⟨b, o, sp⟩)) H = (ld1 (H.get b) o).map (·, H) := aLoad_one (by kernel_rfl) b o sp H
@[go_sem] theorem ld_97 (b o : Nat) (sp : Option Nat) (H : AHeap) : aLoad tb 97 (.pointer (some ⟨b, o, sp⟩)) H = (ld1 (H.get b) o).map (·, H) := aLoad_one (by kernel_rfl) b o sp H
@[go_sem] theorem ld_98 (b o : Nat) (sp : Option Nat) (H : AHeap) : aLoad tb 98 (.pointer (some ⟨b, o, sp⟩)) H = (ld1 (H.get b) o).map (·, H) := aLoad_one (by kernel_rfl) b o sp H
@[go_sem] theorem ld_99 (b o : Nat) (sp : Option Nat) (H : AHeap) : aLoad tb 99 (.pointer (some ⟨b, o, sp⟩)) H = (ld1 (H.get b) o).map (·, H) := aLoad_one (by kernel_rfl) b o sp H
@[go_sem] theorem ln_24 (P : Program) (a : Option Addr) (n c : Nat) (H : AHeap) : aBuiltin P tb .len #[24] [.slice a n c] H = some (.int .i64 n, H) := by exact id (by kernel_rfl)
@[go_sem] theorem ln_43 (P : Program) (a : Option Addr) (n c : Nat) (H : AHeap) : aBuiltin P tb .len #[43] [.slice a n c] H = some (.int .i64 n, H) := by exact id (by kernel_rfl)
@[go_sem] theorem ln_44 (P : Program) (a : Option Addr) (n c : Nat) (H : AHeap) : aBuiltin P tb .len #[44] [.slice a n c] H = some (.int .i64 n, H) := by exact id (by kernel_rfl)
@[go_sem] theorem ln_9 (P : Program) (s : ByteArray) (H : AHeap) : aBuiltin P tb .len #[9] [.string s] H = some (.int .i64 s.size, H) := by exact id (by kernel_rfl)
@[go_sem] theorem mm_96 : mapOK tb 96 = true := by exact id (by kernel_rfl)
@[go_sem] theorem mm_97 : mapOK tb 97 = true := by exact id (by kernel_rfl)
@[go_sem] theorem mm_98 : mapOK tb 98 = true := by exact id (by kernel_rfl)
@[go_sem] theorem pn_eql_29 (ox oy : Operand) (H : AHeap) : aBinF Tryd.prog tb .eql 29 ox oy (.pointer none) (.pointer none) H = some (.bool true) := by exact id (by kernel_rfl)
@[go_sem] theorem pp_eql_29 (a : Addr) (ox oy : Operand) (H : AHeap) : aBinF Tryd.prog tb .eql 29 ox oy (.pointer (some a)) (.pointer none) H = some (.bool false) := by exact id (by kernel_rfl)
@[go_sem] theorem rg_9 (s : ByteArray) (H : AHeap) : aRange tb 9 (.string s) H = some (.pointer (some ⟨H.next, 0, none⟩), H.new (.iter s 0)) := by exact id (by kernel_rfl)
@[go_sem] theorem st_22 (b o : Nat) (sp : Option Nat) (v : Value) (H : AHeap) : aStore tb 22 (.pointer (some ⟨b, o, sp⟩)) v H = stW (H.get b) b o 5 v H := aStore_siz (by kernel_rfl) b o sp v H
@[go_sem] theorem st_3 (b o : Nat) (sp : Option Nat) (v : Value) (H : AHeap) : aStore tb 3 (.pointer (some ⟨b, o, sp⟩)) v H = stW (H.get b) b o 1 v H := aStore_siz (by kernel_rfl) b o sp v H
@[go_sem] theorem st_38 (b o : Nat) (sp : Option Nat) (v : Value) (H : AHeap) : aStore tb 38 (.pointer (some ⟨b, o, sp⟩)) v H = stW (H.get b) b o 9 v H := aStore_siz (by kernel_rfl) b o sp v H
@[go_sem] theorem st_43 (b o : Nat) (sp : Option Nat) (v : Value) (H : AHeap) : aStore tb 43 (.pointer (some ⟨b, o, sp⟩)) v H = stW (H.get b) b o 1 v H := aStore_siz (by kernel_rfl) b o sp v H
@[go_sem] theorem st_44 (b o : Nat) (sp : Option Nat) (v : Value) (H : AHeap) : aStore tb 44 (.pointer (some ⟨b, o, sp⟩)) v H = stW (H.get b) b o 1 v H := aStore_siz (by kernel_rfl) b o sp v H
@[go_sem] theorem st_48 (b o : Nat) (sp : Option Nat) (v : Value) (H : AHeap) : aStore tb 48 (.pointer (some ⟨b, o, sp⟩)) v H = stW (H.get b) b o 2 v H := aStore_siz (by kernel_rfl) b o sp v H
@[go_sem] theorem st_93 (b o : Nat) (sp : Option Nat) (v : Value) (H : AHeap) : aStore tb 93 (.pointer (some ⟨b, o, sp⟩)) v H = stW (H.get b) b o 6 v H := aStore_siz (by kernel_rfl) b o sp v H
@[go_sem] theorem st_99 (b o : Nat) (sp : Option Nat) (v : Value) (H : AHeap) : aStore tb 99 (.pointer (some ⟨b, o, sp⟩)) v H = stW (H.get b) b o 1 v H := aStore_siz (by kernel_rfl) b o sp v H
end Go.Proofs.YtkjclebafpomhaaDoor
