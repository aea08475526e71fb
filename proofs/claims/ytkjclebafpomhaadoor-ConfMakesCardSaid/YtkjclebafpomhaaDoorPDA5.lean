/- Types, as simp facts, continued: printed by a small program of this claim's own. -/
import Derived.Test.YtkjclebafpomhaaDoorPDA4
import Derived.Laws.RangeAny
set_option linter.unusedVariables false
set_option linter.unusedSimpArgs false
set_option maxRecDepth 100000
namespace Go.Proofs.YtkjclebafpomhaaDoor
open Go Go.Eng
@[go_sem] theorem al_117 (H : AHeap) : aAlloc tb 117 H = some (.pointer (some ⟨H.next, 0, none⟩), H.new (.cells [.int .i64 0, .int .i64 0, .int .i64 0, .int .i64 0, .int .i64 0, .int .i64 0] false [] 0)) := by exact id (by kernel_rfl)
@[go_sem] theorem al_125 (H : AHeap) : aAlloc tb 125 H = some (.pointer (some ⟨H.next, 0, none⟩), H.new (.cells [.string ⟨#[]⟩, .string ⟨#[]⟩] false [] 0)) := by exact id (by kernel_rfl)
@[go_sem] theorem al_129 (H : AHeap) : aAlloc tb 129 H = some (.pointer (some ⟨H.next, 0, none⟩), H.new (.cells [.int .i64 0, .int .i64 0, .int .i64 0, .int .i64 0, .int .i64 0] false [] 0)) := by exact id (by kernel_rfl)
@[go_sem] theorem al_134 (H : AHeap) : aAlloc tb 134 H = some (.pointer (some ⟨H.next, 0, none⟩), H.new (.cells [.pointer none, .slice none 0 0] false [] 0)) := by exact id (by kernel_rfl)
@[go_sem] theorem al_148 (H : AHeap) : aAlloc tb 148 H = some (.pointer (some ⟨H.next, 0, none⟩), H.new (.cells [.int .i64 0, .slice none 0 0] false [] 0)) := by exact id (by kernel_rfl)
@[go_sem] theorem al_214 (H : AHeap) : aAlloc tb 214 H = some (.pointer (some ⟨H.next, 0, none⟩), H.new (.cells [.string ⟨#[]⟩, .string ⟨#[]⟩, .string ⟨#[]⟩, .string ⟨#[]⟩, .string ⟨#[]⟩, .string ⟨#[]⟩, .string ⟨#[]⟩, .string ⟨#[]⟩, .string ⟨#[]⟩, .string ⟨#[]⟩, .string ⟨#[]⟩, .string ⟨#[]⟩, .string ⟨#[]⟩, .string ⟨#[]⟩, .string ⟨#[]⟩, .string ⟨#[]⟩, .string ⟨#[]⟩, .string ⟨#[]⟩, .string ⟨#[]⟩, .string ⟨#[]⟩, .string ⟨#[]⟩, .string ⟨#[]⟩, .string ⟨#[]⟩, .string ⟨#[]⟩, .string ⟨#[]⟩, .string ⟨#[]⟩, .string ⟨#[]⟩, .string ⟨#[]⟩, .string ⟨#[]⟩, .string ⟨#[]⟩, .string ⟨#[]⟩, .string ⟨#[]⟩, .string ⟨#[]⟩, .string ⟨#[]⟩, .string ⟨#[]⟩, .string ⟨#[]⟩, .string ⟨#[]⟩, .string ⟨#[]⟩, .string ⟨#[]⟩, .string ⟨#[]⟩] false [] 0)) := by exact id (by kernel_rfl)
@[go_sem] theorem al_220 (H : AHeap) : aAlloc tb 220 H = some (.pointer (some ⟨H.next, 0, none⟩), H.new (.cells [.int .i64 0, .int .i64 0] false [] 0)) := by exact id (by kernel_rfl)
@[go_sem] theorem al_231 (H : AHeap) : aAlloc tb 231 H = some (.pointer (some ⟨H.next, 0, none⟩), H.new (.cells [.int .u8 0, .int .u8 0, .int .u8 0] false [] 0)) := by exact id (by kernel_rfl)
@[go_sem] theorem al_238 (H : AHeap) : aAlloc tb 238 H = some (.pointer (some ⟨H.next, 0, none⟩), H.new (.cells [.int .u8 0, .int .u8 0] false [] 0)) := by exact id (by kernel_rfl)
@[go_sem] theorem al_36 (H : AHeap) : aAlloc tb 36 H = some (.pointer (some ⟨H.next, 0, none⟩), H.new (.cells [.int .u8 0, .int .u16 0] false [] 0)) := by exact id (by kernel_rfl)
@[go_sem] theorem al_69 (H : AHeap) : aAlloc tb 69 H = some (.pointer (some ⟨H.next, 0, none⟩), H.new (.cells [.int .u8 0, .slice none 0 0] false [] 0)) := by exact id (by kernel_rfl)
@[go_sem] theorem al_77 (H : AHeap) : aAlloc tb 77 H = some (.pointer (some ⟨H.next, 0, none⟩), H.new (.cells [.int .u8 0, .int .u8 0, .int .u8 0, .int .u8 0] false [] 0)) := by exact id (by kernel_rfl)
@[go_sem] theorem al_79 (H : AHeap) : aAlloc tb 79 H = some (.pointer (some ⟨H.next, 0, none⟩), H.new (.cells [.int .u8 0, .int .u8 0, .int .u8 0, .int .u8 0] false [] 0)) := by exact id (by kernel_rfl)
@[go_sem] theorem ap_108_108 (P : Program) (s x : Value) (H : AHeap) : aBuiltin P tb .append #[108, 108] [s, x] H = appW 6 48 s (srcOf H 6 x) H := aAppend_app (T := tb) (t := 108) (xt := 108) (sz := 6) (by_ := 48) (by kernel_rfl) s x H
@[go_sem] theorem ap_119_119 (P : Program) (s x : Value) (H : AHeap) : aBuiltin P tb .append #[119, 119] [s, x] H = appW 2 32 s (srcOf H 2 x) H := aAppend_app (T := tb) (t := 119) (xt := 119) (sz := 2) (by_ := 32) (by kernel_rfl) s x H
@[go_sem] theorem ap_120_120 (P : Program) (s x : Value) (H : AHeap) : aBuiltin P tb .append #[120, 120] [s, x] H = appW 1 8 s (srcOf H 1 x) H := aAppend_app (T := tb) (t := 120) (xt := 120) (sz := 1) (by_ := 8) (by kernel_rfl) s x H
@[go_sem] theorem ap_126_126 (P : Program) (s x : Value) (H : AHeap) : aBuiltin P tb .append #[126, 126] [s, x] H = appW 1 24 s (srcOf H 1 x) H := aAppend_app (T := tb) (t := 126) (xt := 126) (sz := 1) (by_ := 24) (by kernel_rfl) s x H
@[go_sem] theorem ap_144_144 (P : Program) (s x : Value) (H : AHeap) : aBuiltin P tb .append #[144, 144] [s, x] H = appW 2 32 s (srcOf H 2 x) H := aAppend_app (T := tb) (t := 144) (xt := 144) (sz := 2) (by_ := 32) (by kernel_rfl) s x H
@[go_sem] theorem ap_154_154 (P : Program) (s x : Value) (H : AHeap) : aBuiltin P tb .append #[154, 154] [s, x] H = appW 2 24 s (srcOf H 2 x) H := aAppend_app (T := tb) (t := 154) (xt := 154) (sz := 2) (by_ := 24) (by kernel_rfl) s x H
@[go_sem] theorem ap_155_155 (P : Program) (s x : Value) (H : AHeap) : aBuiltin P tb .append #[155, 155] [s, x] H = appW 2 32 s (srcOf H 2 x) H := aAppend_app (T := tb) (t := 155) (xt := 155) (sz := 2) (by_ := 32) (by kernel_rfl) s x H
@[go_sem] theorem ap_218_218 (P : Program) (s x : Value) (H : AHeap) : aBuiltin P tb .append #[218, 218] [s, x] H = appW 2 16 s (srcOf H 2 x) H := aAppend_app (T := tb) (t := 218) (xt := 218) (sz := 2) (by_ := 16) (by kernel_rfl) s x H
@[go_sem] theorem ap_24_24 (P : Program) (s x : Value) (H : AHeap) : aBuiltin P tb .append #[24, 24] [s, x] H = appW 1 1 s (srcOf H 1 x) H := aAppend_app (T := tb) (t := 24) (xt := 24) (sz := 1) (by_ := 1) (by kernel_rfl) s x H
@[go_sem] theorem ap_24_9 (P : Program) (s x : Value) (H : AHeap) : aBuiltin P tb .append #[24, 9] [s, x] H = appW 1 1 s (srcOf H 1 x) H := aAppend_app (T := tb) (t := 24) (xt := 9) (sz := 1) (by_ := 1) (by kernel_rfl) s x H
@[go_sem] theorem ap_60_60 (P : Program) (s x : Value) (H : AHeap) : aBuiltin P tb .append #[60, 60] [s, x] H = appW 1 16 s (srcOf H 1 x) H := aAppend_app (T := tb) (t := 60) (xt := 60) (sz := 1) (by_ := 16) (by kernel_rfl) s x H
@[go_sem] theorem bl_117 (ps : List (Nat × Value)) : aBuild tb 117 ps = (afill (fun i => ([(0, 1), (1, 1), (2, 1), (3, 1), (4, 1), (5, 1)] : List (Nat × Nat))[i]?) [.int .i64 0, .int .i64 0, .int .i64 0, .int .i64 0, .int .i64 0, .int .i64 0] ps).map fun cs => .agg cs.toArray := by exact id (by kernel_rfl)
@[go_sem] theorem bl_125 (ps : List (Nat × Value)) : aBuild tb 125 ps = (afill (fun k => some (k * 1, 1)) [.string ⟨#[]⟩, .string ⟨#[]⟩] ps).map fun cs => .agg cs.toArray := by exact id (by kernel_rfl)
@[go_sem] theorem bl_146 (ps : List (Nat × Value)) : aBuild tb 146 ps = (afill (fun i => ([(0, 1), (1, 1), (2, 1), (3, 1)] : List (Nat × Nat))[i]?) [.slice none 0 0, .map none, .int .u8 0, .int .i64 0] ps).map fun cs => .agg cs.toArray := by exact id (by kernel_rfl)
@[go_sem] theorem bl_148 (ps : List (Nat × Value)) : aBuild tb 148 ps = (afill (fun i => ([(0, 1), (1, 1)] : List (Nat × Nat))[i]?) [.int .i64 0, .slice none 0 0] ps).map fun cs => .agg cs.toArray := by exact id (by kernel_rfl)
@[go_sem] theorem bl_158 (ps : List (Nat × Value)) : aBuild tb 158 ps = (afill (fun i => ([(0, 1), (1, 1)] : List (Nat × Nat))[i]?) [.string ⟨#[]⟩, .int .i64 0] ps).map fun cs => .agg cs.toArray := by exact id (by kernel_rfl)
@[go_sem] theorem bl_162 (ps : List (Nat × Value)) : aBuild tb 162 ps = (afill (fun i => ([(0, 1), (1, 1)] : List (Nat × Nat))[i]?) [.int .i64 0, .slice none 0 0] ps).map fun cs => .agg cs.toArray := by exact id (by kernel_rfl)
@[go_sem] theorem bl_214 (ps : List (Nat × Value)) : aBuild tb 214 ps = (afill (fun k => some (k * 1, 1)) [.string ⟨#[]⟩, .string ⟨#[]⟩, .string ⟨#[]⟩, .string ⟨#[]⟩, .string ⟨#[]⟩, .string ⟨#[]⟩, .string ⟨#[]⟩, .string ⟨#[]⟩, .string ⟨#[]⟩, .string ⟨#[]⟩, .string ⟨#[]⟩, .string ⟨#[]⟩, .string ⟨#[]⟩, .string ⟨#[]⟩, .string ⟨#[]⟩, .string ⟨#[]⟩, .string ⟨#[]⟩, .string ⟨#[]⟩, .string ⟨#[]⟩, .string ⟨#[]⟩, .string ⟨#[]⟩, .string ⟨#[]⟩, .string ⟨#[]⟩, .string ⟨#[]⟩, .string ⟨#[]⟩, .string ⟨#[]⟩, .string ⟨#[]⟩, .string ⟨#[]⟩, .string ⟨#[]⟩, .string ⟨#[]⟩, .string ⟨#[]⟩, .string ⟨#[]⟩, .string ⟨#[]⟩, .string ⟨#[]⟩, .string ⟨#[]⟩, .string ⟨#[]⟩, .string ⟨#[]⟩, .string ⟨#[]⟩, .string ⟨#[]⟩, .string ⟨#[]⟩] ps).map fun cs => .agg cs.toArray := by exact id (by kernel_rfl)
@[go_sem] theorem bl_220 (ps : List (Nat × Value)) : aBuild tb 220 ps = (afill (fun i => ([(0, 1), (1, 1)] : List (Nat × Nat))[i]?) [.int .i64 0, .int .i64 0] ps).map fun cs => .agg cs.toArray := by exact id (by kernel_rfl)
@[go_sem] theorem bl_231 (ps : List (Nat × Value)) : aBuild tb 231 ps = (afill (fun k => some (k * 1, 1)) [.int .u8 0, .int .u8 0, .int .u8 0] ps).map fun cs => .agg cs.toArray := by exact id (by kernel_rfl)
@[go_sem] theorem bl_69 (ps : List (Nat × Value)) : aBuild tb 69 ps = (afill (fun i => ([(0, 1), (1, 1)] : List (Nat × Nat))[i]?) [.int .u8 0, .slice none 0 0] ps).map fun cs => .agg cs.toArray := by exact id (by kernel_rfl)
@[go_sem] theorem bl_77 (ps : List (Nat × Value)) : aBuild tb 77 ps = (afill (fun i => ([(0, 1), (1, 1), (2, 1), (3, 1)] : List (Nat × Nat))[i]?) [.int .u8 0, .int .u8 0, .int .u8 0, .int .u8 0] ps).map fun cs => .agg cs.toArray := by exact id (by kernel_rfl)
@[go_sem] theorem bl_79 (ps : List (Nat × Value)) : aBuild tb 79 ps = (afill (fun k => some (k * 1, 1)) [.int .u8 0, .int .u8 0, .int .u8 0, .int .u8 0] ps).map fun cs => .agg cs.toArray := by exact id (by kernel_rfl)
@[go_sem] theorem bs_108_1 (ps : List (Nat × Value)) (H : AHeap) : aBuildSlice tb 108 1 ps H = (afill (fun k => some (k * 6, 6)) [.int .i64 0, .int .i64 0, .int .i64 0, .int .i64 0, .int .i64 0, .int .i64 0] ps).bind fun cs => (aNew cs 6 H).map fun r => (.slice (some ⟨H.next, 0, none⟩) 1 1, r.2) := by exact id (by kernel_rfl)
@[go_sem] theorem bs_119_1 (ps : List (Nat × Value)) (H : AHeap) : aBuildSlice tb 119 1 ps H = (afill (fun k => some (k * 2, 2)) [.string ⟨#[]⟩, .string ⟨#[]⟩] ps).bind fun cs => (aNew cs 2 H).map fun r => (.slice (some ⟨H.next, 0, none⟩) 1 1, r.2) := by exact id (by kernel_rfl)
@[go_sem] theorem bs_120_1 (ps : List (Nat × Value)) (H : AHeap) : aBuildSlice tb 120 1 ps H = (afill (fun k => some (k * 1, 1)) [.int .i64 0] ps).bind fun cs => (aNew cs 1 H).map fun r => (.slice (some ⟨H.next, 0, none⟩) 1 1, r.2) := by exact id (by kernel_rfl)
@[go_sem] theorem bs_120_3 (ps : List (Nat × Value)) (H : AHeap) : aBuildSlice tb 120 3 ps H = (afill (fun k => some (k * 1, 1)) [.int .i64 0, .int .i64 0, .int .i64 0] ps).bind fun cs => (aNew cs 1 H).map fun r => (.slice (some ⟨H.next, 0, none⟩) 3 3, r.2) := by exact id (by kernel_rfl)
@[go_sem] theorem bs_120_5 (ps : List (Nat × Value)) (H : AHeap) : aBuildSlice tb 120 5 ps H = (afill (fun k => some (k * 1, 1)) [.int .i64 0, .int .i64 0, .int .i64 0, .int .i64 0, .int .i64 0] ps).bind fun cs => (aNew cs 1 H).map fun r => (.slice (some ⟨H.next, 0, none⟩) 5 5, r.2) := by exact id (by kernel_rfl)
@[go_sem] theorem bs_120_9 (ps : List (Nat × Value)) (H : AHeap) : aBuildSlice tb 120 9 ps H = (afill (fun k => some (k * 1, 1)) [.int .i64 0, .int .i64 0, .int .i64 0, .int .i64 0, .int .i64 0, .int .i64 0, .int .i64 0, .int .i64 0, .int .i64 0] ps).bind fun cs => (aNew cs 1 H).map fun r => (.slice (some ⟨H.next, 0, none⟩) 9 9, r.2) := by exact id (by kernel_rfl)
@[go_sem] theorem bs_126_1 (ps : List (Nat × Value)) (H : AHeap) : aBuildSlice tb 126 1 ps H = (afill (fun k => some (k * 1, 1)) [.slice none 0 0] ps).bind fun cs => (aNew cs 1 H).map fun r => (.slice (some ⟨H.next, 0, none⟩) 1 1, r.2) := by exact id (by kernel_rfl)
@[go_sem] theorem bs_144_1 (ps : List (Nat × Value)) (H : AHeap) : aBuildSlice tb 144 1 ps H = (afill (fun k => some (k * 2, 2)) [.int .i64 0, .slice none 0 0] ps).bind fun cs => (aNew cs 2 H).map fun r => (.slice (some ⟨H.next, 0, none⟩) 1 1, r.2) := by exact id (by kernel_rfl)
@[go_sem] theorem bs_154_1 (ps : List (Nat × Value)) (H : AHeap) : aBuildSlice tb 154 1 ps H = (afill (fun k => some (k * 2, 2)) [.string ⟨#[]⟩, .int .i64 0] ps).bind fun cs => (aNew cs 2 H).map fun r => (.slice (some ⟨H.next, 0, none⟩) 1 1, r.2) := by exact id (by kernel_rfl)
@[go_sem] theorem bs_155_1 (ps : List (Nat × Value)) (H : AHeap) : aBuildSlice tb 155 1 ps H = (afill (fun k => some (k * 2, 2)) [.int .i64 0, .slice none 0 0] ps).bind fun cs => (aNew cs 2 H).map fun r => (.slice (some ⟨H.next, 0, none⟩) 1 1, r.2) := by exact id (by kernel_rfl)
@[go_sem] theorem bs_189_5 (ps : List (Nat × Value)) (H : AHeap) : aBuildSlice tb 189 5 ps H = (afill (fun k => some (k * 1, 1)) [.pointer none, .pointer none, .pointer none, .pointer none, .pointer none] ps).bind fun cs => (aNew cs 1 H).map fun r => (.slice (some ⟨H.next, 0, none⟩) 5 5, r.2) := by exact id (by kernel_rfl)
@[go_sem] theorem bs_205_3 (ps : List (Nat × Value)) (H : AHeap) : aBuildSlice tb 205 3 ps H = (afill (fun k => some (k * 1, 1)) [.pointer none, .pointer none, .pointer none] ps).bind fun cs => (aNew cs 1 H).map fun r => (.slice (some ⟨H.next, 0, none⟩) 3 3, r.2) := by exact id (by kernel_rfl)
@[go_sem] theorem bs_218_1 (ps : List (Nat × Value)) (H : AHeap) : aBuildSlice tb 218 1 ps H = (afill (fun k => some (k * 2, 2)) [.int .i64 0, .int .i64 0] ps).bind fun cs => (aNew cs 2 H).map fun r => (.slice (some ⟨H.next, 0, none⟩) 1 1, r.2) := by exact id (by kernel_rfl)
@[go_sem] theorem bs_24_1 (ps : List (Nat × Value)) (H : AHeap) : aBuildSlice tb 24 1 ps H = (afill (fun k => some (k * 1, 1)) [.int .u8 0] ps).bind fun cs => (aNew cs 1 H).map fun r => (.slice (some ⟨H.next, 0, none⟩) 1 1, r.2) := by exact id (by kernel_rfl)
@[go_sem] theorem bs_24_3 (ps : List (Nat × Value)) (H : AHeap) : aBuildSlice tb 24 3 ps H = (afill (fun k => some (k * 1, 1)) [.int .u8 0, .int .u8 0, .int .u8 0] ps).bind fun cs => (aNew cs 1 H).map fun r => (.slice (some ⟨H.next, 0, none⟩) 3 3, r.2) := by exact id (by kernel_rfl)
@[go_sem] theorem bs_24_4 (ps : List (Nat × Value)) (H : AHeap) : aBuildSlice tb 24 4 ps H = (afill (fun k => some (k * 1, 1)) [.int .u8 0, .int .u8 0, .int .u8 0, .int .u8 0] ps).bind fun cs => (aNew cs 1 H).map fun r => (.slice (some ⟨H.next, 0, none⟩) 4 4, r.2) := by exact id (by kernel_rfl)
@[go_sem] theorem bs_24_8 (ps : List (Nat × Value)) (H : AHeap) : aBuildSlice tb 24 8 ps H = (afill (fun k => some (k * 1, 1)) [.int .u8 0, .int .u8 0, .int .u8 0, .int .u8 0, .int .u8 0, .int .u8 0, .int .u8 0, .int .u8 0] ps).bind fun cs => (aNew cs 1 H).map fun r => (.slice (some ⟨H.next, 0, none⟩) 8 8, r.2) := by exact id (by kernel_rfl)
@[go_sem] theorem bs_51_4 (ps : List (Nat × Value)) (H : AHeap) : aBuildSlice tb 51 4 ps H = (afill (fun k => some (k * 1, 1)) [.slice none 0 0, .slice none 0 0, .slice none 0 0, .slice none 0 0] ps).bind fun cs => (aNew cs 1 H).map fun r => (.slice (some ⟨H.next, 0, none⟩) 4 4, r.2) := by exact id (by kernel_rfl)
@[go_sem] theorem bs_52_3 (ps : List (Nat × Value)) (H : AHeap) : aBuildSlice tb 52 3 ps H = (afill (fun k => some (k * 1, 1)) [.slice none 0 0, .slice none 0 0, .slice none 0 0] ps).bind fun cs => (aNew cs 1 H).map fun r => (.slice (some ⟨H.next, 0, none⟩) 3 3, r.2) := by exact id (by kernel_rfl)
@[go_sem] theorem bs_60_1 (ps : List (Nat × Value)) (H : AHeap) : aBuildSlice tb 60 1 ps H = (afill (fun k => some (k * 1, 1)) [.string ⟨#[]⟩] ps).bind fun cs => (aNew cs 1 H).map fun r => (.slice (some ⟨H.next, 0, none⟩) 1 1, r.2) := by exact id (by kernel_rfl)
@[go_sem] theorem bs_60_14 (ps : List (Nat × Value)) (H : AHeap) : aBuildSlice tb 60 14 ps H = (afill (fun k => some (k * 1, 1)) [.string ⟨#[]⟩, .string ⟨#[]⟩, .string ⟨#[]⟩, .string ⟨#[]⟩, .string ⟨#[]⟩, .string ⟨#[]⟩, .string ⟨#[]⟩, .string ⟨#[]⟩, .string ⟨#[]⟩, .string ⟨#[]⟩, .string ⟨#[]⟩, .string ⟨#[]⟩, .string ⟨#[]⟩, .string ⟨#[]⟩] ps).bind fun cs => (aNew cs 1 H).map fun r => (.slice (some ⟨H.next, 0, none⟩) 14 14, r.2) := by exact id (by kernel_rfl)
@[go_sem] theorem bs_60_2 (ps : List (Nat × Value)) (H : AHeap) : aBuildSlice tb 60 2 ps H = (afill (fun k => some (k * 1, 1)) [.string ⟨#[]⟩, .string ⟨#[]⟩] ps).bind fun cs => (aNew cs 1 H).map fun r => (.slice (some ⟨H.next, 0, none⟩) 2 2, r.2) := by exact id (by kernel_rfl)
@[go_sem] theorem bs_60_3 (ps : List (Nat × Value)) (H : AHeap) : aBuildSlice tb 60 3 ps H = (afill (fun k => some (k * 1, 1)) [.string ⟨#[]⟩, .string ⟨#[]⟩, .string ⟨#[]⟩] ps).bind fun cs => (aNew cs 1 H).map fun r => (.slice (some ⟨H.next, 0, none⟩) 3 3, r.2) := by exact id (by kernel_rfl)
@[go_sem] theorem bs_60_39 (ps : List (Nat × Value)) (H : AHeap) : aBuildSlice tb 60 39 ps H = (afill (fun k => some (k * 1, 1)) [.string ⟨#[]⟩, .string ⟨#[]⟩, .string ⟨#[]⟩, .string ⟨#[]⟩, .string ⟨#[]⟩, .string ⟨#[]⟩, .string ⟨#[]⟩, .string ⟨#[]⟩, .string ⟨#[]⟩, .string ⟨#[]⟩, .string ⟨#[]⟩, .string ⟨#[]⟩, .string ⟨#[]⟩, .string ⟨#[]⟩, .string ⟨#[]⟩, .string ⟨#[]⟩, .string ⟨#[]⟩, .string ⟨#[]⟩, .string ⟨#[]⟩, .string ⟨#[]⟩, .string ⟨#[]⟩, .string ⟨#[]⟩, .string ⟨#[]⟩, .string ⟨#[]⟩, .string ⟨#[]⟩, .string ⟨#[]⟩, .string ⟨#[]⟩, .string ⟨#[]⟩, .string ⟨#[]⟩, .string ⟨#[]⟩, .string ⟨#[]⟩, .string ⟨#[]⟩, .string ⟨#[]⟩, .string ⟨#[]⟩, .string ⟨#[]⟩, .string ⟨#[]⟩, .string ⟨#[]⟩, .string ⟨#[]⟩, .string ⟨#[]⟩] ps).bind fun cs => (aNew cs 1 H).map fun r => (.slice (some ⟨H.next, 0, none⟩) 39 39, r.2) := by exact id (by kernel_rfl)
@[go_sem] theorem bs_60_40 (ps : List (Nat × Value)) (H : AHeap) : aBuildSlice tb 60 40 ps H = (afill (fun k => some (k * 1, 1)) [.string ⟨#[]⟩, .string ⟨#[]⟩, .string ⟨#[]⟩, .string ⟨#[]⟩, .string ⟨#[]⟩, .string ⟨#[]⟩, .string ⟨#[]⟩, .string ⟨#[]⟩, .string ⟨#[]⟩, .string ⟨#[]⟩, .string ⟨#[]⟩, .string ⟨#[]⟩, .string ⟨#[]⟩, .string ⟨#[]⟩, .string ⟨#[]⟩, .string ⟨#[]⟩, .string ⟨#[]⟩, .string ⟨#[]⟩, .string ⟨#[]⟩, .string ⟨#[]⟩, .string ⟨#[]⟩, .string ⟨#[]⟩, .string ⟨#[]⟩, .string ⟨#[]⟩, .string ⟨#[]⟩, .string ⟨#[]⟩, .string ⟨#[]⟩, .string ⟨#[]⟩, .string ⟨#[]⟩, .string ⟨#[]⟩, .string ⟨#[]⟩, .string ⟨#[]⟩, .string ⟨#[]⟩, .string ⟨#[]⟩, .string ⟨#[]⟩, .string ⟨#[]⟩, .string ⟨#[]⟩, .string ⟨#[]⟩, .string ⟨#[]⟩, .string ⟨#[]⟩] ps).bind fun cs => (aNew cs 1 H).map fun r => (.slice (some ⟨H.next, 0, none⟩) 40 40, r.2) := by exact id (by kernel_rfl)
@[go_sem] theorem bs_82_7 (ps : List (Nat × Value)) (H : AHeap) : aBuildSlice tb 82 7 ps H = (afill (fun k => some (k * 4, 4)) [.int .u8 0, .int .u8 0, .int .u8 0, .int .u8 0, .int .u8 0, .int .u8 0, .int .u8 0, .int .u8 0, .int .u8 0, .int .u8 0, .int .u8 0, .int .u8 0, .int .u8 0, .int .u8 0, .int .u8 0, .int .u8 0, .int .u8 0, .int .u8 0, .int .u8 0, .int .u8 0, .int .u8 0, .int .u8 0, .int .u8 0, .int .u8 0, .int .u8 0, .int .u8 0, .int .u8 0, .int .u8 0] ps).bind fun cs => (aNew cs 4 H).map fun r => (.slice (some ⟨H.next, 0, none⟩) 7 7, r.2) := by exact id (by kernel_rfl)
@[go_sem] theorem cv_111_5 (k : IntKind) (n : Int) (H : AHeap) : aConv tb 111 5 (.int k n) H = some (.int .u8 (IntKind.wrap .u8 n), H) := by exact id (by kernel_rfl)
@[go_sem] theorem cv_165_3 (k : IntKind) (n : Int) (H : AHeap) : aConv tb 165 3 (.int k n) H = some (.int .i64 (IntKind.wrap .i64 n), H) := by exact id (by kernel_rfl)
@[go_sem] theorem cv_165_34 (k : IntKind) (n : Int) (H : AHeap) : aConv tb 165 34 (.int k n) H = some (.int .u16 (IntKind.wrap .u16 n), H) := by exact id (by kernel_rfl)
@[go_sem] theorem cv_215_21 (k : IntKind) (n : Int) (H : AHeap) : aConv tb 215 21 (.int k n) H = some (.int .i32 (IntKind.wrap .i32 n), H) := by exact id (by kernel_rfl)
@[go_sem] theorem cv_21_111 (k : IntKind) (n : Int) (H : AHeap) : aConv tb 21 111 (.int k n) H = some (.int .u32 (IntKind.wrap .u32 n), H) := by exact id (by kernel_rfl)
@[go_sem] theorem cv_21_3 (k : IntKind) (n : Int) (H : AHeap) : aConv tb 21 3 (.int k n) H = some (.int .i64 (IntKind.wrap .i64 n), H) := by exact id (by kernel_rfl)
@[go_sem] theorem cv_27_111 (k : IntKind) (n : Int) (H : AHeap) : aConv tb 27 111 (.int k n) H = some (.int .u32 (IntKind.wrap .u32 n), H) := by exact id (by kernel_rfl)
@[go_sem] theorem cv_2_5 (k : IntKind) (n : Int) (H : AHeap) : aConv tb 2 5 (.int k n) H = some (.int .u8 (IntKind.wrap .u8 n), H) := by exact id (by kernel_rfl)
@[go_sem] theorem cv_34_111 (k : IntKind) (n : Int) (H : AHeap) : aConv tb 34 111 (.int k n) H = some (.int .u32 (IntKind.wrap .u32 n), H) := by exact id (by kernel_rfl)
@[go_sem] theorem cv_34_165 (k : IntKind) (n : Int) (H : AHeap) : aConv tb 34 165 (.int k n) H = some (.int .i16 (IntKind.wrap .i16 n), H) := by exact id (by kernel_rfl)
@[go_sem] theorem cv_34_5 (k : IntKind) (n : Int) (H : AHeap) : aConv tb 34 5 (.int k n) H = some (.int .u8 (IntKind.wrap .u8 n), H) := by exact id (by kernel_rfl)
@[go_sem] theorem cv_3_111 (k : IntKind) (n : Int) (H : AHeap) : aConv tb 3 111 (.int k n) H = some (.int .u32 (IntKind.wrap .u32 n), H) := by exact id (by kernel_rfl)
@[go_sem] theorem cv_3_165 (k : IntKind) (n : Int) (H : AHeap) : aConv tb 3 165 (.int k n) H = some (.int .i16 (IntKind.wrap .i16 n), H) := by exact id (by kernel_rfl)
@[go_sem] theorem cv_3_21 (k : IntKind) (n : Int) (H : AHeap) : aConv tb 3 21 (.int k n) H = some (.int .i32 (IntKind.wrap .i32 n), H) := by exact id (by kernel_rfl)
@[go_sem] theorem cv_3_34 (k : IntKind) (n : Int) (H : AHeap) : aConv tb 3 34 (.int k n) H = some (.int .u16 (IntKind.wrap .u16 n), H) := by exact id (by kernel_rfl)
@[go_sem] theorem cv_5_111 (k : IntKind) (n : Int) (H : AHeap) : aConv tb 5 111 (.int k n) H = some (.int .u32 (IntKind.wrap .u32 n), H) := by exact id (by kernel_rfl)
@[go_sem] theorem cv_5_21 (k : IntKind) (n : Int) (H : AHeap) : aConv tb 5 21 (.int k n) H = some (.int .i32 (IntKind.wrap .i32 n), H) := by exact id (by kernel_rfl)
@[go_sem] theorem cv_5_215 (k : IntKind) (n : Int) (H : AHeap) : aConv tb 5 215 (.int k n) H = some (.int .i8 (IntKind.wrap .i8 n), H) := by exact id (by kernel_rfl)
@[go_sem] theorem cv_75_3 (k : IntKind) (n : Int) (H : AHeap) : aConv tb 75 3 (.int k n) H = some (.int .i64 (IntKind.wrap .i64 n), H) := by exact id (by kernel_rfl)
@[go_sem] theorem fa_117_0 (b o : Nat) (sp : Option Nat) : aFieldAddr tb 117 (.pointer (some ⟨b, o, sp⟩)) 0 = some (.pointer (some ⟨b, o + 0, none⟩)) := by exact id (by kernel_rfl)
@[go_sem] theorem fa_117_1 (b o : Nat) (sp : Option Nat) : aFieldAddr tb 117 (.pointer (some ⟨b, o, sp⟩)) 1 = some (.pointer (some ⟨b, o + 1, none⟩)) := by exact id (by kernel_rfl)
@[go_sem] theorem fa_117_2 (b o : Nat) (sp : Option Nat) : aFieldAddr tb 117 (.pointer (some ⟨b, o, sp⟩)) 2 = some (.pointer (some ⟨b, o + 2, none⟩)) := by exact id (by kernel_rfl)
@[go_sem] theorem fa_117_3 (b o : Nat) (sp : Option Nat) : aFieldAddr tb 117 (.pointer (some ⟨b, o, sp⟩)) 3 = some (.pointer (some ⟨b, o + 3, none⟩)) := by exact id (by kernel_rfl)
@[go_sem] theorem fa_117_4 (b o : Nat) (sp : Option Nat) : aFieldAddr tb 117 (.pointer (some ⟨b, o, sp⟩)) 4 = some (.pointer (some ⟨b, o + 4, none⟩)) := by exact id (by kernel_rfl)
@[go_sem] theorem fa_117_5 (b o : Nat) (sp : Option Nat) : aFieldAddr tb 117 (.pointer (some ⟨b, o, sp⟩)) 5 = some (.pointer (some ⟨b, o + 5, none⟩)) := by exact id (by kernel_rfl)
@[go_sem] theorem fa_134_0 (b o : Nat) (sp : Option Nat) : aFieldAddr tb 134 (.pointer (some ⟨b, o, sp⟩)) 0 = some (.pointer (some ⟨b, o + 0, none⟩)) := by exact id (by kernel_rfl)
@[go_sem] theorem fa_134_1 (b o : Nat) (sp : Option Nat) : aFieldAddr tb 134 (.pointer (some ⟨b, o, sp⟩)) 1 = some (.pointer (some ⟨b, o + 1, none⟩)) := by exact id (by kernel_rfl)
@[go_sem] theorem fa_146_0 (b o : Nat) (sp : Option Nat) : aFieldAddr tb 146 (.pointer (some ⟨b, o, sp⟩)) 0 = some (.pointer (some ⟨b, o + 0, none⟩)) := by exact id (by kernel_rfl)
@[go_sem] theorem fa_146_1 (b o : Nat) (sp : Option Nat) : aFieldAddr tb 146 (.pointer (some ⟨b, o, sp⟩)) 1 = some (.pointer (some ⟨b, o + 1, none⟩)) := by exact id (by kernel_rfl)
@[go_sem] theorem fa_146_2 (b o : Nat) (sp : Option Nat) : aFieldAddr tb 146 (.pointer (some ⟨b, o, sp⟩)) 2 = some (.pointer (some ⟨b, o + 2, none⟩)) := by exact id (by kernel_rfl)
@[go_sem] theorem fa_146_3 (b o : Nat) (sp : Option Nat) : aFieldAddr tb 146 (.pointer (some ⟨b, o, sp⟩)) 3 = some (.pointer (some ⟨b, o + 3, none⟩)) := by exact id (by kernel_rfl)
@[go_sem] theorem fa_148_0 (b o : Nat) (sp : Option Nat) : aFieldAddr tb 148 (.pointer (some ⟨b, o, sp⟩)) 0 = some (.pointer (some ⟨b, o + 0, none⟩)) := by exact id (by kernel_rfl)
@[go_sem] theorem fa_148_1 (b o : Nat) (sp : Option Nat) : aFieldAddr tb 148 (.pointer (some ⟨b, o, sp⟩)) 1 = some (.pointer (some ⟨b, o + 1, none⟩)) := by exact id (by kernel_rfl)
@[go_sem] theorem fa_158_0 (b o : Nat) (sp : Option Nat) : aFieldAddr tb 158 (.pointer (some ⟨b, o, sp⟩)) 0 = some (.pointer (some ⟨b, o + 0, none⟩)) := by exact id (by kernel_rfl)
@[go_sem] theorem fa_158_1 (b o : Nat) (sp : Option Nat) : aFieldAddr tb 158 (.pointer (some ⟨b, o, sp⟩)) 1 = some (.pointer (some ⟨b, o + 1, none⟩)) := by exact id (by kernel_rfl)
@[go_sem] theorem fa_162_0 (b o : Nat) (sp : Option Nat) : aFieldAddr tb 162 (.pointer (some ⟨b, o, sp⟩)) 0 = some (.pointer (some ⟨b, o + 0, none⟩)) := by exact id (by kernel_rfl)
@[go_sem] theorem fa_162_1 (b o : Nat) (sp : Option Nat) : aFieldAddr tb 162 (.pointer (some ⟨b, o, sp⟩)) 1 = some (.pointer (some ⟨b, o + 1, none⟩)) := by exact id (by kernel_rfl)
@[go_sem] theorem fa_220_0 (b o : Nat) (sp : Option Nat) : aFieldAddr tb 220 (.pointer (some ⟨b, o, sp⟩)) 0 = some (.pointer (some ⟨b, o + 0, none⟩)) := by exact id (by kernel_rfl)
@[go_sem] theorem fa_220_1 (b o : Nat) (sp : Option Nat) : aFieldAddr tb 220 (.pointer (some ⟨b, o, sp⟩)) 1 = some (.pointer (some ⟨b, o + 1, none⟩)) := by exact id (by kernel_rfl)
@[go_sem] theorem fa_238_0 (b o : Nat) (sp : Option Nat) : aFieldAddr tb 238 (.pointer (some ⟨b, o, sp⟩)) 0 = some (.pointer (some ⟨b, o + 0, none⟩)) := by exact id (by kernel_rfl)
@[go_sem] theorem fa_238_1 (b o : Nat) (sp : Option Nat) : aFieldAddr tb 238 (.pointer (some ⟨b, o, sp⟩)) 1 = some (.pointer (some ⟨b, o + 1, none⟩)) := by exact id (by kernel_rfl)
@[go_sem] theorem fa_69_0 (b o : Nat) (sp : Option Nat) : aFieldAddr tb 69 (.pointer (some ⟨b, o, sp⟩)) 0 = some (.pointer (some ⟨b, o + 0, none⟩)) := by exact id (by kernel_rfl)
@[go_sem] theorem fa_69_1 (b o : Nat) (sp : Option Nat) : aFieldAddr tb 69 (.pointer (some ⟨b, o, sp⟩)) 1 = some (.pointer (some ⟨b, o + 1, none⟩)) := by exact id (by kernel_rfl)
@[go_sem] theorem fa_77_0 (b o : Nat) (sp : Option Nat) : aFieldAddr tb 77 (.pointer (some ⟨b, o, sp⟩)) 0 = some (.pointer (some ⟨b, o + 0, none⟩)) := by exact id (by kernel_rfl)
@[go_sem] theorem fa_77_1 (b o : Nat) (sp : Option Nat) : aFieldAddr tb 77 (.pointer (some ⟨b, o, sp⟩)) 1 = some (.pointer (some ⟨b, o + 1, none⟩)) := by exact id (by kernel_rfl)
@[go_sem] theorem fa_77_2 (b o : Nat) (sp : Option Nat) : aFieldAddr tb 77 (.pointer (some ⟨b, o, sp⟩)) 2 = some (.pointer (some ⟨b, o + 2, none⟩)) := by exact id (by kernel_rfl)
@[go_sem] theorem fa_77_3 (b o : Nat) (sp : Option Nat) : aFieldAddr tb 77 (.pointer (some ⟨b, o, sp⟩)) 3 = some (.pointer (some ⟨b, o + 3, none⟩)) := by exact id (by kernel_rfl)
@[go_sem] theorem fa_93_5 (b o : Nat) (sp : Option Nat) : aFieldAddr tb 93 (.pointer (some ⟨b, o, sp⟩)) 5 = some (.pointer (some ⟨b, o + 5, none⟩)) := by exact id (by kernel_rfl)
@[go_sem] theorem in_9 (s : ByteArray) (k : IntKind) (i : Int) : aIndex tb 9 (.string s) (.int k i) = if 0 ≤ i then (s.data.toList[i.toNat]?).map fun b => .int .u8 b.toNat else none := by exact id (by kernel_rfl)
@[go_sem] theorem ix_108 (b o l c : Nat) (sp : Option Nat) (k : IntKind) (i : Int) : aIndexAddr tb 108 (.slice (some ⟨b, o, sp⟩) l c) (.int k i) = if 0 ≤ i ∧ i < l then some (.pointer (some ⟨b, o + i.toNat * 6, none⟩)) else none := aIndexAddr_slice (by kernel_rfl) b o l c sp k i
@[go_sem] theorem ix_119 (b o l c : Nat) (sp : Option Nat) (k : IntKind) (i : Int) : aIndexAddr tb 119 (.slice (some ⟨b, o, sp⟩) l c) (.int k i) = if 0 ≤ i ∧ i < l then some (.pointer (some ⟨b, o + i.toNat * 2, none⟩)) else none := aIndexAddr_slice (by kernel_rfl) b o l c sp k i
@[go_sem] theorem ix_120 (b o l c : Nat) (sp : Option Nat) (k : IntKind) (i : Int) : aIndexAddr tb 120 (.slice (some ⟨b, o, sp⟩) l c) (.int k i) = if 0 ≤ i ∧ i < l then some (.pointer (some ⟨b, o + i.toNat * 1, none⟩)) else none := aIndexAddr_slice (by kernel_rfl) b o l c sp k i
@[go_sem] theorem ix_125 (b o : Nat) (sp : Option Nat) (k : IntKind) (i : Int) : aIndexAddr tb 125 (.pointer (some ⟨b, o, sp⟩)) (.int k i) = if 0 ≤ i ∧ i < (2 : Nat) then some (.pointer (some ⟨b, o + i.toNat * 1, none⟩)) else none := aIndexAddr_array (by kernel_rfl) b o sp k i
@[go_sem] theorem ix_126 (b o l c : Nat) (sp : Option Nat) (k : IntKind) (i : Int) : aIndexAddr tb 126 (.slice (some ⟨b, o, sp⟩) l c) (.int k i) = if 0 ≤ i ∧ i < l then some (.pointer (some ⟨b, o + i.toNat * 1, none⟩)) else none := aIndexAddr_slice (by kernel_rfl) b o l c sp k i
@[go_sem] theorem ix_129 (b o : Nat) (sp : Option Nat) (k : IntKind) (i : Int) : aIndexAddr tb 129 (.pointer (some ⟨b, o, sp⟩)) (.int k i) = if 0 ≤ i ∧ i < (5 : Nat) then some (.pointer (some ⟨b, o + i.toNat * 1, none⟩)) else none := aIndexAddr_array (by kernel_rfl) b o sp k i
@[go_sem] theorem ix_144 (b o l c : Nat) (sp : Option Nat) (k : IntKind) (i : Int) : aIndexAddr tb 144 (.slice (some ⟨b, o, sp⟩) l c) (.int k i) = if 0 ≤ i ∧ i < l then some (.pointer (some ⟨b, o + i.toNat * 2, none⟩)) else none := aIndexAddr_slice (by kernel_rfl) b o l c sp k i
@[go_sem] theorem ix_154 (b o l c : Nat) (sp : Option Nat) (k : IntKind) (i : Int) : aIndexAddr tb 154 (.slice (some ⟨b, o, sp⟩) l c) (.int k i) = if 0 ≤ i ∧ i < l then some (.pointer (some ⟨b, o + i.toNat * 2, none⟩)) else none := aIndexAddr_slice (by kernel_rfl) b o l c sp k i
@[go_sem] theorem ix_155 (b o l c : Nat) (sp : Option Nat) (k : IntKind) (i : Int) : aIndexAddr tb 155 (.slice (some ⟨b, o, sp⟩) l c) (.int k i) = if 0 ≤ i ∧ i < l then some (.pointer (some ⟨b, o + i.toNat * 2, none⟩)) else none := aIndexAddr_slice (by kernel_rfl) b o l c sp k i
@[go_sem] theorem ix_189 (b o l c : Nat) (sp : Option Nat) (k : IntKind) (i : Int) : aIndexAddr tb 189 (.slice (some ⟨b, o, sp⟩) l c) (.int k i) = if 0 ≤ i ∧ i < l then some (.pointer (some ⟨b, o + i.toNat * 1, none⟩)) else none := aIndexAddr_slice (by kernel_rfl) b o l c sp k i
@[go_sem] theorem ix_205 (b o l c : Nat) (sp : Option Nat) (k : IntKind) (i : Int) : aIndexAddr tb 205 (.slice (some ⟨b, o, sp⟩) l c) (.int k i) = if 0 ≤ i ∧ i < l then some (.pointer (some ⟨b, o + i.toNat * 1, none⟩)) else none := aIndexAddr_slice (by kernel_rfl) b o l c sp k i
@[go_sem] theorem ix_214 (b o : Nat) (sp : Option Nat) (k : IntKind) (i : Int) : aIndexAddr tb 214 (.pointer (some ⟨b, o, sp⟩)) (.int k i) = if 0 ≤ i ∧ i < (40 : Nat) then some (.pointer (some ⟨b, o + i.toNat * 1, none⟩)) else none := aIndexAddr_array (by kernel_rfl) b o sp k i
@[go_sem] theorem ix_218 (b o l c : Nat) (sp : Option Nat) (k : IntKind) (i : Int) : aIndexAddr tb 218 (.slice (some ⟨b, o, sp⟩) l c) (.int k i) = if 0 ≤ i ∧ i < l then some (.pointer (some ⟨b, o + i.toNat * 2, none⟩)) else none := aIndexAddr_slice (by kernel_rfl) b o l c sp k i
@[go_sem] theorem ix_231 (b o : Nat) (sp : Option Nat) (k : IntKind) (i : Int) : aIndexAddr tb 231 (.pointer (some ⟨b, o, sp⟩)) (.int k i) = if 0 ≤ i ∧ i < (3 : Nat) then some (.pointer (some ⟨b, o + i.toNat * 1, none⟩)) else none := aIndexAddr_array (by kernel_rfl) b o sp k i
@[go_sem] theorem ix_235 (b o : Nat) (sp : Option Nat) (k : IntKind) (i : Int) : aIndexAddr tb 235 (.pointer (some ⟨b, o, sp⟩)) (.int k i) = if 0 ≤ i ∧ i < (32 : Nat) then some (.pointer (some ⟨b, o + i.toNat * 1, none⟩)) else none := aIndexAddr_array (by kernel_rfl) b o sp k i
@[go_sem] theorem ix_236 (b o : Nat) (sp : Option Nat) (k : IntKind) (i : Int) : aIndexAddr tb 236 (.pointer (some ⟨b, o, sp⟩)) (.int k i) = if 0 ≤ i ∧ i < (256 : Nat) then some (.pointer (some ⟨b, o + i.toNat * 1, none⟩)) else none := aIndexAddr_array (by kernel_rfl) b o sp k i
@[go_sem] theorem ix_239 (b o : Nat) (sp : Option Nat) (k : IntKind) (i : Int) : aIndexAddr tb 239 (.pointer (some ⟨b, o, sp⟩)) (.int k i) = if 0 ≤ i ∧ i < (16 : Nat) then some (.pointer (some ⟨b, o + i.toNat * 2, none⟩)) else none := aIndexAddr_array (by kernel_rfl) b o sp k i
@[go_sem] theorem ix_51 (b o l c : Nat) (sp : Option Nat) (k : IntKind) (i : Int) : aIndexAddr tb 51 (.slice (some ⟨b, o, sp⟩) l c) (.int k i) = if 0 ≤ i ∧ i < l then some (.pointer (some ⟨b, o + i.toNat * 1, none⟩)) else none := aIndexAddr_slice (by kernel_rfl) b o l c sp k i
@[go_sem] theorem ix_52 (b o l c : Nat) (sp : Option Nat) (k : IntKind) (i : Int) : aIndexAddr tb 52 (.slice (some ⟨b, o, sp⟩) l c) (.int k i) = if 0 ≤ i ∧ i < l then some (.pointer (some ⟨b, o + i.toNat * 1, none⟩)) else none := aIndexAddr_slice (by kernel_rfl) b o l c sp k i
@[go_sem] theorem ix_79 (b o : Nat) (sp : Option Nat) (k : IntKind) (i : Int) : aIndexAddr tb 79 (.pointer (some ⟨b, o, sp⟩)) (.int k i) = if 0 ≤ i ∧ i < (4 : Nat) then some (.pointer (some ⟨b, o + i.toNat * 1, none⟩)) else none := aIndexAddr_array (by kernel_rfl) b o sp k i
@[go_sem] theorem ix_82 (b o l c : Nat) (sp : Option Nat) (k : IntKind) (i : Int) : aIndexAddr tb 82 (.slice (some ⟨b, o, sp⟩) l c) (.int k i) = if 0 ≤ i ∧ i < l then some (.pointer (some ⟨b, o + i.toNat * 4, none⟩)) else none := aIndexAddr_slice (by kernel_rfl) b o l c sp k i
@[go_sem] theorem ld_117 (b o : Nat) (sp : Option Nat) (H : AHeap) : aLoad tb 117 (.pointer (some ⟨b, o, sp⟩)) H = (ldN (H.get b) o 6).map fun vs => (.agg vs.toArray, H) := aLoad_agg (by kernel_rfl) b o sp H
@[go_sem] theorem ld_125 (b o : Nat) (sp : Option Nat) (H : AHeap) : aLoad tb 125 (.pointer (some ⟨b, o, sp⟩)) H = (ldN (H.get b) o 2).map fun vs => (.agg vs.toArray, H) := aLoad_agg (by kernel_rfl) b o sp H
@[go_sem] theorem ld_132 (b o : Nat) (sp : Option Nat) (H : AHeap) : aLoad tb 132 (.pointer (some ⟨b, o, sp⟩)) H = (ld1 (H.get b) o).map (·, H) := aLoad_one (by kernel_rfl) b o sp H
@[go_sem] theorem ld_144 (b o : Nat) (sp : Option Nat) (H : AHeap) : aLoad tb 144 (.pointer (some ⟨b, o, sp⟩)) H = (ld1 (H.get b) o).map (·, H) := aLoad_one (by kernel_rfl) b o sp H
@[go_sem] theorem ld_148 (b o : Nat) (sp : Option Nat) (H : AHeap) : aLoad tb 148 (.pointer (some ⟨b, o, sp⟩)) H = (ldN (H.get b) o 2).map fun vs => (.agg vs.toArray, H) := aLoad_agg (by kernel_rfl) b o sp H
@[go_sem] theorem ld_188 (b o : Nat) (sp : Option Nat) (H : AHeap) : aLoad tb 188 (.pointer (some ⟨b, o, sp⟩)) H = (ld1 (H.get b) o).map (·, H) := aLoad_one (by kernel_rfl) b o sp H
@[go_sem] theorem ld_195 (b o : Nat) (sp : Option Nat) (H : AHeap) : aLoad tb 195 (.pointer (some ⟨b, o, sp⟩)) H = (ld1 (H.get b) o).map (·, H) := aLoad_one (by kernel_rfl) b o sp H
@[go_sem] theorem ld_220 (b o : Nat) (sp : Option Nat) (H : AHeap) : aLoad tb 220 (.pointer (some ⟨b, o, sp⟩)) H = (ldN (H.get b) o 2).map fun vs => (.agg vs.toArray, H) := aLoad_agg (by kernel_rfl) b o sp H
@[go_sem] theorem ld_238 (b o : Nat) (sp : Option Nat) (H : AHeap) : aLoad tb 238 (.pointer (some ⟨b, o, sp⟩)) H = (ldN (H.get b) o 2).map fun vs => (.agg vs.toArray, H) := aLoad_agg (by kernel_rfl) b o sp H
@[go_sem] theorem ld_60 (b o : Nat) (sp : Option Nat) (H : AHeap) : aLoad tb 60 (.pointer (some ⟨b, o, sp⟩)) H = (ld1 (H.get b) o).map (·, H) := aLoad_one (by kernel_rfl) b o sp H
@[go_sem] theorem ld_69 (b o : Nat) (sp : Option Nat) (H : AHeap) : aLoad tb 69 (.pointer (some ⟨b, o, sp⟩)) H = (ldN (H.get b) o 2).map fun vs => (.agg vs.toArray, H) := aLoad_agg (by kernel_rfl) b o sp H
@[go_sem] theorem ld_75 (b o : Nat) (sp : Option Nat) (H : AHeap) : aLoad tb 75 (.pointer (some ⟨b, o, sp⟩)) H = (ld1 (H.get b) o).map (·, H) := aLoad_one (by kernel_rfl) b o sp H
@[go_sem] theorem ld_77 (b o : Nat) (sp : Option Nat) (H : AHeap) : aLoad tb 77 (.pointer (some ⟨b, o, sp⟩)) H = (ldN (H.get b) o 4).map fun vs => (.agg vs.toArray, H) := aLoad_agg (by kernel_rfl) b o sp H
@[go_sem] theorem ld_79 (b o : Nat) (sp : Option Nat) (H : AHeap) : aLoad tb 79 (.pointer (some ⟨b, o, sp⟩)) H = (ldN (H.get b) o 4).map fun vs => (.agg vs.toArray, H) := aLoad_agg (by kernel_rfl) b o sp H
@[go_sem] theorem ln_108 (P : Program) (a : Option Addr) (n c : Nat) (H : AHeap) : aBuiltin P tb .len #[108] [.slice a n c] H = some (.int .i64 n, H) := by exact id (by kernel_rfl)
@[go_sem] theorem ln_119 (P : Program) (a : Option Addr) (n c : Nat) (H : AHeap) : aBuiltin P tb .len #[119] [.slice a n c] H = some (.int .i64 n, H) := by exact id (by kernel_rfl)
@[go_sem] theorem ln_120 (P : Program) (a : Option Addr) (n c : Nat) (H : AHeap) : aBuiltin P tb .len #[120] [.slice a n c] H = some (.int .i64 n, H) := by exact id (by kernel_rfl)
@[go_sem] theorem ln_126 (P : Program) (a : Option Addr) (n c : Nat) (H : AHeap) : aBuiltin P tb .len #[126] [.slice a n c] H = some (.int .i64 n, H) := by exact id (by kernel_rfl)
@[go_sem] theorem ln_144 (P : Program) (a : Option Addr) (n c : Nat) (H : AHeap) : aBuiltin P tb .len #[144] [.slice a n c] H = some (.int .i64 n, H) := by exact id (by kernel_rfl)
@[go_sem] theorem ln_154 (P : Program) (a : Option Addr) (n c : Nat) (H : AHeap) : aBuiltin P tb .len #[154] [.slice a n c] H = some (.int .i64 n, H) := by exact id (by kernel_rfl)
@[go_sem] theorem ln_155 (P : Program) (a : Option Addr) (n c : Nat) (H : AHeap) : aBuiltin P tb .len #[155] [.slice a n c] H = some (.int .i64 n, H) := by exact id (by kernel_rfl)
@[go_sem] theorem ln_189 (P : Program) (a : Option Addr) (n c : Nat) (H : AHeap) : aBuiltin P tb .len #[189] [.slice a n c] H = some (.int .i64 n, H) := by exact id (by kernel_rfl)
@[go_sem] theorem ln_218 (P : Program) (a : Option Addr) (n c : Nat) (H : AHeap) : aBuiltin P tb .len #[218] [.slice a n c] H = some (.int .i64 n, H) := by exact id (by kernel_rfl)
@[go_sem] theorem ln_51 (P : Program) (a : Option Addr) (n c : Nat) (H : AHeap) : aBuiltin P tb .len #[51] [.slice a n c] H = some (.int .i64 n, H) := by exact id (by kernel_rfl)
@[go_sem] theorem ln_52 (P : Program) (a : Option Addr) (n c : Nat) (H : AHeap) : aBuiltin P tb .len #[52] [.slice a n c] H = some (.int .i64 n, H) := by exact id (by kernel_rfl)
@[go_sem] theorem ln_60 (P : Program) (a : Option Addr) (n c : Nat) (H : AHeap) : aBuiltin P tb .len #[60] [.slice a n c] H = some (.int .i64 n, H) := by exact id (by kernel_rfl)
@[go_sem] theorem ln_82 (P : Program) (a : Option Addr) (n c : Nat) (H : AHeap) : aBuiltin P tb .len #[82] [.slice a n c] H = some (.int .i64 n, H) := by exact id (by kernel_rfl)
@[go_sem] theorem ln_99 (P : Program) (a : Option Addr) (n c : Nat) (H : AHeap) : aBuiltin P tb .len #[99] [.slice a n c] H = some (.int .i64 n, H) := by exact id (by kernel_rfl)
@[go_sem] theorem mm_206 : mapOK tb 206 = true := by exact id (by kernel_rfl)
@[go_sem] theorem pn_eql_132 (ox oy : Operand) (H : AHeap) : aBinF Tryd.prog tb .eql 132 ox oy (.pointer none) (.pointer none) H = some (.bool true) := by exact id (by kernel_rfl)
@[go_sem] theorem pn_neq_132 (ox oy : Operand) (H : AHeap) : aBinF Tryd.prog tb .neq 132 ox oy (.pointer none) (.pointer none) H = some (.bool false) := by exact id (by kernel_rfl)
@[go_sem] theorem pn_neq_29 (ox oy : Operand) (H : AHeap) : aBinF Tryd.prog tb .neq 29 ox oy (.pointer none) (.pointer none) H = some (.bool false) := by exact id (by kernel_rfl)
@[go_sem] theorem pp_eql_132 (a : Addr) (ox oy : Operand) (H : AHeap) : aBinF Tryd.prog tb .eql 132 ox oy (.pointer (some a)) (.pointer none) H = some (.bool false) := by exact id (by kernel_rfl)
@[go_sem] theorem pp_neq_132 (a : Addr) (ox oy : Operand) (H : AHeap) : aBinF Tryd.prog tb .neq 132 ox oy (.pointer (some a)) (.pointer none) H = some (.bool true) := by exact id (by kernel_rfl)
@[go_sem] theorem pp_neq_29 (a : Addr) (ox oy : Operand) (H : AHeap) : aBinF Tryd.prog tb .neq 29 ox oy (.pointer (some a)) (.pointer none) H = some (.bool true) := by exact id (by kernel_rfl)
@[go_sem] theorem st_117 (b o : Nat) (sp : Option Nat) (v : Value) (H : AHeap) : aStore tb 117 (.pointer (some ⟨b, o, sp⟩)) v H = stW (H.get b) b o 6 v H := aStore_siz (by kernel_rfl) b o sp v H
@[go_sem] theorem st_125 (b o : Nat) (sp : Option Nat) (v : Value) (H : AHeap) : aStore tb 125 (.pointer (some ⟨b, o, sp⟩)) v H = stW (H.get b) b o 2 v H := aStore_siz (by kernel_rfl) b o sp v H
@[go_sem] theorem st_132 (b o : Nat) (sp : Option Nat) (v : Value) (H : AHeap) : aStore tb 132 (.pointer (some ⟨b, o, sp⟩)) v H = stW (H.get b) b o 1 v H := aStore_siz (by kernel_rfl) b o sp v H
@[go_sem] theorem st_144 (b o : Nat) (sp : Option Nat) (v : Value) (H : AHeap) : aStore tb 144 (.pointer (some ⟨b, o, sp⟩)) v H = stW (H.get b) b o 1 v H := aStore_siz (by kernel_rfl) b o sp v H
@[go_sem] theorem st_148 (b o : Nat) (sp : Option Nat) (v : Value) (H : AHeap) : aStore tb 148 (.pointer (some ⟨b, o, sp⟩)) v H = stW (H.get b) b o 2 v H := aStore_siz (by kernel_rfl) b o sp v H
@[go_sem] theorem st_214 (b o : Nat) (sp : Option Nat) (v : Value) (H : AHeap) : aStore tb 214 (.pointer (some ⟨b, o, sp⟩)) v H = stW (H.get b) b o 40 v H := aStore_siz (by kernel_rfl) b o sp v H
@[go_sem] theorem st_220 (b o : Nat) (sp : Option Nat) (v : Value) (H : AHeap) : aStore tb 220 (.pointer (some ⟨b, o, sp⟩)) v H = stW (H.get b) b o 2 v H := aStore_siz (by kernel_rfl) b o sp v H
@[go_sem] theorem st_231 (b o : Nat) (sp : Option Nat) (v : Value) (H : AHeap) : aStore tb 231 (.pointer (some ⟨b, o, sp⟩)) v H = stW (H.get b) b o 3 v H := aStore_siz (by kernel_rfl) b o sp v H
@[go_sem] theorem st_238 (b o : Nat) (sp : Option Nat) (v : Value) (H : AHeap) : aStore tb 238 (.pointer (some ⟨b, o, sp⟩)) v H = stW (H.get b) b o 2 v H := aStore_siz (by kernel_rfl) b o sp v H
@[go_sem] theorem st_24 (b o : Nat) (sp : Option Nat) (v : Value) (H : AHeap) : aStore tb 24 (.pointer (some ⟨b, o, sp⟩)) v H = stW (H.get b) b o 1 v H := aStore_siz (by kernel_rfl) b o sp v H
@[go_sem] theorem st_34 (b o : Nat) (sp : Option Nat) (v : Value) (H : AHeap) : aStore tb 34 (.pointer (some ⟨b, o, sp⟩)) v H = stW (H.get b) b o 1 v H := aStore_siz (by kernel_rfl) b o sp v H
@[go_sem] theorem st_36 (b o : Nat) (sp : Option Nat) (v : Value) (H : AHeap) : aStore tb 36 (.pointer (some ⟨b, o, sp⟩)) v H = stW (H.get b) b o 2 v H := aStore_siz (by kernel_rfl) b o sp v H
@[go_sem] theorem st_5 (b o : Nat) (sp : Option Nat) (v : Value) (H : AHeap) : aStore tb 5 (.pointer (some ⟨b, o, sp⟩)) v H = stW (H.get b) b o 1 v H := aStore_siz (by kernel_rfl) b o sp v H
@[go_sem] theorem st_69 (b o : Nat) (sp : Option Nat) (v : Value) (H : AHeap) : aStore tb 69 (.pointer (some ⟨b, o, sp⟩)) v H = stW (H.get b) b o 2 v H := aStore_siz (by kernel_rfl) b o sp v H
@[go_sem] theorem st_75 (b o : Nat) (sp : Option Nat) (v : Value) (H : AHeap) : aStore tb 75 (.pointer (some ⟨b, o, sp⟩)) v H = stW (H.get b) b o 1 v H := aStore_siz (by kernel_rfl) b o sp v H
@[go_sem] theorem st_77 (b o : Nat) (sp : Option Nat) (v : Value) (H : AHeap) : aStore tb 77 (.pointer (some ⟨b, o, sp⟩)) v H = stW (H.get b) b o 4 v H := aStore_siz (by kernel_rfl) b o sp v H
@[go_sem] theorem st_79 (b o : Nat) (sp : Option Nat) (v : Value) (H : AHeap) : aStore tb 79 (.pointer (some ⟨b, o, sp⟩)) v H = stW (H.get b) b o 4 v H := aStore_siz (by kernel_rfl) b o sp v H
@[go_sem] theorem st_9 (b o : Nat) (sp : Option Nat) (v : Value) (H : AHeap) : aStore tb 9 (.pointer (some ⟨b, o, sp⟩)) v H = stW (H.get b) b o 1 v H := aStore_siz (by kernel_rfl) b o sp v H
end Go.Proofs.YtkjclebafpomhaaDoor
set_option linter.unusedVariables false
set_option linter.unusedSimpArgs false
set_option maxRecDepth 100000
namespace Go.Proofs.YtkjclebafpomhaaDoor
open Go Go.Eng
theorem flat_len {α : Type} {f : α → List Value} {n : Nat} (hf : ∀ a, (f a).length = n) (l : List α) : (l.flatMap f).length = l.length * n := by
  induction l with
  | nil => simp
  | cons a l ih => simp [ih, hf, Nat.succ_mul, Nat.add_comm]
theorem flat_at {α : Type} {f : α → List Value} {n : Nat} (hf : ∀ a, (f a).length = n) : ∀ (l : List α) (k : Nat) (a : α), l[k]? = some a → ((l.flatMap f).drop (k * n)).take n = f a ∧ k * n + n ≤ (l.flatMap f).length := by
  intro l
  induction l with
  | nil => intro k a h; simp at h
  | cons x l ih =>
    intro k a h
    cases k with
    | zero =>
      simp at h
      subst h
      simp [List.take_append_of_le_length, hf]
    | succ k =>
      obtain ⟨h1, h2⟩ := ih k a (by simpa using h)
      have e : (k + 1) * n = (f x).length + k * n := by rw [hf, Nat.succ_mul, Nat.add_comm]
      rw [List.flatMap_cons, e]
      refine ⟨?_, ?_⟩
      · rw [← List.drop_drop, List.drop_left]; exact h1
      · rw [List.length_append]
        omega

theorem wrap64 {n : Int} (h1 : -9223372036854775808 ≤ n) (h2 : n < 9223372036854775808) : IntKind.wrap .i64 n = n := by
  rw [IntKind.wrap_i64]; omega
theorem drop_at {α : Type} {l : List α} {k : Nat} {a : α} (h : l[k]? = some a) : l.drop k = a :: l.drop (k + 1) := by
  obtain ⟨h1, h2⟩ := List.getElem?_eq_some_iff.1 h
  rw [List.drop_eq_getElem_cons h1, h2]
theorem callS_cxS (sp : Specs) {g : FuncId} (h : g < 175) (vs : List Value) (H : AHeap) : callS (cxS sp) g vs H = appS (sp g) vs H := callS_app (by rw [fn_ex sp g h]; trivial) vs H

theorem flat_part {α : Type} {f : α → List Value} {n : Nat} (hf : ∀ a, (f a).length = n) (l : List α) (k o m : Nat) (a : α) (h : l[k]? = some a) (hm : o + m ≤ n) : ((l.flatMap f).drop (k * n + o)).take m = ((f a).drop o).take m ∧ k * n + o + m ≤ (l.flatMap f).length := by
  obtain ⟨h1, h2⟩ := flat_at hf l k a h
  refine ⟨?_, by omega⟩
  rw [← h1, ← List.drop_drop, List.drop_take, List.take_take]
  congr 1
  omega
def nxt (r : Option AObj) (i : Nat) (H : AHeap) : Option (Value × AHeap) := match r with
  | some (.iter s pos) => if pos < s.size then some (.tuple #[.bool true, .int .i64 pos, .int .i32 (Utf8.decode s pos).1], H.set i (.iter s (pos + (Utf8.decode s pos).2))) else some (.tuple #[.bool false], H)
  | _ => none
@[go_sem] theorem nxt_iter (s : ByteArray) (pos i : Nat) (H : AHeap) : nxt (some (.iter s pos)) i H = if pos < s.size then some (.tuple #[.bool true, .int .i64 pos, .int .i32 (Utf8.decode s pos).1], H.set i (.iter s (pos + (Utf8.decode s pos).2))) else some (.tuple #[.bool false], H) := id rfl
@[go_sem] theorem aNext_ptr (r : Nat) (sp : Option Nat) (H : AHeap) : aNext (.pointer (some ⟨r, 0, sp⟩)) true H = nxt (H.get r) r H := by
  unfold aNext nxt
  simp only
  generalize H.get r = x
  cases x with
  | none => rfl
  | some o => cases o <;> rfl
theorem size_list (s : ByteArray) : s.data.toList.length = s.size := rfl
theorem rune_at (s : ByteArray) (pos : Nat) (h : pos < s.size) : ∃ b : UInt8, s.data.toList[pos]? = some b ∧ ((b.toNat < 128 ∧ Utf8.decode s pos = (b.toNat, 1)) ∨ (128 ≤ b.toNat ∧ 128 ≤ (Utf8.decode s pos).1)) := by
  refine ⟨s[pos]'h, by rw [List.getElem?_eq_getElem (show pos < s.data.toList.length from h)]; rfl, ?_⟩
  rcases Nat.lt_or_ge (s[pos]'h).toNat 128 with h1 | h1
  · exact .inl ⟨h1, decode_ascii s pos h h1⟩
  · exact .inr ⟨h1, (decode_high s pos h h1).1⟩
theorem codeW_forget {cx : Cx} {N : Nat} {c : Code} {Q : PostW} {τ : Tmps} {H : AHeap} (F : Tmps → AHeap → Prop) (hF : F τ H) (h : ∀ τ' H', F τ' H' → codeW cx N c Q τ' H') : codeW cx N c Q τ H := h _ _ hF
/-- A row whose elements, from its start on, are known. -/
def Elems {α : Type} (f : α → List Value) (n : Nat) (row : List Value) (l : List α) : Prop := ∀ k a, l[k]? = some a → (row.drop (k * n)).take n = f a ∧ k * n + n ≤ row.length
/-- A slice of such. -/
def SlcE {α : Type} (H : AHeap) (s : Value) (f : α → List Value) (n : Nat) (l : List α) : Prop := (l = [] ∧ s = .slice none 0 0) ∨ ∃ b c row ro par gs, s = .slice (some ⟨b, 0, none⟩) l.length c ∧ H.get b = some (.cells row ro par gs) ∧ Elems f n row l
theorem Elems.part {α : Type} {f : α → List Value} {n : Nat} {row : List Value} {l : List α} (h : Elems f n row l) (k o m : Nat) (a : α) (ha : l[k]? = some a) (hm : o + m ≤ n) : (row.drop (k * n + o)).take m = ((f a).drop o).take m ∧ k * n + o + m ≤ row.length := by
  obtain ⟨h1, h2⟩ := h k a ha
  refine ⟨?_, by omega⟩
  rw [← h1, ← List.drop_drop, List.drop_take, List.take_take]
  congr 1
  omega
/-- A growing row of our own. -/
def RowL (H : AHeap) (lo i : Nat) (s : Value) (n sz : Nat) (cs : List Value) : Prop :=
  (n = 0 ∧ s = .slice none 0 0 ∧ cs = []) ∨ ∃ b par, 0 < n ∧ s = .slice (some ⟨b, 0, none⟩) n (grow + n) ∧ H.get b = some (.cells cs false par sz) ∧ lo ≤ b ∧ b ≠ i ∧ ∀ j ∈ par, lo ≤ j ∧ j ≠ i
theorem RowL.keeps {H H' : AHeap} {lo i n sz : Nat} {s : Value} {cs : List Value} (h : RowL H lo i s n sz cs) (k : Keeps [] H H') : RowL H' lo i s n sz cs := by
  rcases h with h | ⟨b, par, h1, h2, h3, h4⟩
  · exact .inl h
  · exact .inr ⟨b, par, h1, h2, k.get h3 (by simp), h4⟩
theorem RowL.slc {α : Type} {f : α → List Value} {H : AHeap} {lo i sz : Nat} {s : Value} {l : List α} (h : RowL H lo i s l.length sz (l.flatMap f)) (hf : ∀ a, (f a).length = sz) : SlcE H s f sz l := by
  rcases h with ⟨h1, h2, h3⟩ | ⟨b, par, h1, h2, h3, h4⟩
  · exact .inl ⟨List.length_eq_zero_iff.1 h1, h2⟩
  · refine .inr ⟨b, _, _, _, _, _, h2, h3, fun k a ha => ?_⟩
    exact flat_at hf l k a ha
/-- One more at a row's end. -/
theorem app_row {H : AHeap} {lo i n sz by_ : Nat} {s : Value} {cs vs : List Value} (h : RowL H lo i s n sz cs) (hl : n * sz = cs.length) (hv : vs.all one = true) (hb : (n + 1) * by_ ≤ 140737488355328) (hn : n < grow) (hi : i < H.next) (hlo : lo ≤ H.next) :
    ∃ s' H', appW sz by_ s (some (1, vs)) H = some (s', H') ∧ RowL H' lo i s' (n + 1) sz (cs ++ vs) ∧ H.next < H'.next ∧ ∀ j, j < H.next → (j < lo ∨ j = i ∨ ∀ cs par, H.get j ≠ some (.cells cs false par sz)) → H'.get j = H.get j := by
  rcases h with ⟨rfl, rfl, rfl⟩ | ⟨b, par, h1, rfl, h3, h4, h5, h6⟩
  · refine ⟨_, _, appW_nil (by omega) (by omega) hv, .inr ⟨H.next, [], by omega, rfl, get_new_self _ _, hlo, by omega, by simp⟩, by simp, fun j hj _ => get_new_old _ hj⟩
  · have hb' := AHeap.get_lt h3
    refine ⟨_, _, appW_more (by omega) h3 hl (by omega) hn, .inr ⟨H.next, b :: par, by omega, rfl, get_new_self _ _, hlo, by omega, ?_⟩, by simp, fun j hj hc => ?_⟩
    · intro j hj
      rcases List.mem_cons.1 hj with rfl | hj
      · exact ⟨h4, h5⟩
      · exact h6 j hj
    rw [get_new_old _ (by simpa using hj), get_set_ne _ ?_ hb']
    rcases hc with hc | hc | hc
    · omega
    · omega
    · intro e; subst e; exact hc _ _ h3

theorem w16 (n : Int) : IntKind.u16.wrap n = n % 65536 := by simp [IntKind.wrap, IntKind.bits, IntKind.signed]
theorem Elems.cell {α : Type} {f : α → List Value} {n : Nat} {row : List Value} {l : List α} (h : Elems f n row l) (k o : Nat) (a : α) (ha : l[k]? = some a) (ho : o < n) : row[k * n + o]? = (f a)[o]? := by
  obtain ⟨h1, h2⟩ := h k a ha
  rw [← h1, List.getElem?_take, if_pos ho, List.getElem?_drop]
theorem wu32 (n : Int) : IntKind.u32.wrap n = n % 4294967296 := by simp [IntKind.wrap, IntKind.bits, IntKind.signed]
theorem wu64 (n : Int) : IntKind.u64.wrap n = n % 18446744073709551616 := by simp [IntKind.wrap, IntKind.bits, IntKind.signed]
theorem ACalls.grew {P : Program} {G : Nat} {f : FuncId} {args : List Value} {H : AHeap} {Q : Value → AHeap → Prop} (h : ACalls P G f args H Q) : ACalls P G f args H fun v H' => Q v H' ∧ Grew H' :=
  fun μ w args' hR hA => (h μ w args' hR hA).mono fun _ _ ⟨v, v', H', μ', e1, e2, e3, e4, e5⟩ => ⟨v, v', H', μ', e1, e2, e3, e4, e5, e3.grew⟩
/-- What is known behind a part of the code is all that goes on. -/
theorem codeW_post {cx : Cx} {N : Nat} {c : Code} {Q : PostW} {τ : Tmps} {H : AHeap} (P : Tmps → AHeap → Prop) (h1 : codeW cx N c (fun e τ H => e = .normal ∧ P τ H) τ H) (h2 : ∀ τ H, P τ H → Q .normal τ H) : codeW cx N c Q τ H :=
  codeW_mono c (fun e τ H h => by obtain ⟨rfl, h⟩ := h; exact h2 τ H h) τ H h1

def RowP (H : AHeap) (p : Nat → Prop) (s : Value) (n sz : Nat) (cs : List Value) : Prop :=
  (n = 0 ∧ s = .slice none 0 0 ∧ cs = []) ∨ ∃ b par, 0 < n ∧ s = .slice (some ⟨b, 0, none⟩) n (grow + n) ∧ H.get b = some (.cells cs false par sz) ∧ p b
theorem RowP.keeps {H H' : AHeap} {p : Nat → Prop} {n sz : Nat} {s : Value} {cs : List Value} (h : RowP H p s n sz cs) (k : Keeps [] H H') : RowP H' p s n sz cs := by
  rcases h with h | ⟨b, par, h1, h2, h3, h4⟩
  · exact .inl h
  · exact .inr ⟨b, par, h1, h2, k.get h3 (by simp), h4⟩
theorem RowP.slc {α : Type} {f : α → List Value} {H : AHeap} {p : Nat → Prop} {sz : Nat} {s : Value} {l : List α} (h : RowP H p s l.length sz (l.flatMap f)) (hf : ∀ a, (f a).length = sz) : SlcE H s f sz l := by
  rcases h with ⟨h1, h2, h3⟩ | ⟨b, par, h1, h2, h3, h4⟩
  · exact .inl ⟨List.length_eq_zero_iff.1 h1, h2⟩
  · exact .inr ⟨b, _, _, _, _, _, h2, h3, fun k a h => flat_at hf l k a h⟩
theorem app_rowP {H : AHeap} {p : Nat → Prop} {n sz by_ : Nat} {s : Value} {cs vs : List Value} (h : RowP H p s n sz cs) (hl : n * sz = cs.length) (hv : vs.all one = true) (hb : (n + 1) * by_ ≤ 140737488355328) (hn : n < grow) (hp : ∀ j, H.next ≤ j → p j) :
    ∃ s' H', appW sz by_ s (some (1, vs)) H = some (s', H') ∧ RowP H' p s' (n + 1) sz (cs ++ vs) ∧ H.next < H'.next ∧ ∀ j, j < H.next → (¬ p j ∨ ∀ cs par, H.get j ≠ some (.cells cs false par sz)) → H'.get j = H.get j := by
  rcases h with ⟨rfl, rfl, rfl⟩ | ⟨b, par, h1, rfl, h3, h4⟩
  · refine ⟨_, _, appW_nil (by omega) (by omega) hv, .inr ⟨H.next, [], by omega, rfl, get_new_self _ _, hp _ (Nat.le_refl _)⟩, by simp, fun j hj _ => get_new_old _ hj⟩
  · have hb' := AHeap.get_lt h3
    refine ⟨_, _, appW_more (by omega) h3 hl (by omega) hn, .inr ⟨H.next, b :: par, by omega, rfl, get_new_self _ _, hp _ (Nat.le_refl _)⟩, by simp, fun j hj hc => ?_⟩
    rw [get_new_old _ (by simpa using hj), get_set_ne _ ?_ hb']
    rcases hc with hc | hc
    · intro e; subst e; exact hc h4
    · intro e; subst e; exact hc _ _ h3

theorem bnd_some {k : IntKind} {h y : Nat} (hy : h ≤ y) (d : Nat) : bnd (some (.int k (h : Nat))) d y = some h := by
  unfold bnd
  simp only
  rw [if_pos (by omega), Int.toNat_natCast]
/-- A block that simp is to stop at. -/
def HidB (i : Nat) (c : Code) : Code := .block i c
theorem hideB (i : Nat) (c : Code) : Code.block i c = HidB i c := id rfl
theorem wu8 (n : Int) : IntKind.u8.wrap n = n % 256 := by simp [IntKind.wrap, IntKind.bits, IntKind.signed]
theorem SlcE.keeps {α : Type} {f : α → List Value} {H H' : AHeap} {s : Value} {n : Nat} {l : List α} (h : SlcE H s f n l) (k : Keeps [] H H') : SlcE H' s f n l := by
  rcases h with h | ⟨b, c, row, ro, par, gs, h1, h2, h3⟩
  · exact .inl h
  · exact .inr ⟨b, c, row, ro, par, gs, h1, k.get h2 (by simp), h3⟩
theorem RowP.poke {H : AHeap} {p : Nat → Prop} {n sz bA : Nat} {s : Value} {cs : List Value} {parA : List Nat} {o : AObj} (h : RowP H p s n sz cs) (hp : ∀ j, p j → j ≠ bA ∧ j ∉ parA) (hb : bA < H.next) : RowP ((H.dels parA).set bA o) p s n sz cs := by
  rcases h with h | ⟨b, par, h1, h2, h3, h4⟩
  · exact .inl h
  · exact .inr ⟨b, par, h1, h2, by rw [get_set_ne _ (hp b h4).1 (by simpa using hb), AHeap.get_dels, if_neg (hp b h4).2]; exact h3, h4⟩
end Go.Proofs.YtkjclebafpomhaaDoor
set_option linter.unusedVariables false
set_option linter.unusedSimpArgs false
set_option maxRecDepth 100000
namespace Go.Proofs.YtkjclebafpomhaaDoor
open Go Go.Eng

/-! ### label -/
def F91 : Spec := fun vs H => match vs with
  | [.agg ⟨[.int .u8 a, .int .u16 b]⟩] => some (.bool (decide (a ≤ 15)), H)
  | _ => none
theorem F91_eq (a b : Int) (H : AHeap) : F91 [.agg ⟨[.int .u8 a, .int .u16 b]⟩] H = some (.bool (decide (a ≤ 15)), H) := id rfl
theorem sp91 : SpOK 91 F91 := by
  refine .of (fn := Tryd.f91) (by kernel_rfl) (by kernel_rfl) ?_
  intro vs H v H' h
  unfold F91 at h
  split at h
  · rename_i a b
    injection h with h; injection h with h1 h2; subst h1; subst h2
    refine ACalls.trim1 rfl ?_
    refine walk sp0_ok (fn := Tryd.f91) (by kernel_rfl) (c := Tryd.f91.body.get (by kernel_rfl)) (by kernel_rfl) (by simp [Tryd.f91]) ?_
    simp only [Tryd.f91, Option.get]
    simp only [go_sem, Nat.reduceLT, Nat.reduceEqDiff, ↓reduceIte, Nat.reduceAdd, Nat.zero_add, Nat.add_zero, Nat.reduceLeDiff, Int.reduceEq, Nat.reduceMul]
  · cases h
def leqB (a b c d : Int) : Bool := decide (a ≤ c) && decide (andNotI .u16 b d = 0)
def F94 : Spec := fun vs H => match vs with
  | [.agg ⟨[.int .u8 a, .int .u16 b]⟩, .agg ⟨[.int .u8 c, .int .u16 d]⟩] => some (.bool (leqB a b c d), H)
  | _ => none
theorem F94_eq (a b c d : Int) (H : AHeap) : F94 [.agg ⟨[.int .u8 a, .int .u16 b]⟩, .agg ⟨[.int .u8 c, .int .u16 d]⟩] H = some (.bool (leqB a b c d), H) := id rfl
theorem sp94 : SpOK 94 F94 := by
  refine .of (fn := Tryd.f94) (by kernel_rfl) (by kernel_rfl) ?_
  intro vs H v H' h
  unfold F94 at h
  split at h
  · rename_i a b c d
    injection h with h; injection h with h1 h2; subst h1; subst h2
    refine ACalls.trim1 rfl ?_
    refine walk sp0_ok (fn := Tryd.f94) (by kernel_rfl) (c := Tryd.f94.body.get (by kernel_rfl)) (by kernel_rfl) (by simp [Tryd.f94]) ?_
    simp only [Tryd.f94, Option.get, leqB]
    cases h1 : decide (a ≤ c) <;> simp only [go_sem, Nat.reduceLT, Nat.reduceEqDiff, ↓reduceIte, Nat.reduceAdd, Nat.zero_add, Nat.add_zero, Nat.reduceLeDiff, Int.reduceEq, Nat.reduceMul, h1]
  · cases h

/-! ### conf -/
def F17 : Spec := fun vs H => match vs with
  | [.pointer none] => some (.int .i64 0, H)
  | [.pointer (some ⟨i, 0, none⟩)] => match ld1 (H.get i) 0 with
    | some (.slice _ l _) => some (.int .i64 l, H)
    | _ => none
  | _ => none
theorem F17_nil (H : AHeap) : F17 [.pointer none] H = some (.int .i64 0, H) := id rfl
theorem F17_ptr {H : AHeap} {i : Nat} {a : Option Addr} {l c : Nat} (h : ld1 (H.get i) 0 = some (.slice a l c)) : F17 [.pointer (some ⟨i, 0, none⟩)] H = some (.int .i64 l, H) := by simp only [F17, h]
theorem sp17 : SpOK 17 F17 := by
  refine .of (fn := Tryd.f17) (by kernel_rfl) (by kernel_rfl) ?_
  intro vs H v H' h
  unfold F17 at h
  split at h
  · injection h with h; injection h with h1 h2; subst h1; subst h2
    refine walk sp0_ok (fn := Tryd.f17) (by kernel_rfl) (c := Tryd.f17.body.get (by kernel_rfl)) (by kernel_rfl) (by simp [Tryd.f17]) ?_
    simp only [Tryd.f17, Option.get]
    simp only [go_sem, Nat.reduceLT, Nat.reduceEqDiff, ↓reduceIte, Nat.reduceAdd, Nat.zero_add, Nat.add_zero, Nat.reduceLeDiff, Int.reduceEq, Nat.reduceMul]
  · rename_i i
    split at h
    · rename_i a l c hg
      injection h with h; injection h with h1 h2; subst h1; subst h2
      refine walk sp0_ok (fn := Tryd.f17) (by kernel_rfl) (c := Tryd.f17.body.get (by kernel_rfl)) (by kernel_rfl) (by simp [Tryd.f17]) ?_
      simp only [Tryd.f17, Option.get]
      simp only [go_sem, Nat.reduceLT, Nat.reduceEqDiff, ↓reduceIte, Nat.reduceAdd, Nat.zero_add, Nat.add_zero, Nat.reduceLeDiff, Int.reduceEq, Nat.reduceMul, hg]
    · cases h
  · cases h
def F14 : Spec := fun vs H => match vs with
  | [.pointer none] => some (.int .i64 0, H)
  | [.pointer (some ⟨i, 0, none⟩)] => match ld1 (H.get i) 6 with
    | some (.int .i64 l) => some (.int .i64 l, H)
    | _ => none
  | _ => none
theorem F14_ptr {H : AHeap} {i : Nat} {l : Int} (h : ld1 (H.get i) 6 = some (.int .i64 l)) : F14 [.pointer (some ⟨i, 0, none⟩)] H = some (.int .i64 l, H) := by simp only [F14, h]
theorem sp14 : SpOK 14 F14 := by
  refine .of (fn := Tryd.f14) (by kernel_rfl) (by kernel_rfl) ?_
  intro vs H v H' h
  unfold F14 at h
  split at h
  · injection h with h; injection h with h1 h2; subst h1; subst h2
    refine walk sp0_ok (fn := Tryd.f14) (by kernel_rfl) (c := Tryd.f14.body.get (by kernel_rfl)) (by kernel_rfl) (by simp [Tryd.f14]) ?_
    simp only [Tryd.f14, Option.get]
    simp only [go_sem, Nat.reduceLT, Nat.reduceEqDiff, ↓reduceIte, Nat.reduceAdd, Nat.zero_add, Nat.add_zero, Nat.reduceLeDiff, Int.reduceEq, Nat.reduceMul]
  · rename_i i
    split at h
    · rename_i l hg
      injection h with h; injection h with h1 h2; subst h1; subst h2
      refine walk sp0_ok (fn := Tryd.f14) (by kernel_rfl) (c := Tryd.f14.body.get (by kernel_rfl)) (by kernel_rfl) (by simp [Tryd.f14]) ?_
      simp only [Tryd.f14, Option.get]
      simp only [go_sem, Nat.reduceLT, Nat.reduceEqDiff, ↓reduceIte, Nat.reduceAdd, Nat.zero_add, Nat.add_zero, Nat.reduceLeDiff, Int.reduceEq, Nat.reduceMul, hg]
    · cases h
  · cases h
def s2 : Specs := spAdd (spAdd s1 17 F17) 94 F94
theorem s2_17 : s2 17 = some F17 := id rfl
theorem s2_94 : s2 94 = some F94 := id rfl
theorem s2_ok : SpsOK s2 := spAdd_ok (spAdd_ok s1_ok sp17) sp94
def F41 : Spec := fun vs H => match vs with
  | [p, .int .i64 k] => match F17 [p] H with
    | some (.int .i64 l, _) => some (.bool (decide (0 ≤ k) && decide (k < l)), H)
    | _ => none
  | _ => none
theorem F41_eq {H H1 : AHeap} {p : Value} {k l : Int} (h : F17 [p] H = some (.int .i64 l, H1)) : F41 [p, .int .i64 k] H = some (.bool (decide (0 ≤ k) && decide (k < l)), H) := by simp only [F41, h]
theorem F17_heap {vs : List Value} {H H' : AHeap} {v : Value} (h : F17 vs H = some (v, H')) : H' = H := by
  unfold F17 at h
  split at h
  · injection h with h; injection h with h1 h2; exact h2.symm
  · split at h
    · injection h with h; injection h with h1 h2; exact h2.symm
    · cases h
  · cases h
theorem sp41 : SpOK 41 F41 := by
  refine .of (fn := Tryd.f41) (by kernel_rfl) (by kernel_rfl) ?_
  intro vs H v H' h
  unfold F41 at h
  split at h
  · rename_i p k
    split at h
    · rename_i l H1 hl
      obtain rfl := F17_heap hl
      injection h with h; injection h with h1 h2; subst h1; subst h2
      refine walk s2_ok (fn := Tryd.f41) (by kernel_rfl) (c := Tryd.f41.body.get (by kernel_rfl)) (by kernel_rfl) (by simp [Tryd.f41]) ?_
      simp only [Tryd.f41, Option.get]
      cases h1 : decide (0 ≤ k) <;> simp only [go_sem, Nat.reduceLT, Nat.reduceEqDiff, ↓reduceIte, Nat.reduceAdd, Nat.zero_add, Nat.add_zero, Nat.reduceLeDiff, Int.reduceEq, Nat.reduceMul, s2_17, fn_ex, hl, h1]
    · cases h
  · cases h
/-- Slot's answer. -/
def F18 : Spec := fun vs H => match vs with
  | [p, .int .u64 n] => match F17 [p] H with
    | some (.int .i64 l, _) => if l = 0 then some (.int .i64 0, H) else if IntKind.wrap .u64 l = 0 then none else some (.int .i64 (IntKind.wrap .i64 (n.tmod (IntKind.wrap .u64 l))), H)
    | _ => none
  | _ => none
theorem sp18 : SpOK 18 F18 := by
  refine .of (fn := Tryd.f18) (by kernel_rfl) (by kernel_rfl) ?_
  intro vs H v H' h
  unfold F18 at h
  split at h
  · rename_i p n
    split at h
    · rename_i l H1 hl
      obtain rfl := F17_heap hl
      split at h
      · rename_i h0
        injection h with h; injection h with h1 h2; subst h1; subst h2
        refine walk s2_ok (fn := Tryd.f18) (by kernel_rfl) (c := Tryd.f18.body.get (by kernel_rfl)) (by kernel_rfl) (by simp [Tryd.f18]) ?_
        simp only [Tryd.f18, Option.get]
        simp only [go_sem, Nat.reduceLT, Nat.reduceEqDiff, ↓reduceIte, Nat.reduceAdd, Nat.zero_add, Nat.add_zero, Nat.reduceLeDiff, Int.reduceEq, Nat.reduceMul, s2_17, fn_ex, hl, h0]
      · rename_i h0
        split at h
        · cases h
        · rename_i h00
          injection h with h; injection h with h1 h2; subst h1; subst h2
          refine walk s2_ok (fn := Tryd.f18) (by kernel_rfl) (c := Tryd.f18.body.get (by kernel_rfl)) (by kernel_rfl) (by simp [Tryd.f18]) ?_
          simp only [Tryd.f18, Option.get]
          simp only [go_sem, Nat.reduceLT, Nat.reduceEqDiff, ↓reduceIte, Nat.reduceAdd, Nat.zero_add, Nat.add_zero, Nat.reduceLeDiff, Int.reduceEq, Nat.reduceMul, s2_17, fn_ex, hl, h0, h00]
    · cases h
  · cases h
end Go.Proofs.YtkjclebafpomhaaDoor
set_option linter.unusedVariables false
set_option linter.unusedSimpArgs false
set_option maxRecDepth 100000
namespace Go.Proofs.YtkjclebafpomhaaDoor
open Go Go.Eng

/-! ### Rows of structs -/
structure GeoD where
  base : Int
  bitmap : Int
  table : Int
  data : Int
  blocks : Int
  nodes : Int
def GeoD.cells (g : GeoD) : List Value := [.int .i64 g.base, .int .i64 g.bitmap, .int .i64 g.table, .int .i64 g.data, .int .i64 g.blocks, .int .i64 g.nodes]
theorem GeoD.cells_length (g : GeoD) : g.cells.length = 6 := rfl
theorem RegD.cells_length (r : RegD) : r.cells.length = 9 := rfl

/-- A configuration in memory. -/
structure IsConf (H : AHeap) (i ir ig : Nat) (regs : List RegD) (geos : List GeoD) (total : Int) : Prop where
  row : ∃ cr t m n l cg ro par gs, H.get i = some (.cells [.slice (some ⟨ir, 0, none⟩) regs.length cr, t, m, n, l, .slice (some ⟨ig, 0, none⟩) geos.length cg, .int .i64 total] ro par gs)
  rregs : ∃ ro par gs, H.get ir = some (.cells (regs.flatMap RegD.cells) ro par gs)
  rgeos : ∃ ro par gs, H.get ig = some (.cells (geos.flatMap GeoD.cells) ro par gs)
  same : geos.length = regs.length
  few : geos.length ≤ 64
theorem IsConf.keeps {H H' : AHeap} {i ir ig : Nat} {regs : List RegD} {geos : List GeoD} {total : Int} (h : IsConf H i ir ig regs geos total) (k : Keeps [] H H') : IsConf H' i ir ig regs geos total := by
  obtain ⟨⟨cr, t, m, n, l, cg, ro, par, gs, h1⟩, ⟨a, b, c, h2⟩, ⟨a', b', c', h3⟩, h4, h5⟩ := h
  exact ⟨⟨cr, t, m, n, l, cg, ro, par, gs, k.get h1 (by simp)⟩, ⟨a, b, c, k.get h2 (by simp)⟩, ⟨a', b', c', k.get h3 (by simp)⟩, h4, h5⟩

def groupFrom (b : Int) : List GeoD → Nat → Int × Int × Bool
  | [], _ => (0, 0, false)
  | g :: l, k => if b < g.base then groupFrom b l (k + 1) else if IntKind.wrap .i64 (g.data + g.blocks) ≤ b then groupFrom b l (k + 1) else
      if b < g.data then (k, 0, true) else (k, IntKind.wrap .i64 (IntKind.wrap .i64 (b - g.data) + 1), true)
def grpV (r : Int × Int × Bool) : Value := .tuple #[.int .i64 r.1, .int .i64 r.2.1, .bool r.2.2]
def inf15_8 : Info := [([7], [], false), ([1], [0], false), ([8], [0, 1], false), ([43], [0, 1], false), ([42, 44], [0], false), ([45], [0], false), ([41], [1, 2, 3, 4, 5], false), ([46], [], false), ([], [], false)]
theorem group_c {H : AHeap} {i ir ig : Nat} {regs : List RegD} {geos : List GeoD} {total : Int} (hC : IsConf H i ir ig regs geos total) (b : Int) :
    ACalls Tryd.prog 4 15 [.pointer (some ⟨i, 0, none⟩), .int .i64 b] H fun v H' => v = grpV (groupFrom b geos 0) ∧ H' = H := by
  refine ACalls.trim1 rfl ?_
  refine walk s2_ok (fn := Tryd.f15) (by kernel_rfl) (c := Tryd.f15.body.get (by kernel_rfl)) (by kernel_rfl) (by simp [Tryd.f15]) ?_
  simp only [Tryd.f15, Option.get]
  obtain ⟨cr, t, m, n, l, cg, ro, par, gs, hrow⟩ := hC.row
  have h17 : F17 [.pointer (some ⟨i, 0, none⟩)] H = some (.int .i64 regs.length, H) := F17_ptr (by rw [hrow]; rfl)
  simp only [go_sem, Nat.reduceLT, Nat.reduceEqDiff, ↓reduceIte, Nat.reduceAdd, Nat.zero_add, Nat.add_zero, Nat.reduceLeDiff, Int.reduceEq, Nat.reduceMul, s2_17, fn_ex, h17]
  refine codeW_loop (fun nn τ H' => ∃ k : Nat, nn = geos.length - k ∧ k ≤ geos.length ∧ tget τ 0 = .pointer (some ⟨i, 0, none⟩) ∧ tget τ 1 = .int .i64 b ∧ tget τ 10 = .int .i64 regs.length ∧ tget τ 11 = .int .i64 k ∧
    Keeps [] H H' ∧ groupFrom b geos 0 = groupFrom b (geos.drop k) k) (n := geos.length) ⟨0, rfl, Nat.zero_le _, ?_, ?_, ?_, ?_, Keeps.refl _ _, rfl⟩ ?_
  · simp only [go_sem, Nat.reduceLT, Nat.reduceEqDiff, ↓reduceIte, Nat.reduceAdd, Nat.zero_add, Nat.add_zero, Nat.reduceLeDiff, Int.reduceEq, Nat.reduceMul]
  · simp only [go_sem, Nat.reduceLT, Nat.reduceEqDiff, ↓reduceIte, Nat.reduceAdd, Nat.zero_add, Nat.add_zero, Nat.reduceLeDiff, Int.reduceEq, Nat.reduceMul]
  · simp only [go_sem, Nat.reduceLT, Nat.reduceEqDiff, ↓reduceIte, Nat.reduceAdd, Nat.zero_add, Nat.add_zero, Nat.reduceLeDiff, Int.reduceEq, Nat.reduceMul]
  · simp only [go_sem, Nat.reduceLT, Nat.reduceEqDiff, ↓reduceIte, Nat.reduceAdd, Nat.zero_add, Nat.add_zero, Nat.reduceLeDiff, Int.reduceEq, Nat.reduceMul]; rfl
  rintro nn τ H' ⟨k, rfl, hk, h0, h1, h10, h11, hK, hG⟩
  obtain ⟨cr, t, m, n, l, cg, ro, par, gs, hrow⟩ := (hC.keeps hK).row
  obtain ⟨ro2, par2, gs2, hgeo⟩ := (hC.keeps hK).rgeos
  by_cases hlt : k < geos.length
  · have hd : decide ((k : Int) < (regs.length : Int)) = true := by have := hC.same; simp; omega
    obtain ⟨g, hg⟩ : ∃ g, geos[k]? = some g := ⟨_, List.getElem?_eq_getElem hlt⟩
    obtain ⟨e1, e2⟩ := flat_at GeoD.cells_length geos k g hg
    have hix : (0 ≤ (k : Int) ∧ (k : Int) < (geos.length : Int)) = True := by simp; omega
    have hw : IntKind.wrap .i64 ((k : Int) + 1) = ((k + 1 : Nat) : Int) := by rw [wrap64] <;> have := hC.few <;> omega
    have hn : groupFrom b (geos.drop k) k = groupFrom b (g :: geos.drop (k + 1)) k := by rw [drop_at hg]
    rw [hn] at hG
    simp only [groupFrom] at hG
    have hnext : ∀ G : AHeap, Keeps [] H G → groupFrom b geos 0 = groupFrom b (List.drop (k + 1) geos) (k + 1) → ∃ m, m < geos.length - k ∧ ∃ k_1, m = geos.length - k_1 ∧ k_1 ≤ geos.length ∧ Value.int IntKind.i64 ((k + 1 : Nat) : Int) = Value.int IntKind.i64 (k_1 : Int) ∧ Keeps [] H G ∧ groupFrom b geos 0 = groupFrom b (List.drop k_1 geos) k_1 :=
      fun G h1 h2 => ⟨geos.length - (k + 1), by omega, k + 1, rfl, hlt, rfl, h1, h2⟩
    have hkeep : ∀ o o2 : AObj, Keeps [] H ((H'.new o).set H'.next o2) := fun o o2 => (Keeps.new' o hK).set' hK.le (by simp)
    by_cases c1 : b < g.base
    · rw [if_pos c1] at hG
      simp only [go_sem, Nat.reduceLT, Nat.reduceEqDiff, ↓reduceIte, Nat.reduceAdd, Nat.zero_add, Nat.add_zero, Nat.reduceLeDiff, Int.reduceEq, Nat.reduceMul, List.take_zero, List.drop_succ_cons, List.drop_zero, List.nil_append, List.append_nil, List.drop_nil, List.take_succ_cons, List.take_nil, List.cons_append, Int.toNat_natCast, Int.toNat_zero, Int.toNat_one, h0, h1, h10, h11, hd, hrow, hgeo, hix, e1, e2, GeoD.cells, c1, hw]
      exact hnext _ (hkeep _ _) hG
    rw [if_neg c1] at hG
    by_cases c2 : IntKind.wrap .i64 (g.data + g.blocks) ≤ b
    · rw [if_pos c2] at hG
      simp only [go_sem, Nat.reduceLT, Nat.reduceEqDiff, ↓reduceIte, Nat.reduceAdd, Nat.zero_add, Nat.add_zero, Nat.reduceLeDiff, Int.reduceEq, Nat.reduceMul, List.take_zero, List.drop_succ_cons, List.drop_zero, List.nil_append, List.append_nil, List.drop_nil, List.take_succ_cons, List.take_nil, List.cons_append, Int.toNat_natCast, Int.toNat_zero, Int.toNat_one, h0, h1, h10, h11, hd, hrow, hgeo, hix, e1, e2, GeoD.cells, c1, c2, hw]
      exact hnext _ (hkeep _ _) hG
    rw [if_neg c2] at hG
    by_cases c3 : b < g.data
    · rw [if_pos c3] at hG
      simp only [go_sem, Nat.reduceLT, Nat.reduceEqDiff, ↓reduceIte, Nat.reduceAdd, Nat.zero_add, Nat.add_zero, Nat.reduceLeDiff, Int.reduceEq, Nat.reduceMul, List.take_zero, List.drop_succ_cons, List.drop_zero, List.nil_append, List.append_nil, List.drop_nil, List.take_succ_cons, List.take_nil, List.cons_append, Int.toNat_natCast, Int.toNat_zero, Int.toNat_one, h0, h1, h10, h11, hd, hrow, hgeo, hix, e1, e2, GeoD.cells, c1, c2, c3, hw, hG, grpV]
      exact hkeep _ _
    · rw [if_neg c3] at hG
      simp only [go_sem, Nat.reduceLT, Nat.reduceEqDiff, ↓reduceIte, Nat.reduceAdd, Nat.zero_add, Nat.add_zero, Nat.reduceLeDiff, Int.reduceEq, Nat.reduceMul, List.take_zero, List.drop_succ_cons, List.drop_zero, List.nil_append, List.append_nil, List.drop_nil, List.take_succ_cons, List.take_nil, List.cons_append, Int.toNat_natCast, Int.toNat_zero, Int.toNat_one, h0, h1, h10, h11, hd, hrow, hgeo, hix, e1, e2, GeoD.cells, c1, c2, c3, hw, hG, grpV]
      refine codeW_any (cxS_ok s2_ok) inf15_8 (by kernel_rfl) fun _ => ?_
      simp only [inf15_8, go_sem, Nat.reduceLT, Nat.reduceEqDiff, ↓reduceIte, Nat.reduceAdd, Nat.zero_add, Nat.add_zero, Nat.reduceLeDiff, Int.reduceEq, Nat.reduceMul, List.take_zero, List.drop_succ_cons, List.drop_zero, List.nil_append, List.append_nil, List.drop_nil, List.take_succ_cons, List.take_nil, List.cons_append, Int.toNat_natCast, Int.toNat_zero, Int.toNat_one, h0, h1, h10, h11, hd, hrow, hgeo, hix, e1, e2, GeoD.cells, c1, c2, c3, hw, hG, grpV]
      exact hkeep _ _
  · have hk' : k = geos.length := by omega
    have hd : decide ((k : Int) < (regs.length : Int)) = false := by have := hC.same; simp; omega
    subst hk'
    rw [List.drop_length] at hG
    simp only [groupFrom] at hG
    simp only [go_sem, Nat.reduceLT, Nat.reduceEqDiff, ↓reduceIte, Nat.reduceAdd, Nat.zero_add, Nat.add_zero, Nat.reduceLeDiff, Int.reduceEq, Nat.reduceMul, List.take_zero, List.drop_succ_cons, List.drop_zero, List.nil_append, List.append_nil, List.drop_nil, List.take_succ_cons, List.take_nil, List.cons_append, Int.toNat_natCast, Int.toNat_zero, Int.toNat_one, h0, h1, h10, h11, hd, hrow, hgeo, hG, grpV, hK]
end Go.Proofs.YtkjclebafpomhaaDoor
set_option linter.unusedVariables false
set_option linter.unusedSimpArgs false
set_option maxRecDepth 100000
namespace Go.Proofs.YtkjclebafpomhaaDoor
open Go Go.Eng

def s3 : Specs := spAdd s2 41 F41
theorem s3_17 : s3 17 = some F17 := id rfl
theorem s3_94 : s3 94 = some F94 := id rfl
theorem s3_41 : s3 41 = some F41 := id rfl
theorem s3_ok : SpsOK s3 := spAdd_ok s2_ok sp41
theorem IsConf.len {H : AHeap} {i ir ig : Nat} {regs : List RegD} {geos : List GeoD} {total : Int} (h : IsConf H i ir ig regs geos total) : F17 [.pointer (some ⟨i, 0, none⟩)] H = some (.int .i64 regs.length, H) := by
  obtain ⟨cr, t, m, n, l, cg, ro, par, gs, hrow⟩ := h.row
  exact F17_ptr (by rw [hrow]; rfl)
theorem IsConf.has {H : AHeap} {i ir ig : Nat} {regs : List RegD} {geos : List GeoD} {total : Int} (h : IsConf H i ir ig regs geos total) (k : Int) : F41 [.pointer (some ⟨i, 0, none⟩), .int .i64 k] H = some (.bool (decide (0 ≤ k) && decide (k < regs.length)), H) := F41_eq h.len

theorem RegD.all_one (r : RegD) : r.cells.all one = true := rfl
def zeroReg : RegD := ⟨⟨#[]⟩, 0, 0, 0, 0, 0, 0, 0, 0⟩
def regV (regs : List RegD) (k : Int) : Value := if 0 ≤ k ∧ k < regs.length then .tuple #[.agg (regs.getD k.toNat zeroReg).cells.toArray, .bool true] else .tuple #[.agg zeroReg.cells.toArray, .bool false]
theorem reg_c {H : AHeap} {i ir ig : Nat} {regs : List RegD} {geos : List GeoD} {total : Int} (hC : IsConf H i ir ig regs geos total) (k : Int) :
    ACalls Tryd.prog 4 16 [.pointer (some ⟨i, 0, none⟩), .int .i64 k] H fun v H' => v = regV regs k ∧ H' = H := by
  refine ACalls.trimD (d := 2) (by unfold regV; split <;> rfl) ?_
  refine walk s3_ok (fn := Tryd.f16) (by kernel_rfl) (c := Tryd.f16.body.get (by kernel_rfl)) (by kernel_rfl) (by simp [Tryd.f16]) ?_
  simp only [Tryd.f16, Option.get]
  obtain ⟨cr, t, m, n, l, cg, ro, par, gs, hrow⟩ := hC.row
  obtain ⟨ro2, par2, gs2, hreg⟩ := hC.rregs
  have hi : i < H.next := AHeap.get_lt hrow
  have hir : ir < H.next := AHeap.get_lt hreg
  have hh : ∀ o, F41 [.pointer (some ⟨i, 0, none⟩), .int .i64 k] (H.new o) = some (.bool (decide (0 ≤ k) && decide (k < regs.length)), H.new o) := fun o => (hC.keeps (Keeps.new _ _ _)).has k
  by_cases hk : 0 ≤ k ∧ k < regs.length
  · obtain ⟨j, rfl⟩ : ∃ j : Nat, k = j := ⟨k.toNat, by omega⟩
    have hj : j < regs.length := by omega
    obtain ⟨r, hr⟩ : ∃ r, regs[j]? = some r := ⟨_, List.getElem?_eq_getElem hj⟩
    obtain ⟨e1, e2⟩ := flat_at RegD.cells_length regs j r hr
    have hb : (decide (0 ≤ (j : Int)) && decide ((j : Int) < (regs.length : Int))) = true := by simp; omega
    have hix : (0 ≤ (j : Int) ∧ (j : Int) < (regs.length : Int)) = True := by simp; omega
    have hv : regV regs (j : Int) = .tuple #[.agg r.cells.toArray, .bool true] := by
      unfold regV; rw [if_pos (by omega)]; simp [List.getD_eq_getElem?_getD, hr]
    rw [hv]
    simp only [go_sem, Nat.reduceLT, Nat.reduceEqDiff, ↓reduceIte, Nat.reduceAdd, Nat.zero_add, Nat.add_zero, Nat.reduceLeDiff, Int.reduceEq, Nat.reduceMul, List.take_zero, List.drop_succ_cons, List.drop_zero, List.nil_append, List.append_nil, List.drop_nil, List.take_succ_cons, List.take_nil, List.cons_append, Int.toNat_natCast, Int.toNat_zero, Int.toNat_one, s3_41, fn_ex, hh, hb, hrow, hreg, hix, e1, e2, RegD.cells, hi, hir]
  · have hb : (decide (0 ≤ k) && decide (k < (regs.length : Int))) = false := by
      rw [Bool.eq_false_iff]; simpa using hk
    have hv : regV regs k = .tuple #[.agg zeroReg.cells.toArray, .bool false] := by unfold regV; rw [if_neg hk]
    rw [hv]
    simp only [go_sem, Nat.reduceLT, Nat.reduceEqDiff, ↓reduceIte, Nat.reduceAdd, Nat.zero_add, Nat.add_zero, Nat.reduceLeDiff, Int.reduceEq, Nat.reduceMul, List.take_zero, List.drop_succ_cons, List.drop_zero, List.nil_append, List.append_nil, List.drop_nil, List.take_succ_cons, List.take_nil, List.cons_append, Int.toNat_natCast, Int.toNat_zero, Int.toNat_one, s3_41, fn_ex, hh, hb, RegD.cells, zeroReg]

def leqR (regs : List RegD) (a b : Int) : Bool := if 0 ≤ a ∧ a < regs.length ∧ 0 ≤ b ∧ b < regs.length then
  leqB (regs.getD a.toNat zeroReg).lev (regs.getD a.toNat zeroReg).cats (regs.getD b.toNat zeroReg).lev (regs.getD b.toNat zeroReg).cats else false
def inf45_1 : Info := [([0], [], false), ([1], [0], false), ([7, 8], [], false), ([9], [], false), ([0, 10], [], false), ([2, 10], [4], false), ([11, 12, 10], [], false), ([10, 13], [], false), ([14], [], false), ([0, 15], [], false), ([16, 15], [], false), ([17, 15], [], false), ([18, 15], [], false), ([1, 15], [9, 10, 11, 12], false), ([19, 20, 15], [], false), ([21, 15], [], false), ([22, 15], [], false), ([0, 15], [9, 10, 11, 12, 13, 14, 15, 16], false), ([24, 15], [9, 10, 11, 12, 13, 14, 15, 16], false), ([25, 15], [9, 10, 11, 12, 13, 14, 15, 16], false), ([26, 15], [9, 10, 11, 12, 13, 14, 15, 16], false), ([2, 15], [9, 10, 11, 12, 13, 14, 15, 16, 17, 18, 19, 20], false), ([27, 28, 15], [9, 10, 11, 12, 13, 14, 15, 16], false), ([29, 15], [9, 10, 11, 12, 13, 14, 15, 16], false), ([30, 15], [9, 10, 11, 12, 13, 14, 15, 16], false), ([23, 31, 15], [], false), ([15, 32], [], false), ([33], [], false)]
theorem leq_c {H : AHeap} {i ir ig : Nat} {regs : List RegD} {geos : List GeoD} {total : Int} (hC : IsConf H i ir ig regs geos total) (a b : Int) :
    ACalls Tryd.prog 4 45 [.pointer (some ⟨i, 0, none⟩), .int .i64 a, .int .i64 b] H fun v H' => v = .bool (leqR regs a b) ∧ H' = H := by
  refine walk s3_ok (fn := Tryd.f45) (by kernel_rfl) (c := Tryd.f45.body.get (by kernel_rfl)) (by kernel_rfl) (by simp [Tryd.f45]) ?_
  simp only [Tryd.f45, Option.get]
  obtain ⟨cr, t, m, n, l, cg, ro, par, gs, hrow⟩ := hC.row
  obtain ⟨ro2, par2, gs2, hreg⟩ := hC.rregs
  simp only [go_sem, Nat.reduceLT, Nat.reduceEqDiff, ↓reduceIte, Nat.reduceAdd, Nat.zero_add, Nat.add_zero, Nat.reduceLeDiff, Int.reduceEq, Nat.reduceMul, List.take_zero, List.drop_succ_cons, List.drop_zero, List.nil_append, List.append_nil, List.drop_nil, List.take_succ_cons, List.take_nil, List.cons_append, Int.toNat_natCast, Int.toNat_zero, Int.toNat_one]
  refine codeW_any (cxS_ok s3_ok) inf45_1 (by kernel_rfl) fun _ => ?_
  cases hb1 : (decide (0 ≤ a) && decide (a < (regs.length : Int)))
  · have hv : leqR regs a b = false := by
      unfold leqR; rw [if_neg]; intro h; rw [Bool.eq_false_iff] at hb1; apply hb1; simp; omega
    simp only [inf45_1, go_sem, Nat.reduceLT, Nat.reduceEqDiff, ↓reduceIte, Nat.reduceAdd, Nat.zero_add, Nat.add_zero, Nat.reduceLeDiff, Int.reduceEq, Nat.reduceMul, List.take_zero, List.drop_succ_cons, List.drop_zero, List.nil_append, List.append_nil, List.drop_nil, List.take_succ_cons, List.take_nil, List.cons_append, Int.toNat_natCast, Int.toNat_zero, Int.toNat_one, s3_41, s3_94, callS_cxS, hC.has, hb1, hv]
  cases hb2 : (decide (0 ≤ b) && decide (b < (regs.length : Int)))
  · have hv : leqR regs a b = false := by
      unfold leqR; rw [if_neg]; intro h; rw [Bool.eq_false_iff] at hb2; apply hb2; simp; omega
    simp only [inf45_1, go_sem, Nat.reduceLT, Nat.reduceEqDiff, ↓reduceIte, Nat.reduceAdd, Nat.zero_add, Nat.add_zero, Nat.reduceLeDiff, Int.reduceEq, Nat.reduceMul, List.take_zero, List.drop_succ_cons, List.drop_zero, List.nil_append, List.append_nil, List.drop_nil, List.take_succ_cons, List.take_nil, List.cons_append, Int.toNat_natCast, Int.toNat_zero, Int.toNat_one, s3_41, s3_94, callS_cxS, hC.has, hb1, hb2, hv]
  have h1 : 0 ≤ a ∧ a < regs.length := by simpa using hb1
  have h2 : 0 ≤ b ∧ b < regs.length := by simpa using hb2
  obtain ⟨p, rfl⟩ : ∃ p : Nat, a = p := ⟨a.toNat, by omega⟩
  obtain ⟨q, rfl⟩ : ∃ q : Nat, b = q := ⟨b.toNat, by omega⟩
  obtain ⟨r, hr⟩ : ∃ r, regs[p]? = some r := ⟨_, List.getElem?_eq_getElem (by omega)⟩
  obtain ⟨u, hu⟩ : ∃ u, regs[q]? = some u := ⟨_, List.getElem?_eq_getElem (by omega)⟩
  obtain ⟨e1, e2⟩ := flat_part RegD.cells_length regs p 1 2 r hr (by omega)
  obtain ⟨e3, e4⟩ := flat_part RegD.cells_length regs q 1 2 u hu (by omega)
  have hi1 : (0 ≤ (p : Int) ∧ (p : Int) < (regs.length : Int)) = True := by simp; omega
  have hi2 : (0 ≤ (q : Int) ∧ (q : Int) < (regs.length : Int)) = True := by simp; omega
  have hv : leqR regs (p : Int) (q : Int) = leqB r.lev r.cats u.lev u.cats := by
    unfold leqR; rw [if_pos (by omega)]; simp [List.getD_eq_getElem?_getD, hr, hu]
  simp only [inf45_1, go_sem, Nat.reduceLT, Nat.reduceEqDiff, ↓reduceIte, Nat.reduceAdd, Nat.zero_add, Nat.add_zero, Nat.reduceLeDiff, Int.reduceEq, Nat.reduceMul, List.take_zero, List.drop_succ_cons, List.drop_zero, List.nil_append, List.append_nil, List.drop_nil, List.take_succ_cons, List.take_nil, List.cons_append, Int.toNat_natCast, Int.toNat_zero, Int.toNat_one, s3_41, s3_94, callS_cxS, hC.has, hb1, hb2, hv, hrow, hreg, hi1, hi2, e1, e2, e3, e4, RegD.cells, F94_eq]

/-! ### name -/
def nameB (s : ByteArray) : Bool := decide (1 ≤ s.size) && decide (s.size ≤ 8) && s.data.toList.all fun b => decide (97 ≤ b.toNat) && decide (b.toNat ≤ 122)
def F90 : Spec := fun vs H => match vs with
  | [.string s] => some (.bool (nameB s), H)
  | _ => none
theorem F90_eq (s : ByteArray) (H : AHeap) : F90 [.string s] H = some (.bool (nameB s), H) := id rfl
theorem sp90 : SpOK 90 F90 := by
  refine .of (fn := Tryd.f90) (by kernel_rfl) (by kernel_rfl) ?_
  intro vs H v H' h
  unfold F90 at h
  split at h
  · rename_i s
    injection h with h; injection h with h1 h2; subst h1; subst h2
    refine ACalls.trim1 rfl ?_
    refine walk sp0_ok (fn := Tryd.f90) (by kernel_rfl) (c := Tryd.f90.body.get (by kernel_rfl)) (by kernel_rfl) (by simp [Tryd.f90]) ?_
    simp only [Tryd.f90, Option.get]
    by_cases c1 : (s.size : Int) < 1
    · have hv : nameB s = false := by unfold nameB; rw [decide_eq_false (by omega)]; rfl
      simp only [go_sem, Nat.reduceLT, Nat.reduceEqDiff, ↓reduceIte, Nat.reduceAdd, Nat.zero_add, Nat.add_zero, Nat.reduceLeDiff, Int.reduceEq, Nat.reduceMul, c1, hv]
    by_cases c2 : 8 < (s.size : Int)
    · have hv : nameB s = false := by unfold nameB; rw [decide_eq_false (p := s.size ≤ 8) (by omega)]; simp
      simp only [go_sem, Nat.reduceLT, Nat.reduceEqDiff, ↓reduceIte, Nat.reduceAdd, Nat.zero_add, Nat.add_zero, Nat.reduceLeDiff, Int.reduceEq, Nat.reduceMul, c1, c2, hv]
    simp only [go_sem, Nat.reduceLT, Nat.reduceEqDiff, ↓reduceIte, Nat.reduceAdd, Nat.zero_add, Nat.add_zero, Nat.reduceLeDiff, Int.reduceEq, Nat.reduceMul, c1, c2]
    refine codeW_loop (fun nn τ H' => ∃ pos : Nat, nn = s.size - pos ∧ pos ≤ s.size ∧ tget τ 14 = .pointer (some ⟨H.next, 0, none⟩) ∧ H'.get H.next = some (.iter s pos) ∧ Keeps [] H H' ∧
      ∀ j < pos, ∃ b : UInt8, s.data.toList[j]? = some b ∧ 97 ≤ b.toNat ∧ b.toNat ≤ 122) (n := s.size) ⟨0, rfl, Nat.zero_le _, ?_, ?_, ?_, fun j hj => absurd hj (by omega)⟩ ?_
    · simp only [go_sem, Nat.reduceLT, Nat.reduceEqDiff, ↓reduceIte, Nat.reduceAdd, Nat.zero_add, Nat.add_zero, Nat.reduceLeDiff, Int.reduceEq, Nat.reduceMul]
    · simp only [go_sem, Nat.reduceLT, Nat.reduceEqDiff, ↓reduceIte, Nat.reduceAdd, Nat.zero_add, Nat.add_zero, Nat.reduceLeDiff, Int.reduceEq, Nat.reduceMul]
    · exact Keeps.new _ _ _
    rintro nn τ H' ⟨pos, rfl, hp, h14, hit, hK, hall⟩
    have hlt : H.next < H'.next := AHeap.get_lt hit
    by_cases c3 : pos < s.size
    · obtain ⟨b, hb, hd⟩ := rune_at s pos c3
      have bad : ¬ (97 ≤ b.toNat ∧ b.toNat ≤ 122) → nameB s = false := by
        intro hn
        unfold nameB
        have : (s.data.toList.all fun b => decide (97 ≤ b.toNat) && decide (b.toNat ≤ 122)) = false := by
          rw [List.all_eq_false]
          exact ⟨b, List.mem_of_getElem? hb, by simpa using hn⟩
        rw [this, Bool.and_false]
      by_cases c4 : ((Utf8.decode s pos).1 : Int) < 97
      · have hv := bad (by
          rcases hd with ⟨_, hd⟩ | ⟨h1, hd⟩
          · rw [hd] at c4; have c4 : (b.toNat : Int) < 97 := c4; omega
          · omega)
        simp only [go_sem, Nat.reduceLT, Nat.reduceEqDiff, ↓reduceIte, Nat.reduceAdd, Nat.zero_add, Nat.add_zero, Nat.reduceLeDiff, Int.reduceEq, Nat.reduceMul, h14, hit, c3, c4, hv]
        exact hK.set' (Nat.le_refl _) hlt
      by_cases c5 : 122 < ((Utf8.decode s pos).1 : Int)
      · have hv := bad (by
          rcases hd with ⟨_, hd⟩ | ⟨h1, hd⟩
          · rw [hd] at c5; have c5 : 122 < (b.toNat : Int) := c5; omega
          · omega)
        simp only [go_sem, Nat.reduceLT, Nat.reduceEqDiff, ↓reduceIte, Nat.reduceAdd, Nat.zero_add, Nat.add_zero, Nat.reduceLeDiff, Int.reduceEq, Nat.reduceMul, h14, hit, c3, c4, c5, hv]
        exact hK.set' (Nat.le_refl _) hlt
      · have hd1 : Utf8.decode s pos = (b.toNat, 1) ∧ 97 ≤ b.toNat ∧ b.toNat ≤ 122 := by
          rcases hd with ⟨_, hd⟩ | ⟨h1, hd⟩
          · rw [hd] at c4 c5; simp at c4 c5; exact ⟨hd, by omega, by omega⟩
          · omega
        simp only [go_sem, Nat.reduceLT, Nat.reduceEqDiff, ↓reduceIte, Nat.reduceAdd, Nat.zero_add, Nat.add_zero, Nat.reduceLeDiff, Int.reduceEq, Nat.reduceMul, h14, hit, c3, c4, c5]
        refine ⟨s.size - (pos + 1), by omega, pos + 1, rfl, c3, ?_, hK.set' (Nat.le_refl _) hlt, fun j hj => ?_⟩
        · rw [AHeap.get_set _ _ _ _ hlt, if_pos rfl, hd1.1]
        · rcases Nat.lt_or_ge j pos with h | h
          · exact hall j h
          · obtain rfl : j = pos := by omega
            exact ⟨b, hb, hd1.2⟩
    · have hv : nameB s = true := by
        unfold nameB
        rw [decide_eq_true (by omega), decide_eq_true (by omega), Bool.true_and, Bool.true_and, List.all_eq_true]
        intro b hb
        obtain ⟨j, hj⟩ := List.mem_iff_getElem?.1 hb
        have hjl : j < s.data.toList.length := (List.getElem?_eq_some_iff.1 hj).1
        obtain ⟨b', h1, h2, h3⟩ := hall j (by rw [size_list] at hjl; omega)
        rw [hj] at h1; injection h1 with h1; subst h1
        simp [h2, h3]
      simp only [go_sem, Nat.reduceLT, Nat.reduceEqDiff, ↓reduceIte, Nat.reduceAdd, Nat.zero_add, Nat.add_zero, Nat.reduceLeDiff, Int.reduceEq, Nat.reduceMul, h14, hit, c3, hv, hK]
  · cases h
end Go.Proofs.YtkjclebafpomhaaDoor
set_option linter.unusedVariables false
set_option linter.unusedSimpArgs false
set_option maxRecDepth 100000
namespace Go.Proofs.YtkjclebafpomhaaDoor
open Go Go.Eng

theorem und36 : Tryd.prog.underlying 36 = some (.struct #[{ name := "Level", type := 5, offset := 0, embedded := false, tag := "", pkgPath := "", byteOffset := 0 }, { name := "Cats", type := 34, offset := 1, embedded := false, tag := "", pkgPath := "", byteOffset := 2 }]) := by kernel_rfl
theorem und5 : Tryd.prog.underlying 5 = some (.int .u8) := by kernel_rfl
theorem und34 : Tryd.prog.underlying 34 = some (.int .u16) := by kernel_rfl
theorem eqInt (d : Nat) (t : TypeId) (k : IntKind) (k' : IntKind) (a b : Int) (h : Tryd.prog.underlying t = some (.int k')) : prun Tryd.prog (Op.equalIn (d + 1) t (.int k a) (.int k b)) = some (a == b) := by
  unfold Op.equalIn
  simp only [prun_bind, prun_underlying h, Option.bind_some]
  rfl
theorem stood36 : Tryd.prog.stoodInHeld 36 = false := by kernel_rfl
theorem part_at (t : TypeId) (k : IntKind) (ht : Tryd.prog.underlying t = some (.int k)) (l : Array Value) (o : Nat) (v : Value) (h : l[o]? = some v) : prun Tryd.prog (part t l o) = some v := by
  unfold part isAgg
  simp only [prun_bind, prun_underlying ht, Option.bind_some]
  rw [h]
  rfl
theorem und48 : Tryd.prog.underlying 48 = some (.struct #[{ name := "Lab", type := 5, offset := 0, embedded := false, tag := "", pkgPath := "", byteOffset := 0 }, { name := "Num", type := 34, offset := 1, embedded := false, tag := "", pkgPath := "", byteOffset := 2 }]) := by kernel_rfl
theorem stood48 : Tryd.prog.stoodInHeld 48 = false := by kernel_rfl
theorem eq36 (a b c d : Int) : prun Tryd.prog (Op.equal 36 (.agg #[.int .u8 a, .int .u16 b]) (.agg #[.int .u8 c, .int .u16 d])) = some ((a == c) && (b == d)) := by
  show prun Tryd.prog (Op.equalIn 10000 36 _ _) = _
  unfold Op.equalIn
  simp only [prun_bind, prun_underlying und36, Option.bind_some, prun_program, stood36]
  simp only [Bool.false_eq_true, if_false, List.forIn_toArray, List.forIn_cons, List.forIn_nil, prun_bind]
  have n1 : ("Level" ≠ "_") = True := by simp
  have n2 : ("Cats" ≠ "_") = True := by simp
  simp only [n1, n2, if_true, prun_bind, part_at 5 _ und5 #[Value.int IntKind.u8 a, Value.int IntKind.u16 b] 0 (.int .u8 a) rfl, part_at 5 _ und5 #[Value.int IntKind.u8 c, Value.int IntKind.u16 d] 0 (.int .u8 c) rfl, part_at 34 _ und34 #[Value.int IntKind.u8 a, Value.int IntKind.u16 b] 1 (.int .u16 b) rfl, part_at 34 _ und34 #[Value.int IntKind.u8 c, Value.int IntKind.u16 d] 1 (.int .u16 d) rfl, Option.bind_some]
  have e1 : prun Tryd.prog (Op.equalIn 9999 5 (.int .u8 a) (.int .u8 c)) = some (a == c) := eqInt 9998 5 .u8 .u8 a c und5
  have e2 : prun Tryd.prog (Op.equalIn 9999 34 (.int .u16 b) (.int .u16 d)) = some (b == d) := eqInt 9998 34 .u16 .u16 b d und34
  rw [e1]
  cases (a == c)
  · rfl
  · simp only [Option.bind_some, Bool.not_true, Bool.false_eq_true, if_false, prun_pure, prun_bind, part_at 34 _ und34 #[Value.int IntKind.u8 a, Value.int IntKind.u16 b] 1 (.int .u16 b) rfl, part_at 34 _ und34 #[Value.int IntKind.u8 c, Value.int IntKind.u16 d] 1 (.int .u16 d) rfl, e2]
    cases (b == d) <;> rfl
theorem eq48 (a b c d : Int) : prun Tryd.prog (Op.equal 48 (.agg #[.int .u8 a, .int .u16 b]) (.agg #[.int .u8 c, .int .u16 d])) = some ((a == c) && (b == d)) := by
  show prun Tryd.prog (Op.equalIn 10000 48 _ _) = _
  unfold Op.equalIn
  simp only [prun_bind, prun_underlying und48, Option.bind_some, prun_program, stood48]
  simp only [Bool.false_eq_true, if_false, List.forIn_toArray, List.forIn_cons, List.forIn_nil, prun_bind]
  have n1 : ("Lab" ≠ "_") = True := by simp
  have n2 : ("Num" ≠ "_") = True := by simp
  simp only [n1, n2, if_true, prun_bind, part_at 5 _ und5 #[Value.int IntKind.u8 a, Value.int IntKind.u16 b] 0 (.int .u8 a) rfl, part_at 5 _ und5 #[Value.int IntKind.u8 c, Value.int IntKind.u16 d] 0 (.int .u8 c) rfl, part_at 34 _ und34 #[Value.int IntKind.u8 a, Value.int IntKind.u16 b] 1 (.int .u16 b) rfl, part_at 34 _ und34 #[Value.int IntKind.u8 c, Value.int IntKind.u16 d] 1 (.int .u16 d) rfl, Option.bind_some]
  have e1 : prun Tryd.prog (Op.equalIn 9999 5 (.int .u8 a) (.int .u8 c)) = some (a == c) := eqInt 9998 5 .u8 .u8 a c und5
  have e2 : prun Tryd.prog (Op.equalIn 9999 34 (.int .u16 b) (.int .u16 d)) = some (b == d) := eqInt 9998 34 .u16 .u16 b d und34
  rw [e1]
  cases (a == c)
  · rfl
  · simp only [Option.bind_some, Bool.not_true, Bool.false_eq_true, if_false, prun_pure, prun_bind, part_at 34 _ und34 #[Value.int IntKind.u8 a, Value.int IntKind.u16 b] 1 (.int .u16 b) rfl, part_at 34 _ und34 #[Value.int IntKind.u8 c, Value.int IntKind.u16 d] 1 (.int .u16 d) rfl, e2]
    cases (b == d) <;> rfl

/-! ### Entries, in the order in which they came -/
def ents {α : Type} (kf : α → Value) (l : List α) : List MapEntry := l.zipIdx.map fun p => { key := kf p.1, val := .int .i64 p.2, born := p.2 }
theorem ents_append {α : Type} (kf : α → Value) (l : List α) (a : α) : ents kf (l ++ [a]) = ents kf l ++ [{ key := kf a, val := .int .i64 l.length, born := l.length }] := by
  unfold ents
  rw [List.zipIdx_append, List.map_append]
  simp
theorem ents_length {α : Type} (kf : α → Value) (l : List α) : (ents kf l).length = l.length := by simp [ents]
theorem ents_mem {α : Type} {kf : α → Value} {l : List α} {e : MapEntry} (h : e ∈ ents kf l) : ∃ (a : α) (i : Nat), l[i]? = some a ∧ e = { key := kf a, val := .int .i64 i, born := i } := by
  unfold ents at h
  obtain ⟨⟨a, i⟩, h1, rfl⟩ := List.mem_map.1 h
  exact ⟨a, i, by have := List.mem_zipIdx_iff_getElem?.1 h1; simpa using this, rfl⟩
/-- Whether a key is there, and where. -/
def spot {α : Type} (eq : α → Bool) : List α → Nat → Option Nat
  | [], _ => none
  | a :: l, i => if eq a then some i else spot eq l (i + 1)
theorem spot_some {α : Type} {eq : α → Bool} : ∀ (l : List α) (i j : Nat), spot eq l i = some j → i ≤ j ∧ ∃ a, l[j - i]? = some a ∧ eq a = true := by
  intro l
  induction l with
  | nil => intro i j h; cases h
  | cons a l ih =>
    intro i j h
    simp only [spot] at h
    split at h
    · rename_i he; injection h with h; subst h; exact ⟨Nat.le_refl _, a, by simp, he⟩
    · obtain ⟨h1, b, h2, h3⟩ := ih _ _ h
      refine ⟨by omega, b, ?_, h3⟩
      rw [show j - i = (j - (i + 1)) + 1 by omega]
      simpa using h2
theorem spot_any {α : Type} (eq : α → Bool) : ∀ (l : List α) (i : Nat), (spot eq l i).isSome = l.any eq := by
  intro l
  induction l with
  | nil => intro i; rfl
  | cons a l ih =>
    intro i
    simp only [spot, List.any_cons]
    split
    · rename_i h; simp [h]
    · rename_i h; rw [ih]; simp [h]
theorem spot_none {α : Type} {eq : α → Bool} {l : List α} {i : Nat} (h : l.any eq = false) : spot eq l i = none := by
  have := spot_any eq l i
  rw [h] at this
  cases hs : spot eq l i with
  | none => rfl
  | some j => rw [hs] at this; cases this

theorem findNow_ents (s : ByteArray) : ∀ (l : List (ByteArray × Nat)) (i : Nat), aFindNow .string (.string s) (l.map fun p => ({ key := .string p.1, val := .int .i64 p.2, born := p.2 } : MapEntry)) i = some (spot (fun x => s == x.1) l i) := by
  intro l
  induction l with
  | nil => intro i; rfl
  | cons a l ih =>
    intro i
    simp only [List.map_cons, aFindNow, spot]
    rw [if_pos (show flat 2 (.string a.1) = true from rfl)]
    have e : Instr.sameNow .string (.string s) (.string a.1) = some (s == a.1) := rfl
    rw [e]
    by_cases h : (s == a.1) = true
    · rw [if_pos h, h]
    · rw [if_neg h, Bool.eq_false_iff.2 h]
      simp only
      rw [ih]
theorem spot_map {α β : Type} (f : α → β) (eq : β → Bool) : ∀ (l : List α) (i : Nat), spot eq (l.map f) i = spot (fun a => eq (f a)) l i := by
  intro l
  induction l with
  | nil => intro i; rfl
  | cons a l ih => intro i; simp only [List.map_cons, spot, ih]
theorem spot_zip {α : Type} (eq : α → Bool) : ∀ (l : List α) (i k : Nat), spot (fun p : α × Nat => eq p.1) (l.zipIdx k) i = spot eq l i := by
  intro l
  induction l with
  | nil => intro i k; rfl
  | cons a l ih => intro i k; simp only [List.zipIdx_cons, spot, ih]
theorem findAsk_ents {α : Type} (t : TypeId) (kf : α → Value) (k : Value) (eq : α → Bool) (hf : ∀ a, flat 2 (kf a) = true) (he : ∀ a, prun Tryd.prog (Op.equal t k (kf a)) = some (eq a)) : ∀ (l : List α) (es : List MapEntry) (i : Nat), es.map (·.key) = l.map kf → aFindAsk Tryd.prog t k es i = some (spot eq l i) := by
  intro l
  induction l with
  | nil => intro es i h; cases es with | nil => rfl | cons e es => cases h
  | cons a l ih =>
    intro es i h
    cases es with
    | nil => cases h
    | cons e es =>
      simp only [List.map_cons, List.cons.injEq] at h
      simp only [aFindAsk, spot, h.1]
      rw [if_pos (hf a), he a]
      cases eq a with
      | true => simp
      | false => simp only []; rw [ih es _ h.2]; simp
theorem ents_keys {α : Type} (kf : α → Value) (l : List α) : (ents kf l).map (·.key) = l.map kf := by
  unfold ents
  rw [List.map_map]
  have : ((fun x : MapEntry => x.key) ∘ fun p : α × Nat => ({ key := kf p.1, val := .int .i64 p.2, born := p.2 } : MapEntry)) = kf ∘ Prod.fst := rfl
  rw [this, ← List.map_map, List.zipIdx_map_fst]
theorem find97 (s : ByteArray) (l : List ByteArray) : aFind Tryd.prog tb 9 (.string s) (ents .string l) = some (spot (fun x => s == x) l 0) := by
  have h : tb.und 9 = some .string := by kernel_rfl
  unfold aFind
  rw [h]
  show aFindNow .string (.string s) (ents .string l) 0 = _
  unfold ents
  rw [findNow_ents, spot_zip]
def labV (p : Int × Int) : Value := .agg #[.int .u8 p.1, .int .u16 p.2]
theorem find98 (a b : Int) (l : List (Int × Int)) : aFind Tryd.prog tb 36 (labV (a, b)) (ents labV l) = some (spot (fun x => (a == x.1) && (b == x.2)) l 0) := by
  have h : tb.und 36 = Tryd.prog.underlying 36 := rfl
  unfold aFind
  rw [h, und36]
  show aFindAsk Tryd.prog 36 (labV (a, b)) (ents labV l) 0 = _
  exact findAsk_ents 36 labV _ _ (fun _ => rfl) (fun x => eq36 a b x.1 x.2) l _ 0 (ents_keys _ _)
theorem find96 (a b : Int) (l : List (Int × Int)) (es : List MapEntry) (hk : es.map (·.key) = l.map labV) : aFind Tryd.prog tb 48 (labV (a, b)) es = some (spot (fun x => (a == x.1) && (b == x.2)) l 0) := by
  have h : tb.und 48 = Tryd.prog.underlying 48 := rfl
  unfold aFind
  rw [h, und48]
  show aFindAsk Tryd.prog 48 (labV (a, b)) es 0 = _
  exact findAsk_ents 48 labV _ _ (fun _ => rfl) (fun x => eq48 a b x.1 x.2) l es 0 hk

theorem und97 : tb.und 97 = some (.map 9 3) := by kernel_rfl
theorem und98 : tb.und 98 = some (.map 36 3) := by kernel_rfl
theorem und96 : tb.und 96 = some (.map 48 4) := by kernel_rfl
theorem chk9 (e : Bool) (s : ByteArray) : prun Tryd.prog (Instr.checkKey e 10000 9 (.string s)) = some () := by cases e <;> kernel_rfl
theorem chk36 (e : Bool) (a b : Int) : prun Tryd.prog (Instr.checkKey e 10000 36 (.agg #[.int .u8 a, .int .u16 b])) = some () := by cases e <;> kernel_rfl
theorem chk48 (e : Bool) (a b : Int) : prun Tryd.prog (Instr.checkKey e 10000 48 (.agg #[.int .u8 a, .int .u16 b])) = some () := by cases e <;> kernel_rfl

theorem look97 {H : AHeap} {r ck : Nat} {ro : Bool} {l : List ByteArray} (hg : H.get r = some (.map (ents .string l) ck ro)) (s : ByteArray) : ∃ v, aLookup Tryd.prog tb 97 (.map (some r)) (.string s) true H = some (.tuple #[v, .bool (l.any fun x => s == x)]) := by
  have hz : zeroT tb 3 = some (.int .i64 0) := by kernel_rfl
  unfold aLookup
  simp only [und97, hg, chk9, find97]
  rw [if_pos (show flat 2 (.string s) = true from rfl)]
  have := spot_any (fun x => s == x) l 0
  cases h : spot (fun x => s == x) l 0 with
  | none =>
    rw [h] at this
    rw [← this]
    exact ⟨_, by simp only [hz, Option.map_some, if_true]; rfl⟩
  | some j =>
    rw [h] at this
    rw [← this]
    exact ⟨_, by simp only [if_true]; rfl⟩
theorem look98 {H : AHeap} {r ck : Nat} {ro : Bool} {l : List (Int × Int)} (hg : H.get r = some (.map (ents labV l) ck ro)) (a b : Int) : ∃ v, aLookup Tryd.prog tb 98 (.map (some r)) (.agg #[.int .u8 a, .int .u16 b]) true H = some (.tuple #[v, .bool (l.any fun x => (a == x.1) && (b == x.2))]) := by
  have hz : zeroT tb 3 = some (.int .i64 0) := by kernel_rfl
  have hf := find98 a b l
  unfold labV at hf
  unfold aLookup
  simp only [und98, hg, chk36]
  have hf : aFind Tryd.prog tb 36 (.agg #[.int .u8 a, .int .u16 b]) (ents labV l) = _ := hf
  rw [if_pos (show flat 2 (.agg #[.int .u8 a, .int .u16 b]) = true from rfl), hf]
  have := spot_any (fun x : Int × Int => (a == x.1) && (b == x.2)) l 0
  cases h : spot (fun x : Int × Int => (a == x.1) && (b == x.2)) l 0 with
  | none =>
    rw [h] at this
    rw [← this]
    exact ⟨_, by simp only [hz, Option.map_some, if_true]; rfl⟩
  | some j =>
    rw [h] at this
    rw [← this]
    exact ⟨_, by simp only [if_true]; rfl⟩
theorem entry97 {H : AHeap} {r : Nat} {l : List ByteArray} (hg : H.get r = some (.map (ents .string l) l.length false)) {s : ByteArray} (hn : (l.any fun x => s == x) = false) :
    aMapEntry Tryd.prog tb 97 (.map (some r)) (.string s) H = some (.tuple #[.int .i64 0, .int .i64 l.length], H.set r (.map (ents .string l ++ [{ key := .string s, val := .int .i64 0, born := l.length }]) (l.length + 1))) := by
  have hz : zeroT tb 3 = some (.int .i64 0) := by kernel_rfl
  unfold aMapEntry
  simp only [und97, hg, chk9, find97, spot_none hn, hz, Option.map_some]
  rw [if_pos (show flat 2 (.string s) = true from rfl)]
theorem entry98 {H : AHeap} {r : Nat} {l : List (Int × Int)} (hg : H.get r = some (.map (ents labV l) l.length false)) {a b : Int} (hn : (l.any fun x => (a == x.1) && (b == x.2)) = false) :
    aMapEntry Tryd.prog tb 98 (.map (some r)) (.agg #[.int .u8 a, .int .u16 b]) H = some (.tuple #[.int .i64 0, .int .i64 l.length], H.set r (.map (ents labV l ++ [{ key := .agg #[.int .u8 a, .int .u16 b], val := .int .i64 0, born := l.length }]) (l.length + 1))) := by
  have hz : zeroT tb 3 = some (.int .i64 0) := by kernel_rfl
  have hf := find98 a b l
  have hf : aFind Tryd.prog tb 36 (.agg #[.int .u8 a, .int .u16 b]) (ents labV l) = _ := hf
  unfold aMapEntry
  simp only [und98, hg, chk36, hf, spot_none hn, hz, Option.map_some]
  rw [if_pos (show flat 2 (.agg #[.int .u8 a, .int .u16 b]) = true from rfl)]
theorem bornAt_last (n : Nat) (e : MapEntry) (he : e.born = n) : ∀ (es : List MapEntry) (i : Nat), (∀ x ∈ es, x.born ≠ n) → bornAt (n : Int) (es ++ [e]) i = some (i + es.length) := by
  intro es
  induction es with
  | nil =>
    intro i _
    simp only [List.nil_append, bornAt, he, beq_self_eq_true, if_true, List.length_nil, Nat.add_zero]
  | cons x es ih =>
    intro i h
    have hx := h x (List.mem_cons_self ..)
    simp only [List.cons_append, bornAt]
    rw [if_neg (by simp; omega), ih _ (fun y hy => h y (List.mem_cons_of_mem _ hy))]
    simp; omega
theorem emod_last (es : List MapEntry) (e : MapEntry) (f : MapEntry → MapEntry) : emod (es ++ [e]) es.length f = es ++ [f e] := by
  unfold emod
  simp
theorem estore {α : Type} {H : AHeap} {r ck : Nat} {kf : α → Value} {l : List α} {k v0 v : Value} (hg : H.get r = some (.map (ents kf l ++ [{ key := k, val := v0, born := l.length }]) ck false)) :
    aEntryStore (.map (some r)) (.int .i64 l.length) v H = some (H.set r (.map (ents kf l ++ [{ key := k, val := v, born := l.length }]) ck)) := by
  unfold aEntryStore
  simp only [hg]
  have hb := bornAt_last l.length { key := k, val := v0, born := l.length } rfl (ents kf l) 0 (fun x hx => by
    obtain ⟨a, i, h1, rfl⟩ := ents_mem hx
    have := (List.getElem?_eq_some_iff.1 h1).1
    simp; omega)
  rw [hb]
  simp only [Option.map_some, Nat.zero_add]
  rw [ents_length, show l.length = (ents kf l).length by rw [ents_length], emod_last]
/-- Two labels held against each other. -/
theorem neq36 (ox oy : Operand) (H : AHeap) (a b c d : Int) : aBinF Tryd.prog tb .neq 36 ox oy (.agg #[.int .u8 a, .int .u16 b]) (.agg #[.int .u8 c, .int .u16 d]) H = some (.bool !((a == c) && (b == d))) := by
  have hq : prun Tryd.prog (eqGuard .neq 36 ox oy (.agg #[.int .u8 a, .int .u16 b]) (.agg #[.int .u8 c, .int .u16 d])) = some () := by
    have : (Tryd.prog).eqGuardType (Tryd.prog).depth 36 = false := by kernel_rfl
    unfold eqGuard
    simp [this]
  have e : prun Tryd.prog (do eqGuard .neq 36 ox oy (.agg #[.int .u8 a, .int .u16 b]) (.agg #[.int .u8 c, .int .u16 d]); binOp .neq 36 (.agg #[.int .u8 a, .int .u16 b]) (.agg #[.int .u8 c, .int .u16 d])) = some (.bool !((a == c) && (b == d))) := by
    simp only [prun_bind, hq, Option.bind_some]
    have h2 : binOp .neq 36 (.agg #[.int .u8 a, .int .u16 b]) (.agg #[.int .u8 c, .int .u16 d]) = (do pure (.bool (!(← Op.equal 36 (.agg #[.int .u8 a, .int .u16 b]) (.agg #[.int .u8 c, .int .u16 d]))))) := rfl
    rw [h2]
    simp only [prun_bind, eq36, Option.bind_some, prun_pure]
  unfold aBinF aBin
  rw [if_pos (by rfl), e]
  rfl
end Go.Proofs.YtkjclebafpomhaaDoor
set_option linter.unusedVariables false
set_option linter.unusedSimpArgs false
set_option maxRecDepth 100000
namespace Go.Proofs.YtkjclebafpomhaaDoor
open Go Go.Eng

def s6 : Specs := spAdd (spAdd (spAdd (spAdd sp0 93 F93) 92 F92) 91 F91) 90 F90
theorem s6_93 : s6 93 = some F93 := id rfl
theorem s6_92 : s6 92 = some F92 := id rfl
theorem s6_91 : s6 91 = some F91 := id rfl
theorem s6_90 : s6 90 = some F90 := id rfl
theorem s6_ok : SpsOK s6 := spAdd_ok (spAdd_ok (spAdd_ok (spAdd_ok sp0_ok sp93) sp92) sp91) sp90

/-- A row that append made. -/
def RowS (H : AHeap) (lo i : Nat) (s : Value) (n sz : Nat) (cs : List Value) : Prop :=
  (n = 0 ∧ s = .slice none 0 0 ∧ cs = []) ∨ ∃ b par, 0 < n ∧ s = .slice (some ⟨b, 0, none⟩) n (grow + n) ∧ H.get b = some (.cells cs false par sz) ∧ lo ≤ b ∧ b ≠ i
/-- A configuration that is being made. -/
structure ConfK (H : AHeap) (lo i : Nat) (regs : List RegD) (geos : List GeoD) (total : Int) : Prop where
  all : ∃ it inn il sr sg, H.get i = some (.cells [sr, .map (some it), .slice none 0 0, .map (some inn), .map (some il), sg, .int .i64 total] false [] 0) ∧ H.get it = some (.map [] 0 false) ∧
    H.get inn = some (.map (ents .string (regs.map (·.name))) regs.length false) ∧ H.get il = some (.map (ents labV (regs.map fun r => (r.lev, r.cats))) regs.length false) ∧
    RowS H lo i sr regs.length 9 (regs.flatMap RegD.cells) ∧ RowS H lo i sg geos.length 6 (geos.flatMap GeoD.cells) ∧ lo ≤ it ∧ lo ≤ inn ∧ lo ≤ il ∧ it ≠ inn ∧ it ≠ il ∧ inn ≠ il
  low : lo ≤ i
  same : geos.length = regs.length
theorem RowS.keep {H H' : AHeap} {lo i n sz : Nat} {s : Value} {cs : List Value} (h : RowS H lo i s n sz cs) (k : ∀ b, H.get b = some (.cells cs false (match H.get b with | some o => o.par | none => []) sz) → lo ≤ b → b ≠ i → H'.get b = H.get b) : RowS H' lo i s n sz cs := by
  rcases h with h | ⟨b, par, h1, h2, h3, h4, h5⟩
  · exact .inl h
  · exact .inr ⟨b, par, h1, h2, by rw [k b (by rw [h3]; rfl) h4 h5]; exact h3, h4, h5⟩
structure KeepLo (lo : Nat) (H H' : AHeap) : Prop where
  le : H.next ≤ H'.next
  old : ∀ j, j < lo → H'.get j = H.get j
def w64 (n : Int) : Int := IntKind.wrap .i64 n
def geoOf (total : Int) (r : RegD) : GeoD :=
  { base := total, bitmap := w64 ((w64 (w64 (r.blocks + 512) - 1)).tdiv 512), table := w64 ((w64 (w64 (w64 (r.nodes * 32) + 64) - 1)).tdiv 64),
    data := w64 (w64 (total + w64 ((w64 (w64 (r.blocks + 512) - 1)).tdiv 512)) + w64 ((w64 (w64 (w64 (r.nodes * 32) + 64) - 1)).tdiv 64)), blocks := r.blocks, nodes := r.nodes }
def addErr (many : Int) (regs : List RegD) (r : RegD) : Int :=
  if nameB r.name = false then 30 else if decide (r.lev ≤ 15) = false then 27 else if r.sound = false then 27 else if (decide (0 ≤ r.clear) && decide (r.clear ≤ w64 (many - 1))) = false then 27 else
  if ((regs.map (·.name)).any fun x => r.name == x) = true then 29 else if ((regs.map fun r => (r.lev, r.cats)).any fun x => (r.lev == x.1) && (r.cats == x.2)) = true then 29 else 0
def inf44_5 : Info := [([0], [], false), ([36], [], false), ([37], [], false), ([38], [], false), ([6], [0, 1, 2, 3], false), ([40], [0, 1, 2, 3], false), ([39, 41], [], false), ([42], [], false), ([35], [], false), ([35], [8], false), ([43], [9], false), ([44], [], false)]
def inf44_8 : Info := [([0], [], false), ([47], [], false), ([48], [], false), ([49], [], false), ([6], [0, 1, 2, 3], false), ([51], [0, 1, 2, 3], false), ([50, 52], [], false), ([53], [], false), ([46], [], false), ([46], [8], false), ([54], [9], false), ([55], [], false)]
def inf44_11 : Info := [([0], [], false), ([57], [], false), ([58], [], false), ([59], [], false), ([6], [0, 1, 2, 3], false), ([61], [0, 1, 2, 3], false), ([0], [0, 1, 2, 3, 4, 5], false), ([63], [0, 1, 2, 3, 4, 5], false), ([64], [0, 1, 2, 3, 4, 5], false), ([65], [0, 1, 2, 3, 4, 5], false), ([6], [0, 1, 2, 3, 4, 5, 6, 7, 8, 9], false), ([67], [0, 1, 2, 3, 4, 5, 6, 7, 8, 9], false), ([1], [0, 1, 2, 3, 4, 5, 6, 7, 8, 9, 10, 11], false), ([1], [0, 1, 2, 3, 4, 5, 6, 7, 8, 9, 10, 11, 12], false), ([60, 62], [10, 11, 12, 13], false), ([71], [10, 11, 12, 13], false), ([60, 72, 69], [10, 11, 13], false), ([66, 68], [13], false), ([73], [13], false), ([66, 74, 70], [], false)]
def inf44_12 : Info := [([0], [], false), ([75], [], false), ([76], [], false), ([77], [], false), ([6], [0, 1, 2, 3], false), ([79], [0, 1, 2, 3], false), ([80], [0, 1, 2, 3], false), ([81], [0, 1, 2, 3], false), ([82], [0, 1, 2, 3], false), ([6], [0, 1, 2, 3, 4, 5, 6, 7, 8], false), ([84], [0, 1, 2, 3, 4, 5, 6, 7, 8], false), ([85], [0, 1, 2, 3, 4, 5, 6, 7, 8], false), ([86], [0, 1, 2, 3, 4, 5, 6, 7, 8], false), ([87], [0, 1, 2, 3, 4, 5, 6, 7, 8], false), ([88], [0, 1, 2, 3, 4, 5, 6, 7, 8], false), ([6], [0, 1, 2, 3, 4, 5, 6, 7, 8, 9, 10, 11, 12, 13, 14], false), ([90], [0, 1, 2, 3, 4, 5, 6, 7, 8, 9, 10, 11, 12, 13, 14], false), ([6], [0, 1, 2, 3, 4, 5, 6, 7, 8, 9, 10, 11, 12, 13, 14, 15, 16], false), ([92], [0, 1, 2, 3, 4, 5, 6, 7, 8, 9, 10, 11, 12, 13, 14, 15, 16], false), ([78, 83, 89, 91, 93], [], false), ([], [0, 1, 2, 3, 4, 5, 6, 7, 8, 9, 10, 11, 12, 13, 14, 15, 16, 17, 18, 19], false), ([13, 94], [], false)]
def inf44_14 : Info := [([0], [], false), ([0], [0], false), ([0], [0, 1], false), ([0], [0, 1, 2], false), ([107], [0, 1, 2], false), ([108], [0, 1, 2], false), ([109], [0, 1, 2], false), ([6], [0, 1, 2, 3, 4, 5, 6], false), ([111], [0, 1, 2, 3, 4, 5, 6], false), ([110, 112], [0, 1, 2], false), ([0], [0, 1, 2, 3, 4, 5, 6, 7, 8, 9], false), ([114], [0, 1, 2, 3, 4, 5, 6, 7, 8, 9], false), ([115], [0, 1, 2, 3, 4, 5, 6, 7, 8, 9], false), ([116], [0, 1, 2, 3, 4, 5, 6, 7, 8, 9], false), ([13], [0, 1, 2, 3, 4, 5, 6, 7, 8, 9, 10, 11, 12, 13], false), ([118], [0, 1, 2, 3, 4, 5, 6, 7, 8, 9, 10, 11, 12, 13], false), ([117, 119], [0, 1, 2], false), ([13], [0, 1, 2, 3, 4, 5, 6, 7, 8, 9, 10, 11, 12, 13, 14, 15, 16], false), ([121], [0, 1, 2, 3, 4, 5, 6, 7, 8, 9, 10, 11, 12, 13, 14, 15, 16], false), ([6], [0, 1, 2, 3, 4, 5, 6, 7, 8, 9, 10, 11, 12, 13, 14, 15, 16, 17, 18], false), ([123], [0, 1, 2, 3, 4, 5, 6, 7, 8, 9, 10, 11, 12, 13, 14, 15, 16, 17, 18], false), ([122, 124], [0, 1, 2, 3, 4, 5, 6, 7, 8, 9, 10, 11, 12, 13, 14, 15, 16], false), ([104], [1, 2, 17, 18, 19, 20, 21], false), ([126], [1, 2, 17, 18, 19, 20, 21], false), ([127, 113], [1, 2, 17, 18, 19, 20, 21], false), ([105], [2, 17, 18, 19, 20, 21], false), ([128], [2, 17, 18, 19, 20, 21], false), ([129, 120], [2, 17, 18, 19, 20, 21], false), ([106], [], false), ([130], [], false), ([131, 125], [], false)]
set_option maxHeartbeats 2000000 in
theorem add_c {H : AHeap} {lo i : Nat} {regs : List RegD} {geos : List GeoD} {total : Int} (hC : ConfK H lo i regs geos total) (hk : regs.length ≤ 64) (r : RegD) (many : Int) :
    ACalls Tryd.prog 4 44 [.pointer (some ⟨i, 0, none⟩), .int .i64 regs.length, .agg r.cells.toArray, .int .i64 many] H fun v H' =>
      v = .int .i64 (addErr many regs r) ∧ KeepLo lo H H' ∧ (addErr many regs r = 0 → ConfK H' lo i (regs ++ [r]) (geos ++ [geoOf total r]) (w64 ((geoOf total r).data + r.blocks))) := by
  obtain ⟨⟨it, inn, il, sr, sg, hrow, hit, hinn, hil, hsr, hsg, l1, l2, l3, d1, d2, d3⟩, hlow, hsame⟩ := hC
  have hi : i < H.next := AHeap.get_lt hrow
  have hit' : it < H.next := AHeap.get_lt hit
  have hinn' : inn < H.next := AHeap.get_lt hinn
  have hil' : il < H.next := AHeap.get_lt hil
  have n1 : i ≠ it := fun e => by rw [e, hit] at hrow; cases hrow
  have n2 : i ≠ inn := fun e => by rw [e, hinn] at hrow; cases hrow
  have n3 : i ≠ il := fun e => by rw [e, hil] at hrow; cases hrow
  refine walk s6_ok (fn := Tryd.f44) (by kernel_rfl) (c := Tryd.f44.body.get (by kernel_rfl)) (by kernel_rfl) (by simp [Tryd.f44]) ?_
  obtain ⟨rname, rlev, rcats, rblocks, rnodes, rframes, rprocs, ropens, rclear⟩ := r
  have q1 : H.next ≠ i := by omega
  have q2 : H.next ≠ it := by omega
  have q3 : H.next ≠ inn := by omega
  have q4 : H.next ≠ il := by omega
  have keep0 : ∀ o, KeepLo lo H (H.new o) := fun o => ⟨by simp, fun j hj => by rw [AHeap.get_new, if_neg (by omega)]⟩
  simp only [Tryd.f44, Option.get, RegD.cells]
  cases c1 : nameB rname
  · have hv : addErr many regs ⟨rname, rlev, rcats, rblocks, rnodes, rframes, rprocs, ropens, rclear⟩ = 30 := by unfold addErr; rw [if_pos c1]
    simp only [go_sem, Nat.reduceLT, Nat.reduceEqDiff, ↓reduceIte, Nat.reduceAdd, Nat.zero_add, Nat.add_zero, Nat.reduceLeDiff, Int.reduceEq, Nat.reduceMul, List.take_zero, List.drop_succ_cons, List.drop_zero, List.nil_append, List.append_nil, List.drop_nil, List.take_succ_cons, List.take_nil, List.cons_append, Int.toNat_natCast, Int.toNat_zero, Int.toNat_one, s6_90, F90_eq, fn_ex, c1, hv, keep0]
  cases c2 : decide (rlev ≤ 15)
  · have hv : addErr many regs ⟨rname, rlev, rcats, rblocks, rnodes, rframes, rprocs, ropens, rclear⟩ = 27 := by unfold addErr; rw [if_neg (by simp [c1]), if_pos c2]
    simp only [go_sem, Nat.reduceLT, Nat.reduceEqDiff, ↓reduceIte, Nat.reduceAdd, Nat.zero_add, Nat.add_zero, Nat.reduceLeDiff, Int.reduceEq, Nat.reduceMul, List.take_zero, List.drop_succ_cons, List.drop_zero, List.nil_append, List.append_nil, List.drop_nil, List.take_succ_cons, List.take_nil, List.cons_append, Int.toNat_natCast, Int.toNat_zero, Int.toNat_one, s6_90, F90_eq, s6_91, F91_eq, fn_ex, c1, c2, hv, keep0]
  cases c3 : (RegD.mk rname rlev rcats rblocks rnodes rframes rprocs ropens rclear).sound
  · have hv : addErr many regs ⟨rname, rlev, rcats, rblocks, rnodes, rframes, rprocs, ropens, rclear⟩ = 27 := by unfold addErr; rw [if_neg (by simp [c1]), if_neg (by simp [c2]), if_pos c3]
    simp only [go_sem, Nat.reduceLT, Nat.reduceEqDiff, ↓reduceIte, Nat.reduceAdd, Nat.zero_add, Nat.add_zero, Nat.reduceLeDiff, Int.reduceEq, Nat.reduceMul, List.take_zero, List.drop_succ_cons, List.drop_zero, List.nil_append, List.append_nil, List.drop_nil, List.take_succ_cons, List.take_nil, List.cons_append, Int.toNat_natCast, Int.toNat_zero, Int.toNat_one, s6_90, F90_eq, s6_91, F91_eq, s6_92, F92_eq, fn_ex, c1, c2, c3, hv, keep0]
  cases c4 : (decide (0 ≤ rclear) && decide (rclear ≤ IntKind.wrap .i64 (many - 1)))
  · have hv : addErr many regs ⟨rname, rlev, rcats, rblocks, rnodes, rframes, rprocs, ropens, rclear⟩ = 27 := by unfold addErr w64; rw [if_neg (by simp [c1]), if_neg (by simp [c2]), if_neg (by simp [c3]), if_pos c4]
    simp only [go_sem, Nat.reduceLT, Nat.reduceEqDiff, ↓reduceIte, Nat.reduceAdd, Nat.zero_add, Nat.add_zero, Nat.reduceLeDiff, Int.reduceEq, Nat.reduceMul, List.take_zero, List.drop_succ_cons, List.drop_zero, List.nil_append, List.append_nil, List.drop_nil, List.take_succ_cons, List.take_nil, List.cons_append, Int.toNat_natCast, Int.toNat_zero, Int.toNat_one, s6_90, F90_eq, s6_91, F91_eq, s6_92, F92_eq, s6_93, F93_eq, fn_ex, c1, c2, c3, c4, hv, keep0]
  simp only [go_sem, Nat.reduceLT, Nat.reduceEqDiff, ↓reduceIte, Nat.reduceAdd, Nat.zero_add, Nat.add_zero, Nat.reduceLeDiff, Int.reduceEq, Nat.reduceMul, List.take_zero, List.drop_succ_cons, List.drop_zero, List.nil_append, List.append_nil, List.drop_nil, List.take_succ_cons, List.take_nil, List.cons_append, Int.toNat_natCast, Int.toNat_zero, Int.toNat_one, s6_90, F90_eq, s6_91, F91_eq, s6_92, F92_eq, s6_93, F93_eq, fn_ex, c1, c2, c3, c4]
  refine codeW_any (cxS_ok s6_ok) inf44_5 (by kernel_rfl) fun _ => ?_
  have g1 : ∀ o, (H.new o).get inn = some (.map (ents .string (regs.map (·.name))) regs.length false) := fun o => by rw [get_new_old o hinn']; exact hinn
  have g2 : ∀ o, (H.new o).get il = some (.map (ents labV (regs.map fun r => (r.lev, r.cats))) regs.length false) := fun o => by rw [get_new_old o hil']; exact hil
  obtain ⟨v1, hv1⟩ := look97 (g1 (.cells [.string rname, .int .u8 rlev, .int .u16 rcats, .int .i64 rblocks, .int .i64 rnodes, .int .i64 rframes, .int .i64 rprocs, .int .i64 ropens, .int .i64 rclear] false [] 0)) rname
  obtain ⟨v2, hv2⟩ := look98 (g2 (.cells [.string rname, .int .u8 rlev, .int .u16 rcats, .int .i64 rblocks, .int .i64 rnodes, .int .i64 rframes, .int .i64 rprocs, .int .i64 ropens, .int .i64 rclear] false [] 0)) rlev rcats
  cases c5 : (List.map (fun x => x.name) regs).any fun x => rname == x
  rotate_left
  · have hv : addErr many regs ⟨rname, rlev, rcats, rblocks, rnodes, rframes, rprocs, ropens, rclear⟩ = 29 := by unfold addErr w64; rw [if_neg (by simp [c1]), if_neg (by simp [c2]), if_neg (by simp [c3]), if_neg (by simp [c4]), if_pos c5]
    simp only [inf44_5, go_sem, Nat.reduceLT, Nat.reduceEqDiff, ↓reduceIte, Nat.reduceAdd, Nat.zero_add, Nat.add_zero, Nat.reduceLeDiff, Int.reduceEq, Nat.reduceMul, List.take_zero, List.drop_succ_cons, List.drop_zero, List.nil_append, List.append_nil, List.drop_nil, List.take_succ_cons, List.take_nil, List.cons_append, Int.toNat_natCast, Int.toNat_zero, Int.toNat_one, hrow, hi, hv1, c5, hv, keep0]
    done
  simp only [inf44_5, go_sem, Nat.reduceLT, Nat.reduceEqDiff, ↓reduceIte, Nat.reduceAdd, Nat.zero_add, Nat.add_zero, Nat.reduceLeDiff, Int.reduceEq, Nat.reduceMul, List.take_zero, List.drop_succ_cons, List.drop_zero, List.nil_append, List.append_nil, List.drop_nil, List.take_succ_cons, List.take_nil, List.cons_append, Int.toNat_natCast, Int.toNat_zero, Int.toNat_one, hrow, hi, hv1, c5]
  refine codeW_any (cxS_ok s6_ok) inf44_8 (by kernel_rfl) fun _ => ?_
  cases c6 : (List.map (fun r => (r.lev, r.cats)) regs).any fun x => rlev == x.1 && rcats == x.2
  rotate_left
  · have hv : addErr many regs ⟨rname, rlev, rcats, rblocks, rnodes, rframes, rprocs, ropens, rclear⟩ = 29 := by unfold addErr w64; rw [if_neg (by simp [c1]), if_neg (by simp [c2]), if_neg (by simp [c3]), if_neg (by simp [c4]), if_neg (by simp only [c5]; simp), if_pos c6]
    simp only [inf44_8, go_sem, Nat.reduceLT, Nat.reduceEqDiff, ↓reduceIte, Nat.reduceAdd, Nat.zero_add, Nat.add_zero, Nat.reduceLeDiff, Int.reduceEq, Nat.reduceMul, List.take_zero, List.drop_succ_cons, List.drop_zero, List.nil_append, List.append_nil, List.drop_nil, List.take_succ_cons, List.take_nil, List.cons_append, Int.toNat_natCast, Int.toNat_zero, Int.toNat_one, hrow, hi, hv2, c6, hv, keep0]
    done
  have hv : addErr many regs ⟨rname, rlev, rcats, rblocks, rnodes, rframes, rprocs, ropens, rclear⟩ = 0 := by
    unfold addErr w64; rw [if_neg (by simp [c1]), if_neg (by simp [c2]), if_neg (by simp [c3]), if_neg (by simp [c4]), if_neg (by simp only [c5]; simp), if_neg (by simp only [c6]; simp)]
  simp only [inf44_8, go_sem, Nat.reduceLT, Nat.reduceEqDiff, ↓reduceIte, Nat.reduceAdd, Nat.zero_add, Nat.add_zero, Nat.reduceLeDiff, Int.reduceEq, Nat.reduceMul, List.take_zero, List.drop_succ_cons, List.drop_zero, List.nil_append, List.append_nil, List.drop_nil, List.take_succ_cons, List.take_nil, List.cons_append, Int.toNat_natCast, Int.toNat_zero, Int.toNat_one, hrow, hi, hv2, c6]
  refine codeW_any (cxS_ok s6_ok) inf44_11 (by kernel_rfl) fun _ => ?_
  have hl : ∀ {β : Type} (f : RegD → β), (regs.map f).length = regs.length := fun f => by simp
  have e1 := fun o => entry97 (l := regs.map (·.name)) (by rw [hl]; exact g1 o) c5
  simp only [hl] at e1
  have e2 := fun o o1 ck => estore (H := (H.new o).set inn (.map (ents .string (regs.map (·.name)) ++ [{ key := .string rname, val := .int .i64 0, born := regs.length }]) ck)) (r := inn) (ck := ck) (kf := .string) (l := regs.map (·.name)) (k := .string rname) (v0 := .int .i64 0) (v := .int .i64 o1)
    (by rw [AHeap.get_set _ _ _ _ (by simp; omega), if_pos rfl, hl])
  simp only [hl] at e2
  have g3 : ∀ o o1 o2, (((H.new o).set inn o1).set inn o2).get il = some (.map (ents labV (regs.map fun r => (r.lev, r.cats))) regs.length false) := fun o o1 o2 => by
    rw [get_set_ne _ (Ne.symm d3) (by simp; omega), get_set_ne _ (Ne.symm d3) (by simp; omega)]; exact g2 o
  have e3 := fun o o1 o2 => entry98 (l := regs.map fun r => (r.lev, r.cats)) (by rw [hl]; exact g3 o o1 o2) c6
  simp only [hl] at e3
  have e4 := fun o o1 o2 o3 ck => estore (H := (((H.new o).set inn o1).set inn o2).set il (.map (ents labV (regs.map fun r => (r.lev, r.cats)) ++ [{ key := .agg #[.int .u8 rlev, .int .u16 rcats], val := .int .i64 0, born := regs.length }]) ck)) (r := il) (ck := ck) (kf := labV) (l := regs.map fun r => (r.lev, r.cats)) (k := .agg #[.int .u8 rlev, .int .u16 rcats]) (v0 := .int .i64 0) (v := .int .i64 o3)
    (by rw [AHeap.get_set _ _ _ _ (by simp; omega), if_pos rfl, hl])
  simp only [hl] at e4
  simp only [inf44_11, go_sem, Nat.reduceLT, Nat.reduceEqDiff, ↓reduceIte, Nat.reduceAdd, Nat.zero_add, Nat.add_zero, Nat.reduceLeDiff, Int.reduceEq, Nat.reduceMul, List.take_zero, List.drop_succ_cons, List.drop_zero, List.nil_append, List.append_nil, List.drop_nil, List.take_succ_cons, List.take_nil, List.cons_append, Int.toNat_natCast, Int.toNat_zero, Int.toNat_one, hrow, hi, e1, e2, e3, e4, n1, n2, n3, Ne.symm n1, Ne.symm n2, Ne.symm n3, d3, Ne.symm d3, hinn', hil', q1, q2, q3, q4]
  have hmap : ∀ (b : Nat) (cs : List Value) (ro : Bool) (par : List Nat) (sz : Nat), H.get b = some (.cells cs ro par sz) → b ≠ inn ∧ b ≠ il ∧ b ≠ it := fun b cs ro par sz hb =>
    ⟨(fun e => by rw [e, hinn] at hb; cases hb), (fun e => by rw [e, hil] at hb; cases hb), (fun e => by rw [e, hit] at hb; cases hb)⟩
  refine codeW_forget (fun τ X => tget τ 0 = .pointer (some ⟨i, 0, none⟩) ∧ tget τ 6 = .pointer (some ⟨H.next, 0, none⟩) ∧ X.next = H.next + 1 ∧
    X.get H.next = some (.cells [.string rname, .int .u8 rlev, .int .u16 rcats, .int .i64 rblocks, .int .i64 rnodes, .int .i64 rframes, .int .i64 rprocs, .int .i64 ropens, .int .i64 rclear] false [] 0) ∧
    X.get i = some (.cells [sr, .map (some it), .slice none 0 0, .map (some inn), .map (some il), sg, .int .i64 total] false [] 0) ∧ X.get it = some (.map [] 0 false) ∧
    X.get inn = some (.map (ents .string (regs.map (·.name)) ++ [{ key := .string rname, val := .int .i64 regs.length, born := regs.length }]) (regs.length + 1) false) ∧
    X.get il = some (.map (ents labV (regs.map fun r => (r.lev, r.cats)) ++ [{ key := .agg #[.int .u8 rlev, .int .u16 rcats], val := .int .i64 regs.length, born := regs.length }]) (regs.length + 1) false) ∧
    (∀ b cs ro par sz, H.get b = some (.cells cs ro par sz) → X.get b = H.get b) ∧ KeepLo lo H X) ?_ ?_
  · refine ⟨?_, ?_, ?_, ?_, ?_, ?_, ?_, ?_, ?_, ?_, ?_⟩
    · simp only [go_sem, Nat.reduceLT, Nat.reduceEqDiff, ↓reduceIte, Nat.reduceAdd, Nat.zero_add, Nat.add_zero, Nat.reduceLeDiff, Int.reduceEq, Nat.reduceMul]
    · simp only [go_sem, Nat.reduceLT, Nat.reduceEqDiff, ↓reduceIte, Nat.reduceAdd, Nat.zero_add, Nat.add_zero, Nat.reduceLeDiff, Int.reduceEq, Nat.reduceMul]
    · simp only [go_sem, Nat.reduceLT, Nat.reduceEqDiff, ↓reduceIte, Nat.reduceAdd, Nat.zero_add, Nat.add_zero, Nat.reduceLeDiff, Int.reduceEq, Nat.reduceMul]
    · simp only [go_sem, Nat.reduceLT, Nat.reduceEqDiff, ↓reduceIte, Nat.reduceAdd, Nat.zero_add, Nat.add_zero, Nat.reduceLeDiff, Int.reduceEq, Nat.reduceMul, hinn', hil', Nat.ne_of_gt hinn', Nat.ne_of_gt hil']
    · simp only [go_sem, Nat.reduceLT, Nat.reduceEqDiff, ↓reduceIte, Nat.reduceAdd, Nat.zero_add, Nat.add_zero, Nat.reduceLeDiff, Int.reduceEq, Nat.reduceMul, hinn', hil', n1, n2, n3, hi, hrow]
    · simp only [go_sem, Nat.reduceLT, Nat.reduceEqDiff, ↓reduceIte, Nat.reduceAdd, Nat.zero_add, Nat.add_zero, Nat.reduceLeDiff, Int.reduceEq, Nat.reduceMul, hinn', hil', d1, d2, hit', hit]
    · simp only [go_sem, Nat.reduceLT, Nat.reduceEqDiff, ↓reduceIte, Nat.reduceAdd, Nat.zero_add, Nat.add_zero, Nat.reduceLeDiff, Int.reduceEq, Nat.reduceMul, hinn', hil', d3, hit', hit]
    · simp only [go_sem, Nat.reduceLT, Nat.reduceEqDiff, ↓reduceIte, Nat.reduceAdd, Nat.zero_add, Nat.add_zero, Nat.reduceLeDiff, Int.reduceEq, Nat.reduceMul, hinn', hil', d3, hit', hit]
    · intro b cs ro par sz hb
      obtain ⟨m1, m2, m3⟩ := hmap b cs ro par sz hb
      have hbl := AHeap.get_lt hb
      simp only [go_sem, Nat.reduceLT, Nat.reduceEqDiff, ↓reduceIte, Nat.reduceAdd, Nat.zero_add, Nat.add_zero, Nat.reduceLeDiff, Int.reduceEq, Nat.reduceMul, hinn', hil', m1, m2, hbl]
    · simp only [go_sem, Nat.reduceLT, Nat.reduceEqDiff, ↓reduceIte, Nat.reduceAdd, Nat.zero_add, Nat.add_zero, Nat.reduceLeDiff, Int.reduceEq, Nat.reduceMul]
    · intro j hj
      have a1 : j ≠ inn := by omega
      have a2 : j ≠ il := by omega
      have a3 : j < H.next := by omega
      simp only [go_sem, Nat.reduceLT, Nat.reduceEqDiff, ↓reduceIte, Nat.reduceAdd, Nat.zero_add, Nat.add_zero, Nat.reduceLeDiff, Int.reduceEq, Nat.reduceMul, hinn', hil', a1, a2, a3]
  rintro τ X ⟨x0, x6, xn, xb, xi, xit, xinn, xil, xrow, xk⟩
  have xil' : i < X.next := AHeap.get_lt xi
  have xbl : H.next < X.next := by omega
  refine codeW_any (cxS_ok s6_ok) inf44_12 (by kernel_rfl) fun _ => ?_
  simp only [inf44_12, go_sem, Nat.reduceLT, Nat.reduceEqDiff, ↓reduceIte, Nat.reduceAdd, Nat.zero_add, Nat.add_zero, Nat.reduceLeDiff, Int.reduceEq, Nat.reduceMul, List.take_zero, List.drop_succ_cons, List.drop_zero, List.nil_append, List.append_nil, List.drop_nil, List.take_succ_cons, List.take_nil, List.cons_append, Int.toNat_natCast, Int.toNat_zero, Int.toNat_one, x0, x6, xi, xb, xil', xbl, q1]
  refine codeW_forget (fun τ Y => tget τ 0 = .pointer (some ⟨i, 0, none⟩) ∧ tget τ 6 = .pointer (some ⟨H.next, 0, none⟩) ∧ tget τ 13 = .pointer (some ⟨X.next, 0, none⟩) ∧ Y.next = X.next + 1 ∧
    Y.get X.next = some (.cells (geoOf total ⟨rname, rlev, rcats, rblocks, rnodes, rframes, rprocs, ropens, rclear⟩).cells false [] 0) ∧ (∀ b, b < X.next → Y.get b = X.get b)) ?_ ?_
  · refine ⟨?_, ?_, ?_, ?_, ?_, ?_⟩
    · simp only [go_sem, Nat.reduceLT, Nat.reduceEqDiff, ↓reduceIte, Nat.reduceAdd, Nat.zero_add, Nat.add_zero, Nat.reduceLeDiff, Int.reduceEq, Nat.reduceMul, x0]
    · simp only [go_sem, Nat.reduceLT, Nat.reduceEqDiff, ↓reduceIte, Nat.reduceAdd, Nat.zero_add, Nat.add_zero, Nat.reduceLeDiff, Int.reduceEq, Nat.reduceMul, x6]
    · simp only [go_sem, Nat.reduceLT, Nat.reduceEqDiff, ↓reduceIte, Nat.reduceAdd, Nat.zero_add, Nat.add_zero, Nat.reduceLeDiff, Int.reduceEq, Nat.reduceMul]
    · simp only [go_sem, Nat.reduceLT, Nat.reduceEqDiff, ↓reduceIte, Nat.reduceAdd, Nat.zero_add, Nat.add_zero, Nat.reduceLeDiff, Int.reduceEq, Nat.reduceMul]
    · simp only [go_sem, Nat.reduceLT, Nat.reduceEqDiff, ↓reduceIte, Nat.reduceAdd, Nat.zero_add, Nat.add_zero, Nat.reduceLeDiff, Int.reduceEq, Nat.reduceMul, geoOf, GeoD.cells, w64]
    · intro b hb
      simp only [go_sem, Nat.reduceLT, Nat.reduceEqDiff, ↓reduceIte, Nat.reduceAdd, Nat.zero_add, Nat.add_zero, Nat.reduceLeDiff, Int.reduceEq, Nat.reduceMul, hb]
  rintro τ Y ⟨y0, y6, y13, yn, yg, yk⟩
  have yi := (yk i xil').trans xi
  have yb := (yk H.next xbl).trans xb
  have yit := (yk it (AHeap.get_lt xit)).trans xit
  have yinn := (yk inn (AHeap.get_lt xinn)).trans xinn
  have yil := (yk il (AHeap.get_lt xil)).trans xil
  have yi' : i < Y.next := AHeap.get_lt yi
  have yb' : H.next < Y.next := AHeap.get_lt yb
  have yg' : X.next < Y.next := AHeap.get_lt yg
  have yiA : ∀ k, i < Y.next + k := fun k => by omega
  have yiB : ∀ k, i ≠ Y.next + k := fun k => by omega
  have ybA : ∀ k, H.next < Y.next + k := fun k => by omega
  have ybB : ∀ k, H.next ≠ Y.next + k := fun k => by omega
  have ygA : ∀ k, X.next < Y.next + k := fun k => by omega
  have ygB : ∀ k, X.next ≠ Y.next + k := fun k => by omega
  have q5 : X.next ≠ i := by omega
  have q6 : X.next ≠ H.next := by omega
  have fin : ∀ (Z : AHeap) (sr' sg' : Value), Y.next ≤ Z.next → (∀ j, j < lo → Z.get j = Y.get j) → Z.get it = Y.get it → Z.get inn = Y.get inn → Z.get il = Y.get il →
      Z.get i = some (.cells [sr', .map (some it), .slice none 0 0, .map (some inn), .map (some il), sg', .int .i64 (w64 ((geoOf total (RegD.mk rname rlev rcats rblocks rnodes rframes rprocs ropens rclear)).data + rblocks))] false [] 0) →
      RowS Z lo i sr' (regs ++ [(RegD.mk rname rlev rcats rblocks rnodes rframes rprocs ropens rclear)]).length 9 ((regs ++ [(RegD.mk rname rlev rcats rblocks rnodes rframes rprocs ropens rclear)]).flatMap RegD.cells) → RowS Z lo i sg' (geos ++ [geoOf total (RegD.mk rname rlev rcats rblocks rnodes rframes rprocs ropens rclear)]).length 6 ((geos ++ [geoOf total (RegD.mk rname rlev rcats rblocks rnodes rframes rprocs ropens rclear)]).flatMap GeoD.cells) →
      Value.int .i64 0 = Value.int .i64 (addErr many regs (RegD.mk rname rlev rcats rblocks rnodes rframes rprocs ropens rclear)) ∧ KeepLo lo H Z ∧ (addErr many regs (RegD.mk rname rlev rcats rblocks rnodes rframes rprocs ropens rclear) = 0 → ConfK Z lo i (regs ++ [(RegD.mk rname rlev rcats rblocks rnodes rframes rprocs ropens rclear)]) (geos ++ [geoOf total (RegD.mk rname rlev rcats rblocks rnodes rframes rprocs ropens rclear)]) (w64 ((geoOf total (RegD.mk rname rlev rcats rblocks rnodes rframes rprocs ropens rclear)).data + rblocks))) := by
    intro Z sr' sg' f1 f2 f3 f4 f5 f6 f7 f8
    refine ⟨by rw [hv], ⟨by have := xk.le; omega, fun j hj => ?_⟩, fun _ => ⟨⟨it, inn, il, sr', sg', f6, ?_, ?_, ?_, f7, f8, l1, l2, l3, d1, d2, d3⟩, hlow, by simp [hsame]⟩⟩
    · rw [f2 j hj, yk j (by omega), xk.old j hj]
    · rw [f3, yit]
    · rw [f4, yinn, List.map_append, List.map_singleton, ents_append]
      simp
    · rw [f5, yil, List.map_append, List.map_singleton, ents_append]
      simp [labV]
  refine codeW_any (cxS_ok s6_ok) inf44_14 (by kernel_rfl) fun hL => ?_
  rcases hsr with ⟨z1, rfl, z3⟩ | ⟨b, par, z1, rfl, z3, z4, z5⟩
  · obtain rfl : regs = [] := List.length_eq_zero_iff.1 z1
    obtain rfl : geos = [] := List.length_eq_zero_iff.1 hsame
    rcases hsg with ⟨_, rfl, _⟩ | ⟨b, par, z1, _⟩
    rotate_left
    · simp at z1
    simp only [inf44_14, go_sem, Nat.reduceLT, Nat.reduceEqDiff, ↓reduceIte, Nat.reduceAdd, Nat.zero_add, Nat.add_zero, Nat.reduceLeDiff, Int.reduceEq, Nat.reduceMul, List.take_zero, List.drop_succ_cons, List.drop_zero, List.nil_append, List.append_nil, List.drop_nil, List.take_succ_cons, List.take_nil, List.cons_append, Int.toNat_natCast, Int.toNat_zero, Int.toNat_one, y0, y6, y13, yi, yb, yg, yi', yb', yg', yiA, yiB, ybA, ybB, ygA, ygB, q1, q5, q6, Ne.symm q1, Ne.symm q5, Ne.symm q6, GeoD.cells]
    have w1 : it < Y.next := AHeap.get_lt yit
    have w2 : inn < Y.next := AHeap.get_lt yinn
    have w3 : il < Y.next := AHeap.get_lt yil
    refine fin _ (.slice (some ⟨Y.next + 1, 0, none⟩) 1 (grow + 1)) (.slice (some ⟨Y.next + 3, 0, none⟩) 1 (grow + 1)) ?_ ?_ ?_ ?_ ?_ ?_ ?_ ?_
    · simp only [go_sem, Nat.reduceLT, Nat.reduceEqDiff, ↓reduceIte, Nat.reduceAdd, Nat.zero_add, Nat.add_zero, Nat.reduceLeDiff, Int.reduceEq, Nat.reduceMul]
    · intro j hj
      have a1 : j ≠ i := by omega
      have a2 : ∀ k, j ≠ Y.next + k := fun k => by omega
      have a3 : j ≠ Y.next := by omega
      simp only [go_sem, Nat.reduceLT, Nat.reduceEqDiff, ↓reduceIte, Nat.reduceAdd, Nat.zero_add, Nat.add_zero, Nat.reduceLeDiff, Int.reduceEq, Nat.reduceMul, a1, a2, a3, yi', yiA]
    · have a2 : ∀ k, it ≠ Y.next + k := fun k => by omega
      simp only [go_sem, Nat.reduceLT, Nat.reduceEqDiff, ↓reduceIte, Nat.reduceAdd, Nat.zero_add, Nat.add_zero, Nat.reduceLeDiff, Int.reduceEq, Nat.reduceMul, w1, a2, Ne.symm n1, yi', yiA]
    · have a2 : ∀ k, inn ≠ Y.next + k := fun k => by omega
      simp only [go_sem, Nat.reduceLT, Nat.reduceEqDiff, ↓reduceIte, Nat.reduceAdd, Nat.zero_add, Nat.add_zero, Nat.reduceLeDiff, Int.reduceEq, Nat.reduceMul, w2, a2, Ne.symm n2, yi', yiA]
    · have a2 : ∀ k, il ≠ Y.next + k := fun k => by omega
      simp only [go_sem, Nat.reduceLT, Nat.reduceEqDiff, ↓reduceIte, Nat.reduceAdd, Nat.zero_add, Nat.add_zero, Nat.reduceLeDiff, Int.reduceEq, Nat.reduceMul, w3, a2, Ne.symm n3, yi', yiA]
    · simp only [go_sem, Nat.reduceLT, Nat.reduceEqDiff, ↓reduceIte, Nat.reduceAdd, Nat.zero_add, Nat.add_zero, Nat.reduceLeDiff, Int.reduceEq, Nat.reduceMul, yi', yiA]; rfl
    · refine .inr ⟨Y.next + 1, [], by simp, rfl, ?_, by omega, by omega⟩
      have a1 : Y.next + 1 ≠ i := by omega
      simp only [go_sem, Nat.reduceLT, Nat.reduceEqDiff, ↓reduceIte, Nat.reduceAdd, Nat.zero_add, Nat.add_zero, Nat.reduceLeDiff, Int.reduceEq, Nat.reduceMul, yi', yiA, a1]
      rfl
    · refine .inr ⟨Y.next + 3, [], by simp, rfl, ?_, by omega, by omega⟩
      have a1 : Y.next + 3 ≠ i := by omega
      simp only [go_sem, Nat.reduceLT, Nat.reduceEqDiff, ↓reduceIte, Nat.reduceAdd, Nat.zero_add, Nat.add_zero, Nat.reduceLeDiff, Int.reduceEq, Nat.reduceMul, yi', yiA, a1]
      rfl
  · rcases hsg with ⟨h0, _⟩ | ⟨bg, parg, u1, rfl, u3, u4, u5⟩
    · omega
    have yr := (yk b (by have := AHeap.get_lt z3; omega)).trans ((xrow b _ _ _ _ z3).trans z3)
    have ys := (yk bg (by have := AHeap.get_lt u3; omega)).trans ((xrow bg _ _ _ _ u3).trans u3)
    have hb : b < H.next := AHeap.get_lt z3
    have hbg : bg < H.next := AHeap.get_lt u3
    have hbb : b ≠ bg := fun e => by rw [e, u3] at z3; injection z3 with z3; injection z3 with _ _ _ h; omega
    have hlen : regs.length * 9 = (regs.flatMap RegD.cells).length := (flat_len RegD.cells_length regs).symm
    have hleng : geos.length * 6 = (geos.flatMap GeoD.cells).length := (flat_len GeoD.cells_length geos).symm
    have a1 := fun o vs => appW_more (sz := 9) (by_ := 72) (n := 1) (l := regs.length) (b := b) (vs := vs) (cs := regs.flatMap RegD.cells) (par := par) (H := Y.new o) (by omega) (by rw [get_new_old o (by omega)]; exact yr) hlen (by omega) (by unfold grow; omega)
    have a2 : ∀ (Z : AHeap) (vs : List Value), Z.get bg = some (.cells (geos.flatMap GeoD.cells) false parg 6) → appW 6 48 (.slice (some ⟨bg, 0, none⟩) geos.length (grow + geos.length)) (some (1, vs)) Z = some (.slice (some ⟨Z.next, 0, none⟩) (geos.length + 1) (grow + (geos.length + 1)), (Z.set bg (.cells (geos.flatMap GeoD.cells) true parg 6)).new (.cells (geos.flatMap GeoD.cells ++ vs) false (bg :: parg) 6)) :=
      fun Z vs hz => appW_more (by omega) hz hleng (by omega) (by unfold grow; omega)
    have hbY : b < Y.next := by omega
    have hbgY : bg < Y.next := by omega
    have bA : ∀ k, b < Y.next + k := fun k => by omega
    have bB : ∀ k, b ≠ Y.next + k := fun k => by omega
    have gA : ∀ k, bg < Y.next + k := fun k => by omega
    have gB : ∀ k, bg ≠ Y.next + k := fun k => by omega
    have r1 : b ≠ H.next := by omega
    have r2 : bg ≠ H.next := by omega
    have r3 : b ≠ X.next := by omega
    have r4 : bg ≠ X.next := by omega
    have hgr : Grew Y := by obtain ⟨μ, a, w, hR, _⟩ := hL; exact hR.grew
    have pr := hgr b _ yr
    have pg := hgr bg _ ys
    have p1 : i ∉ par := fun h => by have := (pr i h).2 _ yi; cases this
    have p2 : X.next ∉ par := fun h => by have := (pr _ h).2 _ yg; cases this
    have p3 : X.next ∉ parg := fun h => by have := (pg _ h).2 _ yg; cases this
    have p4 : H.next ∉ par := fun h => by have := (pr _ h).2 _ yb; cases this
    have p5 : H.next ∉ parg := fun h => by have := (pg _ h).2 _ yb; cases this
    simp only [inf44_14, go_sem, Nat.reduceLT, Nat.reduceEqDiff, ↓reduceIte, Nat.reduceAdd, Nat.zero_add, Nat.add_zero, Nat.reduceLeDiff, Int.reduceEq, Nat.reduceMul, List.take_zero, List.drop_succ_cons, List.drop_zero, List.nil_append, List.append_nil, List.drop_nil, List.take_succ_cons, List.take_nil, List.cons_append, Int.toNat_natCast, Int.toNat_zero, Int.toNat_one, y0, y6, y13, yi, yb, yg, yr, ys, yi', yb', yg', yiA, yiB, ybA, ybB, ygA, ygB, q1, q5, q6, Ne.symm q1, Ne.symm q5, Ne.symm q6, GeoD.cells, a1, a2, hbY, hbgY, bA, bB, gA, gB, r1, r2, r3, r4, Ne.symm r1, Ne.symm r2, Ne.symm r3, Ne.symm r4, z5, u5, Ne.symm z5, Ne.symm u5, hbb, Ne.symm hbb, p1, p2, p3, p4, p5]
    refine ⟨fun a ha => ?_, ?_⟩
    · rcases ha with ha | ha | ha
      · have := (pr a ha).1; omega
      · omega
      · cases ha
    have w1 : it < Y.next := AHeap.get_lt yit
    have w2 : inn < Y.next := AHeap.get_lt yinn
    have w3 : il < Y.next := AHeap.get_lt yil
    have ne1 : ∀ j o, Y.get j = some o → (∀ cs ro par gs, o ≠ .cells cs ro par gs) → j ≠ b ∧ j ≠ bg := fun j o h1 h2 => ⟨(fun e => by rw [e, yr] at h1; injection h1 with h1; exact h2 _ _ _ _ h1.symm), (fun e => by rw [e, ys] at h1; injection h1 with h1; exact h2 _ _ _ _ h1.symm)⟩
    obtain ⟨m1, m2⟩ := ne1 it _ yit (by intros; simp)
    obtain ⟨m3, m4⟩ := ne1 inn _ yinn (by intros; simp)
    obtain ⟨m5, m6⟩ := ne1 il _ yil (by intros; simp)
    refine fin _ (.slice (some ⟨Y.next + 1, 0, none⟩) (regs.length + 1) (grow + (regs.length + 1))) (.slice (some ⟨Y.next + 3, 0, none⟩) (geos.length + 1) (grow + (geos.length + 1))) ?_ ?_ ?_ ?_ ?_ ?_ ?_ ?_
    · simp only [go_sem, Nat.reduceLT, Nat.reduceEqDiff, ↓reduceIte, Nat.reduceAdd, Nat.zero_add, Nat.add_zero, Nat.reduceLeDiff, Int.reduceEq, Nat.reduceMul]
    · intro j hj
      have a1 : j ≠ i := by omega
      have a2 : ∀ k, j ≠ Y.next + k := fun k => by omega
      have a3 : j ≠ Y.next := by omega
      have a4 : j ≠ b := by omega
      have a5 : j ≠ bg := by omega
      simp only [go_sem, Nat.reduceLT, Nat.reduceEqDiff, ↓reduceIte, Nat.reduceAdd, Nat.zero_add, Nat.add_zero, Nat.reduceLeDiff, Int.reduceEq, Nat.reduceMul, a1, a2, a3, a4, a5, yi', yiA, hbY, hbgY, bA, gA]
    · have a2 : ∀ k, it ≠ Y.next + k := fun k => by omega
      have a3 : it ≠ Y.next := by omega
      simp only [go_sem, Nat.reduceLT, Nat.reduceEqDiff, ↓reduceIte, Nat.reduceAdd, Nat.zero_add, Nat.add_zero, Nat.reduceLeDiff, Int.reduceEq, Nat.reduceMul, a2, a3, Ne.symm n1, yi', yiA, hbY, hbgY, bA, gA, m1, m2]
    · have a2 : ∀ k, inn ≠ Y.next + k := fun k => by omega
      have a3 : inn ≠ Y.next := by omega
      simp only [go_sem, Nat.reduceLT, Nat.reduceEqDiff, ↓reduceIte, Nat.reduceAdd, Nat.zero_add, Nat.add_zero, Nat.reduceLeDiff, Int.reduceEq, Nat.reduceMul, a2, a3, Ne.symm n2, yi', yiA, hbY, hbgY, bA, gA, m3, m4]
    · have a2 : ∀ k, il ≠ Y.next + k := fun k => by omega
      have a3 : il ≠ Y.next := by omega
      simp only [go_sem, Nat.reduceLT, Nat.reduceEqDiff, ↓reduceIte, Nat.reduceAdd, Nat.zero_add, Nat.add_zero, Nat.reduceLeDiff, Int.reduceEq, Nat.reduceMul, a2, a3, Ne.symm n3, yi', yiA, hbY, hbgY, bA, gA, m5, m6]
    · simp only [go_sem, Nat.reduceLT, Nat.reduceEqDiff, ↓reduceIte, Nat.reduceAdd, Nat.zero_add, Nat.add_zero, Nat.reduceLeDiff, Int.reduceEq, Nat.reduceMul, yi', yiA, hbY, hbgY, bA, gA]; rfl
    · refine .inr ⟨Y.next + 1, b :: par, by simp, by simp, ?_, by omega, by omega⟩
      have a1 : Y.next + 1 ≠ i := by omega
      have a2 : Y.next + 1 ≠ bg := by omega
      simp only [go_sem, Nat.reduceLT, Nat.reduceEqDiff, ↓reduceIte, Nat.reduceAdd, Nat.zero_add, Nat.add_zero, Nat.reduceLeDiff, Int.reduceEq, Nat.reduceMul, yi', yiA, hbY, hbgY, bA, gA, a1, a2, List.flatMap_append, List.flatMap_cons, List.flatMap_nil, List.append_nil, RegD.cells]
    · refine .inr ⟨Y.next + 3, bg :: parg, by simp, by simp, ?_, by omega, by omega⟩
      have a1 : Y.next + 3 ≠ i := by omega
      simp only [go_sem, Nat.reduceLT, Nat.reduceEqDiff, ↓reduceIte, Nat.reduceAdd, Nat.zero_add, Nat.add_zero, Nat.reduceLeDiff, Int.reduceEq, Nat.reduceMul, yi', yiA, hbY, hbgY, bA, gA, a1, List.flatMap_append, List.flatMap_cons, List.flatMap_nil, List.append_nil, GeoD.cells]
end Go.Proofs.YtkjclebafpomhaaDoor
