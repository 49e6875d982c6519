/- The library's functions that the program calls: contracts off the shelf. -/
import Derived.Shelf.Sort.Plain
import Derived.Ground.Names2Prog
import Derived.Shelf.Slices.CompactI
import Derived.Shelf.Slices.In.SortNone
import Derived.Test.YtjgocfgkmcopgaaProg
import Derived.KernelRfl
namespace Go.Proofs
open Go.Shelf
def Try.lays189_ren : Go.Shelf.Ren := ⟨fun | 189 => 27 | 125 => 43 | 257 => 42 | 128 => 73 | 129 => 74 | 294 => 64 | 295 => 65 | 296 => 66 | 297 => 67 | 298 => 68 | 299 => 69 | 216 => 70 | 300 => 71 | 301 => 72 | 328 => 83 | 329 => 84 | 330 => 85 | 331 => 86 | 332 => 87 | 215 => 88 | 343 => 91 | n => n, fun | 28 => 26 | 3 => 3 | 46 => 78 | 0 => 0 | 51 => 110 | 53 => 112 | 4 => 4 | 183 => 104 | 182 => 103 | 131 => 74 | 5 => 5 | 9 => 9 | 218 => 123 | 222 => 127 | 228 => 131 | 229 => 132 | n => n, fun | n => n⟩
theorem Try.lays189 : Go.Proofs.Lays.n189 Try.prog Try.lays189_ren := {
 mixed := by kernel_rfl
 f125 := Try.func43.trans (congrArg some (by kernel_rfl))
 f128 := Try.func73.trans (congrArg some (by kernel_rfl))
 f129 := Try.func74.trans (congrArg some (by kernel_rfl))
 f189 := Try.func27.trans (congrArg some (by kernel_rfl))
 f215 := Try.func88.trans (congrArg some (by kernel_rfl))
 f216 := Try.func70.trans (congrArg some (by kernel_rfl))
 f257 := Try.func42.trans (congrArg some (by kernel_rfl))
 f294 := Try.func64.trans (congrArg some (by kernel_rfl))
 f295 := Try.func65.trans (congrArg some (by kernel_rfl))
 f296 := Try.func66.trans (congrArg some (by kernel_rfl))
 f297 := Try.func67.trans (congrArg some (by kernel_rfl))
 f298 := Try.func68.trans (congrArg some (by kernel_rfl))
 f299 := Try.func69.trans (congrArg some (by kernel_rfl))
 f300 := Try.func71.trans (congrArg some (by kernel_rfl))
 f301 := Try.func72.trans (congrArg some (by kernel_rfl))
 f328 := Try.func83.trans (congrArg some (by kernel_rfl))
 f329 := Try.func84.trans (congrArg some (by kernel_rfl))
 f330 := Try.func85.trans (congrArg some (by kernel_rfl))
 f331 := Try.func86.trans (congrArg some (by kernel_rfl))
 f332 := Try.func87.trans (congrArg some (by kernel_rfl))
 f343 := Try.func91.trans (congrArg some (by kernel_rfl))
 t0 := Try.underlying0
 a0 := Try.isAgg0
 z0 := Try.sizeOf0
 v0 := Try.zeroValue0
 t3 := Try.underlying3
 a3 := Try.isAgg3
 z3 := Try.sizeOf3
 v3 := Try.zeroValue3
 t4 := Try.underlying4
 a4 := Try.isAgg4
 z4 := Try.sizeOf4
 v4 := Try.zeroValue4
 t5 := Try.underlying5
 a5 := Try.isAgg5
 z5 := Try.sizeOf5
 v5 := Try.zeroValue5
 t9 := Try.underlying9
 a9 := Try.isAgg9
 z9 := Try.sizeOf9
 v9 := Try.zeroValue9
 t28 := Try.underlying26
 a28 := Try.isAgg26
 z28 := Try.sizeOf26
 v28 := Try.zeroValue26
 t46 := Try.underlying78
 a46 := Try.isAgg78
 z46 := Try.sizeOf78
 v46 := Try.zeroValue78
 t51 := Try.underlying110
 a51 := Try.isAgg110
 z51 := Try.sizeOf110
 v51 := Try.zeroValue110
 t53 := Try.underlying112
 a53 := Try.isAgg112
 z53 := Try.sizeOf112
 v53 := Try.zeroValue112
 t131 := Try.underlying74
 a131 := Try.isAgg74
 z131 := Try.sizeOf74
 v131 := Try.zeroValue74
 t182 := Try.underlying103
 a182 := Try.isAgg103
 z182 := Try.sizeOf103
 v182 := Try.zeroValue103
 t183 := Try.underlying104
 a183 := Try.isAgg104
 z183 := Try.sizeOf104
 v183 := Try.zeroValue104
 t218 := Try.underlying123
 a218 := Try.isAgg123
 z218 := Try.sizeOf123
 v218 := Try.zeroValue123
 t222 := Try.underlying127
 a222 := Try.isAgg127
 z222 := Try.sizeOf127
 v222 := Try.zeroValue127
 t228 := Try.underlying131
 a228 := Try.isAgg131
 z228 := Try.sizeOf131
 v228 := Try.zeroValue131
 t229 := Try.underlying132
 a229 := Try.isAgg132
 z229 := Try.sizeOf132
 v229 := Try.zeroValue132 }
open Go.Sort Go.RowKit in
theorem Try.slices_Sort_int (blk off cap : Nat) (zs : List Int) (w : World) (hH : Holds (Value.int .i64) w blk off zs.toArray) (hblk : blk < w.heap.size) (hsz : zs.length < 4611686018427387904) :
  Calls Try.prog 27 #[.slice (some ⟨blk, off, none⟩) zs.length cap] w fun e w' =>
   e = .returned (.tuple #[]) ∧ ∃ n os, w' = grow (putRow (Value.int .i64) (Sort.ahead w n) blk off (zs.mergeSort fun x y => decide (x ≤ y)).toArray) os := Any.slices_Sort_int Try.lays189 blk off cap zs w hH hblk hsz
def Try.laysNm220_ren : Go.Shelf.Ren := ⟨fun | 20 => 29 | n => n, fun | 22 => 26 | 3 => 3 | 4 => 4 | 0 => 0 | n => n, fun | n => n⟩
theorem Try.laysNm220 : Go.Proofs.Lays2.n20 Try.prog Try.laysNm220_ren := {
 mixed := by kernel_rfl
 f20 := Try.func29.trans (congrArg some (by kernel_rfl))
 t0 := Try.underlying0
 a0 := Try.isAgg0
 z0 := Try.sizeOf0
 v0 := Try.zeroValue0
 t3 := Try.underlying3
 a3 := Try.isAgg3
 z3 := Try.sizeOf3
 v3 := Try.zeroValue3
 t4 := Try.underlying4
 a4 := Try.isAgg4
 z4 := Try.sizeOf4
 v4 := Try.zeroValue4
 t22 := Try.underlying26
 a22 := Try.isAgg26
 z22 := Try.sizeOf26
 v22 := Try.zeroValue26
 i3 := by kernel_rfl }
open Go.RowKit Go.Lib Go.Sort in
theorem Try.slices_Compact_int (blk off cap : Nat) (zs : List Int) (w : World) (hH : Holds (Value.int .i64) w blk off zs.toArray) (hsz : zs.length ≤ 9223372036854775807) (hcap : zs.length ≤ cap) :
  Calls Try.prog 29 #[.slice (some ⟨blk, off, none⟩) zs.length cap] w fun e w' => e = .returned (.slice (some ⟨blk, off, none⟩) (Lib.compact zs).length cap) ∧ ∃ q, w' = putRow (Value.int .i64) (Sort.ahead w q) blk off (Lib.compact zs ++ List.replicate (zs.length - (Lib.compact zs).length) 0).toArray := Any.slices_Compact_int Try.laysNm220 blk off cap zs w hH hsz hcap
open Go.RowKit Go.Lib Go.Sort in
theorem Try.slices_Compact_int_empty (a : Option Addr) (cap : Nat) (w : World) :
  Calls Try.prog 29 #[.slice a 0 cap] w fun e w' => e = .returned (.slice a 0 cap) ∧ w' = w := Any.slices_Compact_int_empty Try.laysNm220 a cap w
open Go.RowKit Go.Sort in
theorem Try.slices_Sort_int_none (p : Option Addr) (cap : Nat) (w : World) :
  Calls Try.prog 27 #[.slice p 0 cap] w fun e w' => e = .returned (.tuple #[]) ∧ w' = w := Any.slices_Sort_int_none Try.lays189 p cap w
end Go.Proofs
