/- DERIVED: THE SHELF's CONTRACTS AT THIS DUMP, IN PLAIN WORDS (tools/lay-plain.mjs out of 'TryzShelf.lean', which tools/lay-shelf.mjs wrote): THE SAME DECLARATIONS UNDER THE SAME NAMES: 'import', 'namespace', 'open', 'def', 'theorem' AND NOTHING ELSE: no command of the shelf's: FOR A HAND-IN. Each laying: the table of numbers ('.._ren') and one theorem, a field a fact of the dump's own or the kernel's comparison; each contract: ONE APPLICATION. -/
import Derived.Test.YtopoefcklipaeaaGreatDoorProg
import Derived.Shelf.Small.Utf8
import Derived.Shelf.Small.Strs
import Derived.Shelf.Strings.Search1
import Derived.Shelf.Sort.Plain
import Derived.Shelf.Strings.Runes
import Derived.Shelf.Strings.AsciiSet
import Derived.Shelf.Bits.Mul64
import Derived.Shelf.Unicode.DecodeSlow
import Derived.Ground.Names2Prog
import Derived.Shelf.Slices.CompactI
import Derived.Shelf.Slices.Cells
import Derived.Shelf.Slices.In.SortNone
namespace Go.Proofs.YtopoefcklipaeaaGreatDoor
open Go.Shelf
def Tryz.lays189_ren : Go.Shelf.Ren := ⟨fun | 189 => 238 | 125 => 227 | 257 => 335 | 128 => 331 | 129 => 332 | 294 => 410 | 295 => 411 | 296 => 412 | 297 => 413 | 298 => 414 | 299 => 415 | 216 => 416 | 300 => 417 | 301 => 418 | 328 => 457 | 329 => 404 | 330 => 405 | 331 => 458 | 332 => 459 | 215 => 333 | 343 => 485 | n => n, fun | 28 => 47 | 3 => 3 | 46 => 370 | 0 => 0 | 51 => 487 | 53 => 38 | 4 => 4 | 183 => 480 | 182 => 479 | 131 => 308 | 5 => 5 | 9 => 9 | 218 => 541 | 222 => 356 | 228 => 573 | 229 => 574 | n => n, fun | n => n⟩
theorem Tryz.lays189 : Go.Proofs.Lays.n189 Tryz.prog Tryz.lays189_ren := {
 mixed := by kernel_rfl
 f125 := Tryz.func227.trans (congrArg some (by kernel_rfl))
 f128 := Tryz.func331.trans (congrArg some (by kernel_rfl))
 f129 := Tryz.func332.trans (congrArg some (by kernel_rfl))
 f189 := Tryz.func238.trans (congrArg some (by kernel_rfl))
 f215 := Tryz.func333.trans (congrArg some (by kernel_rfl))
 f216 := Tryz.func416.trans (congrArg some (by kernel_rfl))
 f257 := Tryz.func335.trans (congrArg some (by kernel_rfl))
 f294 := Tryz.func410.trans (congrArg some (by kernel_rfl))
 f295 := Tryz.func411.trans (congrArg some (by kernel_rfl))
 f296 := Tryz.func412.trans (congrArg some (by kernel_rfl))
 f297 := Tryz.func413.trans (congrArg some (by kernel_rfl))
 f298 := Tryz.func414.trans (congrArg some (by kernel_rfl))
 f299 := Tryz.func415.trans (congrArg some (by kernel_rfl))
 f300 := Tryz.func417.trans (congrArg some (by kernel_rfl))
 f301 := Tryz.func418.trans (congrArg some (by kernel_rfl))
 f328 := Tryz.func457.trans (congrArg some (by kernel_rfl))
 f329 := Tryz.func404.trans (congrArg some (by kernel_rfl))
 f330 := Tryz.func405.trans (congrArg some (by kernel_rfl))
 f331 := Tryz.func458.trans (congrArg some (by kernel_rfl))
 f332 := Tryz.func459.trans (congrArg some (by kernel_rfl))
 f343 := Tryz.func485.trans (congrArg some (by kernel_rfl))
 t0 := Tryz.underlying0
 a0 := Tryz.isAgg0
 z0 := Tryz.sizeOf0
 v0 := Tryz.zeroValue0
 t3 := Tryz.underlying3
 a3 := Tryz.isAgg3
 z3 := Tryz.sizeOf3
 v3 := Tryz.zeroValue3
 t4 := Tryz.underlying4
 a4 := Tryz.isAgg4
 z4 := Tryz.sizeOf4
 v4 := Tryz.zeroValue4
 t5 := Tryz.underlying5
 a5 := Tryz.isAgg5
 z5 := Tryz.sizeOf5
 v5 := Tryz.zeroValue5
 t9 := Tryz.underlying9
 a9 := Tryz.isAgg9
 z9 := Tryz.sizeOf9
 v9 := Tryz.zeroValue9
 t28 := Tryz.underlying47
 a28 := Tryz.isAgg47
 z28 := Tryz.sizeOf47
 v28 := Tryz.zeroValue47
 t46 := Tryz.underlying370
 a46 := Tryz.isAgg370
 z46 := Tryz.sizeOf370
 v46 := Tryz.zeroValue370
 t51 := Tryz.underlying487
 a51 := Tryz.isAgg487
 z51 := Tryz.sizeOf487
 v51 := Tryz.zeroValue487
 t53 := Tryz.underlying38
 a53 := Tryz.isAgg38
 z53 := Tryz.sizeOf38
 v53 := Tryz.zeroValue38
 t131 := Tryz.underlying308
 a131 := Tryz.isAgg308
 z131 := Tryz.sizeOf308
 v131 := Tryz.zeroValue308
 t182 := Tryz.underlying479
 a182 := Tryz.isAgg479
 z182 := Tryz.sizeOf479
 v182 := Tryz.zeroValue479
 t183 := Tryz.underlying480
 a183 := Tryz.isAgg480
 z183 := Tryz.sizeOf480
 v183 := Tryz.zeroValue480
 t218 := Tryz.underlying541
 a218 := Tryz.isAgg541
 z218 := Tryz.sizeOf541
 v218 := Tryz.zeroValue541
 t222 := Tryz.underlying356
 a222 := Tryz.isAgg356
 z222 := Tryz.sizeOf356
 v222 := Tryz.zeroValue356
 t228 := Tryz.underlying573
 a228 := Tryz.isAgg573
 z228 := Tryz.sizeOf573
 v228 := Tryz.zeroValue573
 t229 := Tryz.underlying574
 a229 := Tryz.isAgg574
 z229 := Tryz.sizeOf574
 v229 := Tryz.zeroValue574 }
open Go.Sort Go.RowKit in
theorem Tryz.slices_Sort_int (blk off cap : Nat) (zs : List Int) (w : World) (hH : Holds (Value.int .i64) w blk off zs.toArray) (hblk : blk < w.heap.size) (hsz : zs.length < 4611686018427387904) :
  Calls Tryz.prog 238 #[.slice (some ⟨blk, off, none⟩) zs.length cap] w fun e w' =>
   e = .returned (.tuple #[]) ∧ ∃ n os, w' = grow (putRow (Value.int .i64) (Sort.ahead w n) blk off (zs.mergeSort fun x y => decide (x ≤ y)).toArray) os := Any.slices_Sort_int Tryz.lays189 blk off cap zs w hH hblk hsz
def Tryz.laysNm220_ren : Go.Shelf.Ren := ⟨fun | 20 => 239 | n => n, fun | 22 => 47 | 3 => 3 | 4 => 4 | 0 => 0 | n => n, fun | n => n⟩
theorem Tryz.laysNm220 : Go.Proofs.Lays2.n20 Tryz.prog Tryz.laysNm220_ren := {
 mixed := by kernel_rfl
 f20 := Tryz.func239.trans (congrArg some (by kernel_rfl))
 t0 := Tryz.underlying0
 a0 := Tryz.isAgg0
 z0 := Tryz.sizeOf0
 v0 := Tryz.zeroValue0
 t3 := Tryz.underlying3
 a3 := Tryz.isAgg3
 z3 := Tryz.sizeOf3
 v3 := Tryz.zeroValue3
 t4 := Tryz.underlying4
 a4 := Tryz.isAgg4
 z4 := Tryz.sizeOf4
 v4 := Tryz.zeroValue4
 t22 := Tryz.underlying47
 a22 := Tryz.isAgg47
 z22 := Tryz.sizeOf47
 v22 := Tryz.zeroValue47
 i3 := by kernel_rfl }
open Go.RowKit Go.Lib Go.Sort in
theorem Tryz.slices_Compact_int (blk off cap : Nat) (zs : List Int) (w : World) (hH : Holds (Value.int .i64) w blk off zs.toArray) (hsz : zs.length ≤ 9223372036854775807) (hcap : zs.length ≤ cap) :
  Calls Tryz.prog 239 #[.slice (some ⟨blk, off, none⟩) zs.length cap] w fun e w' => e = .returned (.slice (some ⟨blk, off, none⟩) (Lib.compact zs).length cap) ∧ ∃ q, w' = putRow (Value.int .i64) (Sort.ahead w q) blk off (Lib.compact zs ++ List.replicate (zs.length - (Lib.compact zs).length) 0).toArray := Any.slices_Compact_int Tryz.laysNm220 blk off cap zs w hH hsz hcap
open Go.RowKit Go.Sort in
theorem Tryz.slices_Sort_int_none (p : Option Addr) (cap : Nat) (w : World) :
  Calls Tryz.prog 238 #[.slice p 0 cap] w fun e w' => e = .returned (.tuple #[]) ∧ w' = w := Any.slices_Sort_int_none Tryz.lays189 p cap w
end Go.Proofs.YtopoefcklipaeaaGreatDoor
