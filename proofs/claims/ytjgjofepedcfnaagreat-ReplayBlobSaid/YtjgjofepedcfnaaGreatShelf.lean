/- DERIVED: THE SHELF's CONTRACTS AT THIS DUMP, IN PLAIN WORDS (tools/lay-plain.mjs out of 'TryzShelf.lean', which tools/lay-shelf.mjs wrote): THE SAME DECLARATIONS UNDER THE SAME NAMES: 'import', 'namespace', 'open', 'def', 'theorem' AND NOTHING ELSE: no command of the shelf's: FOR A HAND-IN. Each laying: the table of numbers ('.._ren') and one theorem, a field a fact of the dump's own or the kernel's comparison; each contract: ONE APPLICATION. -/
import Derived.Test.YtjgjofepedcfnaaGreatProg
import Derived.Shelf.Sort.Plain
import Derived.Ground.Names2Prog
import Derived.Shelf.Slices.CompactI
import Derived.Shelf.Slices.Cells
import Derived.Shelf.Slices.In.SortNone
namespace Go.Proofs.YtjgjofepedcfnaaGreat
open Go.Shelf
def Tryz.lays189_ren : Go.Shelf.Ren := ⟨fun | 189 => 149 | 125 => 136 | 257 => 166 | 128 => 161 | 129 => 162 | 294 => 173 | 295 => 174 | 296 => 175 | 297 => 176 | 298 => 177 | 299 => 178 | 216 => 179 | 300 => 180 | 301 => 181 | 328 => 183 | 329 => 168 | 330 => 169 | 331 => 184 | 332 => 185 | 215 => 105 | 343 => 186 | n => n, fun | 28 => 131 | 3 => 3 | 46 => 173 | 0 => 0 | 51 => 215 | 53 => 23 | 4 => 4 | 183 => 209 | 182 => 208 | 131 => 185 | 5 => 5 | 9 => 9 | 218 => 220 | 222 => 224 | 228 => 232 | 229 => 233 | n => n, fun | n => n⟩
theorem Tryz.lays189 : Go.Proofs.Lays.n189 Tryz.prog Tryz.lays189_ren := {
 mixed := by kernel_rfl
 f125 := Tryz.func136.trans (congrArg some (by kernel_rfl))
 f128 := Tryz.func161.trans (congrArg some (by kernel_rfl))
 f129 := Tryz.func162.trans (congrArg some (by kernel_rfl))
 f189 := Tryz.func149.trans (congrArg some (by kernel_rfl))
 f215 := Tryz.func105.trans (congrArg some (by kernel_rfl))
 f216 := Tryz.func179.trans (congrArg some (by kernel_rfl))
 f257 := Tryz.func166.trans (congrArg some (by kernel_rfl))
 f294 := Tryz.func173.trans (congrArg some (by kernel_rfl))
 f295 := Tryz.func174.trans (congrArg some (by kernel_rfl))
 f296 := Tryz.func175.trans (congrArg some (by kernel_rfl))
 f297 := Tryz.func176.trans (congrArg some (by kernel_rfl))
 f298 := Tryz.func177.trans (congrArg some (by kernel_rfl))
 f299 := Tryz.func178.trans (congrArg some (by kernel_rfl))
 f300 := Tryz.func180.trans (congrArg some (by kernel_rfl))
 f301 := Tryz.func181.trans (congrArg some (by kernel_rfl))
 f328 := Tryz.func183.trans (congrArg some (by kernel_rfl))
 f329 := Tryz.func168.trans (congrArg some (by kernel_rfl))
 f330 := Tryz.func169.trans (congrArg some (by kernel_rfl))
 f331 := Tryz.func184.trans (congrArg some (by kernel_rfl))
 f332 := Tryz.func185.trans (congrArg some (by kernel_rfl))
 f343 := Tryz.func186.trans (congrArg some (by kernel_rfl))
 t0 := Tryz.underlying0
 a0 := Tryz.isAgg0
 z0 := Tryz.sizeOf0
 v0 := Tryz.zeroValue0
 t3 := Tryz.underlying3
 a3 := Tryz.isAgg3
 z3 := Tryz.sizeOf3
 v3 := Tryz.zeroValue3
 t4 := Tryz.underlying4
 a4 := Tryz.isAgg4
 z4 := Tryz.sizeOf4
 v4 := Tryz.zeroValue4
 t5 := Tryz.underlying5
 a5 := Tryz.isAgg5
 z5 := Tryz.sizeOf5
 v5 := Tryz.zeroValue5
 t9 := Tryz.underlying9
 a9 := Tryz.isAgg9
 z9 := Tryz.sizeOf9
 v9 := Tryz.zeroValue9
 t28 := Tryz.underlying131
 a28 := Tryz.isAgg131
 z28 := Tryz.sizeOf131
 v28 := Tryz.zeroValue131
 t46 := Tryz.underlying173
 a46 := Tryz.isAgg173
 z46 := Tryz.sizeOf173
 v46 := Tryz.zeroValue173
 t51 := Tryz.underlying215
 a51 := Tryz.isAgg215
 z51 := Tryz.sizeOf215
 v51 := Tryz.zeroValue215
 t53 := Tryz.underlying23
 a53 := Tryz.isAgg23
 z53 := Tryz.sizeOf23
 v53 := Tryz.zeroValue23
 t131 := Tryz.underlying185
 a131 := Tryz.isAgg185
 z131 := Tryz.sizeOf185
 v131 := Tryz.zeroValue185
 t182 := Tryz.underlying208
 a182 := Tryz.isAgg208
 z182 := Tryz.sizeOf208
 v182 := Tryz.zeroValue208
 t183 := Tryz.underlying209
 a183 := Tryz.isAgg209
 z183 := Tryz.sizeOf209
 v183 := Tryz.zeroValue209
 t218 := Tryz.underlying220
 a218 := Tryz.isAgg220
 z218 := Tryz.sizeOf220
 v218 := Tryz.zeroValue220
 t222 := Tryz.underlying224
 a222 := Tryz.isAgg224
 z222 := Tryz.sizeOf224
 v222 := Tryz.zeroValue224
 t228 := Tryz.underlying232
 a228 := Tryz.isAgg232
 z228 := Tryz.sizeOf232
 v228 := Tryz.zeroValue232
 t229 := Tryz.underlying233
 a229 := Tryz.isAgg233
 z229 := Tryz.sizeOf233
 v229 := Tryz.zeroValue233 }
open Go.Sort Go.RowKit in
theorem Tryz.slices_Sort_int (blk off cap : Nat) (zs : List Int) (w : World) (hH : Holds (Value.int .i64) w blk off zs.toArray) (hblk : blk < w.heap.size) (hsz : zs.length < 4611686018427387904) :
  Calls Tryz.prog 149 #[.slice (some ⟨blk, off, none⟩) zs.length cap] w fun e w' =>
   e = .returned (.tuple #[]) ∧ ∃ n os, w' = grow (putRow (Value.int .i64) (Sort.ahead w n) blk off (zs.mergeSort fun x y => decide (x ≤ y)).toArray) os := Any.slices_Sort_int Tryz.lays189 blk off cap zs w hH hblk hsz
def Tryz.laysNm220_ren : Go.Shelf.Ren := ⟨fun | 20 => 150 | n => n, fun | 22 => 131 | 3 => 3 | 4 => 4 | 0 => 0 | n => n, fun | n => n⟩
theorem Tryz.laysNm220 : Go.Proofs.Lays2.n20 Tryz.prog Tryz.laysNm220_ren := {
 mixed := by kernel_rfl
 f20 := Tryz.func150.trans (congrArg some (by kernel_rfl))
 t0 := Tryz.underlying0
 a0 := Tryz.isAgg0
 z0 := Tryz.sizeOf0
 v0 := Tryz.zeroValue0
 t3 := Tryz.underlying3
 a3 := Tryz.isAgg3
 z3 := Tryz.sizeOf3
 v3 := Tryz.zeroValue3
 t4 := Tryz.underlying4
 a4 := Tryz.isAgg4
 z4 := Tryz.sizeOf4
 v4 := Tryz.zeroValue4
 t22 := Tryz.underlying131
 a22 := Tryz.isAgg131
 z22 := Tryz.sizeOf131
 v22 := Tryz.zeroValue131
 i3 := by kernel_rfl }
open Go.RowKit Go.Lib Go.Sort in
theorem Tryz.slices_Compact_int (blk off cap : Nat) (zs : List Int) (w : World) (hH : Holds (Value.int .i64) w blk off zs.toArray) (hsz : zs.length ≤ 9223372036854775807) (hcap : zs.length ≤ cap) :
 Calls Tryz.prog 150 #[.slice (some ⟨blk, off, none⟩) zs.length cap] w fun e w' => e = .returned (.slice (some ⟨blk, off, none⟩) (Lib.compact zs).length cap) ∧ ∃ q, w' = putRow (Value.int .i64) (Sort.ahead w q) blk off (Lib.compact zs ++ List.replicate (zs.length - (Lib.compact zs).length) 0).toArray := Any.slices_Compact_int Tryz.laysNm220 blk off cap zs w hH hsz hcap
open Go.RowKit Go.Sort in
theorem Tryz.slices_Sort_int_none (p : Option Addr) (cap : Nat) (w : World) :
 Calls Tryz.prog 149 #[.slice p 0 cap] w fun e w' => e = .returned (.tuple #[]) ∧ w' = w := Any.slices_Sort_int_none Tryz.lays189 p cap w
end Go.Proofs.YtjgjofepedcfnaaGreat
