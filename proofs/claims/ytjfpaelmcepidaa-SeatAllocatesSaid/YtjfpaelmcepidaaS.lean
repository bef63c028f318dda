/- Contracts of the library, laid at this program by the kit's tools (lay-shelf, lay-plain). -/
import Derived.Shelf.Sort.Plain
import Derived.Shelf.Slices.In.SortNone
import Derived.Shelf.Slices.SearchI
import Derived.Shelf.Slices.Turned
import Derived.Shelf.Slices.CompactI
import Derived.Shelf.Slices.Cells
import Derived.Shelf.Slices.Empties
import Derived.Test.YtjfpaelmcepidaaProg
namespace Go.Proofs
open Go.Shelf
def Try.lays189_ren : Go.Shelf.Ren := ⟨fun | 189 => 38 | 125 => 74 | 257 => 78 | 128 => 103 | 129 => 104 | 294 => 106 | 295 => 107 | 296 => 108 | 297 => 109 | 298 => 110 | 299 => 111 | 216 => 112 | 300 => 113 | 301 => 114 | 328 => 123 | 329 => 119 | 330 => 120 | 331 => 124 | 332 => 125 | 215 => 105 | 343 => 128 | n => n, fun | 28 => 43 | 3 => 3 | 46 => 74 | 0 => 0 | 51 => 65 | 53 => 155 | 4 => 4 | 183 => 148 | 182 => 147 | 131 => 64 | 5 => 5 | 9 => 9 | 218 => 165 | 222 => 169 | 228 => 173 | 229 => 174 | n => n, fun | n => n⟩
theorem Try.lays189 : Go.Proofs.Lays.n189 Try.prog Try.lays189_ren := {
  mixed := by kernel_rfl
  f125 := Try.func74.trans (congrArg some (by kernel_rfl))
  f128 := Try.func103.trans (congrArg some (by kernel_rfl))
  f129 := Try.func104.trans (congrArg some (by kernel_rfl))
  f189 := Try.func38.trans (congrArg some (by kernel_rfl))
  f215 := Try.func105.trans (congrArg some (by kernel_rfl))
  f216 := Try.func112.trans (congrArg some (by kernel_rfl))
  f257 := Try.func78.trans (congrArg some (by kernel_rfl))
  f294 := Try.func106.trans (congrArg some (by kernel_rfl))
  f295 := Try.func107.trans (congrArg some (by kernel_rfl))
  f296 := Try.func108.trans (congrArg some (by kernel_rfl))
  f297 := Try.func109.trans (congrArg some (by kernel_rfl))
  f298 := Try.func110.trans (congrArg some (by kernel_rfl))
  f299 := Try.func111.trans (congrArg some (by kernel_rfl))
  f300 := Try.func113.trans (congrArg some (by kernel_rfl))
  f301 := Try.func114.trans (congrArg some (by kernel_rfl))
  f328 := Try.func123.trans (congrArg some (by kernel_rfl))
  f329 := Try.func119.trans (congrArg some (by kernel_rfl))
  f330 := Try.func120.trans (congrArg some (by kernel_rfl))
  f331 := Try.func124.trans (congrArg some (by kernel_rfl))
  f332 := Try.func125.trans (congrArg some (by kernel_rfl))
  f343 := Try.func128.trans (congrArg some (by kernel_rfl))
  t0 := Try.underlying0
  a0 := Try.isAgg0
  z0 := Try.sizeOf0
  v0 := Try.zeroValue0
  t3 := Try.underlying3
  a3 := Try.isAgg3
  z3 := Try.sizeOf3
  v3 := Try.zeroValue3
  t4 := Try.underlying4
  a4 := Try.isAgg4
  z4 := Try.sizeOf4
  v4 := Try.zeroValue4
  t5 := Try.underlying5
  a5 := Try.isAgg5
  z5 := Try.sizeOf5
  v5 := Try.zeroValue5
  t9 := Try.underlying9
  a9 := Try.isAgg9
  z9 := Try.sizeOf9
  v9 := Try.zeroValue9
  t28 := Try.underlying43
  a28 := Try.isAgg43
  z28 := Try.sizeOf43
  v28 := Try.zeroValue43
  t46 := Try.underlying74
  a46 := Try.isAgg74
  z46 := Try.sizeOf74
  v46 := Try.zeroValue74
  t51 := Try.underlying65
  a51 := Try.isAgg65
  z51 := Try.sizeOf65
  v51 := Try.zeroValue65
  t53 := Try.underlying155
  a53 := Try.isAgg155
  z53 := Try.sizeOf155
  v53 := Try.zeroValue155
  t131 := Try.underlying64
  a131 := Try.isAgg64
  z131 := Try.sizeOf64
  v131 := Try.zeroValue64
  t182 := Try.underlying147
  a182 := Try.isAgg147
  z182 := Try.sizeOf147
  v182 := Try.zeroValue147
  t183 := Try.underlying148
  a183 := Try.isAgg148
  z183 := Try.sizeOf148
  v183 := Try.zeroValue148
  t218 := Try.underlying165
  a218 := Try.isAgg165
  z218 := Try.sizeOf165
  v218 := Try.zeroValue165
  t222 := Try.underlying169
  a222 := Try.isAgg169
  z222 := Try.sizeOf169
  v222 := Try.zeroValue169
  t228 := Try.underlying173
  a228 := Try.isAgg173
  z228 := Try.sizeOf173
  v228 := Try.zeroValue173
  t229 := Try.underlying174
  a229 := Try.isAgg174
  z229 := Try.sizeOf174
  v229 := Try.zeroValue174 }
open Go.Sort Go.RowKit in
theorem Try.slices_Sort_int (blk off cap : Nat) (zs : List Int) (w : World) (hH : Holds (Value.int .i64) w blk off zs.toArray) (hblk : blk < w.heap.size) (hsz : zs.length < 4611686018427387904) :
    Calls Try.prog 38 #[.slice (some ⟨blk, off, none⟩) zs.length cap] w fun e w' =>
      e = .returned (.tuple #[]) ∧ ∃ n os, w' = grow (putRow (Value.int .i64) (Sort.ahead w n) blk off (zs.mergeSort fun x y => decide (x ≤ y)).toArray) os := Any.slices_Sort_int Try.lays189 blk off cap zs w hH hblk hsz
def Try.lays108_ren : Go.Shelf.Ren := ⟨fun | 108 => 93 | n => n, fun | 28 => 43 | 3 => 3 | 0 => 0 | 4 => 4 | n => n, fun | n => n⟩
theorem Try.lays108 : Go.Proofs.Lays.n108 Try.prog Try.lays108_ren := {
  mixed := by kernel_rfl
  f108 := Try.func93.trans (congrArg some (by kernel_rfl))
  t0 := Try.underlying0
  a0 := Try.isAgg0
  z0 := Try.sizeOf0
  v0 := Try.zeroValue0
  t3 := Try.underlying3
  a3 := Try.isAgg3
  z3 := Try.sizeOf3
  v3 := Try.zeroValue3
  t4 := Try.underlying4
  a4 := Try.isAgg4
  z4 := Try.sizeOf4
  v4 := Try.zeroValue4
  t28 := Try.underlying43
  a28 := Try.isAgg43
  z28 := Try.sizeOf43
  v28 := Try.zeroValue43 }
open Go.Lib in
theorem Try.slices_Index_int (b off n c : Nat) (zs : List Int) (x : Int) (w : World) (hz : n ≤ zs.length) (hbig : n ≤ 9223372036854775807) (hc : ∀ j, j < zs.length → w.cell? ⟨b, off + j, none⟩ = some (.int .i64 (zs.getD j 0))) :
    Calls Try.prog 93 #[.slice (some ⟨b, off, none⟩) n c, .int .i64 x] w fun e w' => e = .returned (.int .i64 (Lib.idxOf (zs.take n) x)) ∧ w' = w := Any.slices_Index_int Try.lays108 b off n c zs x w hz hbig hc
open Go.Lib in
theorem Try.slices_Index_int_empty (a : Option Addr) (c : Nat) (x : Int) (w : World) :
    Calls Try.prog 93 #[.slice a 0 c, .int .i64 x] w fun e w' => e = .returned (.int .i64 (Lib.idxOf [] x)) ∧ w' = w := Any.slices_Index_int_empty Try.lays108 a c x w
def Try.lays107_ren : Go.Shelf.Ren := ⟨fun | 107 => 59 | 108 => 93 | n => n, fun | 28 => 43 | 3 => 3 | 4 => 4 | 0 => 0 | n => n, fun | n => n⟩
theorem Try.lays107 : Go.Proofs.Lays.n107 Try.prog Try.lays107_ren := {
  mixed := by kernel_rfl
  f107 := Try.func59.trans (congrArg some (by kernel_rfl))
  f108 := Try.func93.trans (congrArg some (by kernel_rfl))
  t0 := Try.underlying0
  a0 := Try.isAgg0
  z0 := Try.sizeOf0
  v0 := Try.zeroValue0
  t3 := Try.underlying3
  a3 := Try.isAgg3
  z3 := Try.sizeOf3
  v3 := Try.zeroValue3
  t4 := Try.underlying4
  a4 := Try.isAgg4
  z4 := Try.sizeOf4
  v4 := Try.zeroValue4
  t28 := Try.underlying43
  a28 := Try.isAgg43
  z28 := Try.sizeOf43
  v28 := Try.zeroValue43 }
open Go.Lib in
theorem Try.slices_Contains_int (b off n c : Nat) (zs : List Int) (x : Int) (w : World) (hz : n ≤ zs.length) (hbig : n ≤ 9223372036854775807) (hc : ∀ j, j < zs.length → w.cell? ⟨b, off + j, none⟩ = some (.int .i64 (zs.getD j 0))) :
    Calls Try.prog 59 #[.slice (some ⟨b, off, none⟩) n c, .int .i64 x] w fun e w' => e = .returned (.bool ((zs.take n).contains x)) ∧ w' = w := Any.slices_Contains_int Try.lays107 b off n c zs x w hz hbig hc
open Go.Lib in
theorem Try.slices_Contains_int_empty (a : Option Addr) (c : Nat) (x : Int) (w : World) :
    Calls Try.prog 59 #[.slice a 0 c, .int .i64 x] w fun e w' => e = .returned (.bool false) ∧ w' = w := Any.slices_Contains_int_empty Try.lays107 a c x w
def Try.laysNm220_ren : Go.Shelf.Ren := ⟨fun | 20 => 39 | n => n, fun | 22 => 43 | 3 => 3 | 4 => 4 | 0 => 0 | n => n, fun | n => n⟩
theorem Try.laysNm220 : Go.Proofs.Lays2.n20 Try.prog Try.laysNm220_ren := {
  mixed := by kernel_rfl
  f20 := Try.func39.trans (congrArg some (by kernel_rfl))
  t0 := Try.underlying0
  a0 := Try.isAgg0
  z0 := Try.sizeOf0
  v0 := Try.zeroValue0
  t3 := Try.underlying3
  a3 := Try.isAgg3
  z3 := Try.sizeOf3
  v3 := Try.zeroValue3
  t4 := Try.underlying4
  a4 := Try.isAgg4
  z4 := Try.sizeOf4
  v4 := Try.zeroValue4
  t22 := Try.underlying43
  a22 := Try.isAgg43
  z22 := Try.sizeOf43
  v22 := Try.zeroValue43
  i3 := by kernel_rfl }
open Go.RowKit Go.Lib Go.Sort in
theorem Try.slices_Compact_int (blk off cap : Nat) (zs : List Int) (w : World) (hH : Holds (Value.int .i64) w blk off zs.toArray) (hsz : zs.length ≤ 9223372036854775807) (hcap : zs.length ≤ cap) :
    Calls Try.prog 39 #[.slice (some ⟨blk, off, none⟩) zs.length cap] w fun e w' => e = .returned (.slice (some ⟨blk, off, none⟩) (Lib.compact zs).length cap) ∧ ∃ q, w' = putRow (Value.int .i64) (Sort.ahead w q) blk off (Lib.compact zs ++ List.replicate (zs.length - (Lib.compact zs).length) 0).toArray := Any.slices_Compact_int Try.laysNm220 blk off cap zs w hH hsz hcap
open Go.RowKit Go.Lib Go.Sort in
theorem Try.slices_Compact_int_empty (a : Option Addr) (cap : Nat) (w : World) :
    Calls Try.prog 39 #[.slice a 0 cap] w fun e w' => e = .returned (.slice a 0 cap) ∧ w' = w := Any.slices_Compact_int_empty Try.laysNm220 a cap w
open Go.RowKit Go.Lib Go.Sort in
theorem Try.slices_Compact_int_cells (b off n c : Nat) (zs : List Int) (w : World) (hz : n ≤ zs.length) (hbig : n ≤ 9223372036854775807) (hcap : n ≤ c) (hc : ∀ j, j < zs.length → w.cell? ⟨b, off + j, none⟩ = some (.int .i64 (zs.getD j 0))) (hf : ∀ j, j < n → w.frozen? ⟨b, off + j, none⟩ = false) :
    Calls Try.prog 39 #[.slice (some ⟨b, off, none⟩) n c] w fun e w' => e = .returned (.slice (some ⟨b, off, none⟩) (Lib.compact (zs.take n)).length c) ∧ ∃ q, w' = (w.drewN q).setCells b off ((Lib.compact (zs.take n) ++ List.replicate (n - (Lib.compact (zs.take n)).length) 0).map (Value.int .i64)) := Any.slices_Compact_int_cells Try.laysNm220 b off n c zs w hz hbig hcap hc hf
open Go.RowKit Go.Sort in
theorem Try.slices_Sort_int_none (p : Option Addr) (cap : Nat) (w : World) :
    Calls Try.prog 38 #[.slice p 0 cap] w fun e w' => e = .returned (.tuple #[]) ∧ w' = w := Any.slices_Sort_int_none Try.lays189 p cap w
end Go.Proofs
