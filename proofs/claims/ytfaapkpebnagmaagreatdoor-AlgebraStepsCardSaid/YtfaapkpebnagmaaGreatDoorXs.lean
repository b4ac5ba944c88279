/- Texts of the proof, one behind the other: Sj. -/
import Derived.Shelf.Sort.Plain
import Derived.Test.YtfaapkpebnagmaaGreatDoorProg
namespace Go.Proofs
open Go.Shelf
set_option linter.unusedVariables false
set_option maxRecDepth 100000
set_option maxHeartbeats 400000000
def Tryz.lays189_ren : Go.Shelf.Ren := ⟨fun | 125 => 142 | 128 => 201 | 129 => 202 | 189 => 375 | 215 => 158 | 216 => 384 | 257 => 377 | 294 => 378 | 295 => 379 | 296 => 380 | 297 => 381 | 298 => 382 | 299 => 383 | 300 => 385 | 301 => 386 | 328 => 387 | 329 => 251 | 330 => 252 | 331 => 388 | 332 => 389 | 343 => 390 | n => n,fun | 0 => 0 | 3 => 3 | 4 => 4 | 5 => 5 | 9 => 9 | 28 => 99 | 46 => 230 | 51 => 295 | 53 => 297 | 131 => 145 | 182 => 288 | 183 => 289 | 218 => 348 | 222 => 352 | 228 => 391 | 229 => 265 | n => n,fun | n => n⟩
theorem Tryz.lays189 : Go.Proofs.Lays.n189 Tryz.prog Tryz.lays189_ren := {
 mixed := by kernel_rfl
 f125 := Tryz.func142.trans (congrArg some (by kernel_rfl))
 f128 := Tryz.func201.trans (congrArg some (by kernel_rfl))
 f129 := Tryz.func202.trans (congrArg some (by kernel_rfl))
 f189 := Tryz.func375.trans (congrArg some (by kernel_rfl))
 f215 := Tryz.func158.trans (congrArg some (by kernel_rfl))
 f216 := Tryz.func384.trans (congrArg some (by kernel_rfl))
 f257 := Tryz.func377.trans (congrArg some (by kernel_rfl))
 f294 := Tryz.func378.trans (congrArg some (by kernel_rfl))
 f295 := Tryz.func379.trans (congrArg some (by kernel_rfl))
 f296 := Tryz.func380.trans (congrArg some (by kernel_rfl))
 f297 := Tryz.func381.trans (congrArg some (by kernel_rfl))
 f298 := Tryz.func382.trans (congrArg some (by kernel_rfl))
 f299 := Tryz.func383.trans (congrArg some (by kernel_rfl))
 f300 := Tryz.func385.trans (congrArg some (by kernel_rfl))
 f301 := Tryz.func386.trans (congrArg some (by kernel_rfl))
 f328 := Tryz.func387.trans (congrArg some (by kernel_rfl))
 f329 := Tryz.func251.trans (congrArg some (by kernel_rfl))
 f330 := Tryz.func252.trans (congrArg some (by kernel_rfl))
 f331 := Tryz.func388.trans (congrArg some (by kernel_rfl))
 f332 := Tryz.func389.trans (congrArg some (by kernel_rfl))
 f343 := Tryz.func390.trans (congrArg some (by kernel_rfl))
 t0 := Tryz.underlying0
 a0 := Tryz.isAgg0
 z0 := Tryz.sizeOf0
 v0 := Tryz.zeroValue0
 t3 := Tryz.underlying3
 a3 := Tryz.isAgg3
 z3 := Tryz.sizeOf3
 v3 := Tryz.zeroValue3
 t4 := Tryz.underlying4
 a4 := Tryz.isAgg4
 z4 := Tryz.sizeOf4
 v4 := Tryz.zeroValue4
 t5 := Tryz.underlying5
 a5 := Tryz.isAgg5
 z5 := Tryz.sizeOf5
 v5 := Tryz.zeroValue5
 t9 := Tryz.underlying9
 a9 := Tryz.isAgg9
 z9 := Tryz.sizeOf9
 v9 := Tryz.zeroValue9
 t28 := Tryz.underlying99
 a28 := Tryz.isAgg99
 z28 := Tryz.sizeOf99
 v28 := Tryz.zeroValue99
 t46 := Tryz.underlying230
 a46 := Tryz.isAgg230
 z46 := Tryz.sizeOf230
 v46 := Tryz.zeroValue230
 t51 := Tryz.underlying295
 a51 := Tryz.isAgg295
 z51 := Tryz.sizeOf295
 v51 := Tryz.zeroValue295
 t53 := Tryz.underlying297
 a53 := Tryz.isAgg297
 z53 := Tryz.sizeOf297
 v53 := Tryz.zeroValue297
 t131 := Tryz.underlying145
 a131 := Tryz.isAgg145
 z131 := Tryz.sizeOf145
 v131 := Tryz.zeroValue145
 t182 := Tryz.underlying288
 a182 := Tryz.isAgg288
 z182 := Tryz.sizeOf288
 v182 := Tryz.zeroValue288
 t183 := Tryz.underlying289
 a183 := Tryz.isAgg289
 z183 := Tryz.sizeOf289
 v183 := Tryz.zeroValue289
 t218 := Tryz.underlying348
 a218 := Tryz.isAgg348
 z218 := Tryz.sizeOf348
 v218 := Tryz.zeroValue348
 t222 := Tryz.underlying352
 a222 := Tryz.isAgg352
 z222 := Tryz.sizeOf352
 v222 := Tryz.zeroValue352
 t228 := Tryz.underlying391
 a228 := Tryz.isAgg391
 z228 := Tryz.sizeOf391
 v228 := Tryz.zeroValue391
 t229 := Tryz.underlying265
 a229 := Tryz.isAgg265
 z229 := Tryz.sizeOf265
 v229 := Tryz.zeroValue265
}
open Go.Sort Go.RowKit in
theorem Tryz.slices_Sort_int (blk off cap : Nat) (zs : List Int) (w : World) (hH : Holds (Value.int .i64) w blk off zs.toArray) (hblk : blk < w.heap.size) (hsz : zs.length < 4611686018427387904) :
    Calls Tryz.prog 375 #[.slice (some ⟨blk,off,none⟩) zs.length cap] w fun e w' =>
     e = .returned (.tuple #[]) ∧ ∃ n os,w' = grow (putRow (Value.int .i64) (Sort.ahead w n) blk off (zs.mergeSort fun x y => decide (x ≤ y)).toArray) os := Any.slices_Sort_int Tryz.lays189 blk off cap zs w hH hblk hsz
end Go.Proofs
