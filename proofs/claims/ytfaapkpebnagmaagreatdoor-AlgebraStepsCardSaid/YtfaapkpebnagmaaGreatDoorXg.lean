/- Texts of the proof, one behind the other: Sq. -/
import Derived.Shelf.LaysM
import Derived.Shelf.Strconv.Itoa4
import Derived.Shelf.Sort.Plain
import Derived.Shelf.Slices.Equal
import Derived.Test.YtfaapkpebnagmaaGreatDoorProg
namespace Go.Proofs
open Go.Shelf
set_option linter.unusedVariables false
set_option maxRecDepth 100000
set_option maxHeartbeats 400000000
def Tryz.laysM171_ren : Go.Shelf.Ren := ⟨fun | 171 => 89 | 243 => 144 | 246 => 204 | 283 => 257 | 284 => 258 | 285 => 259 | 286 => 260 | 129 => 202 | 317 => 302 | 318 => 303 | 319 => 304 | 320 => 305 | 337 => 336 | 338 => 337 | n => n,fun | 3 => 3 | 9 => 9 | 2 => 2 | 4 => 4 | 171 => 354 | 0 => 0 | 53 => 297 | 37 => 318 | 5 => 5 | 173 => 356 | 212 => 393 | 51 => 295 | 20 => 20 | 213 => 394 | 46 => 230 | 232 => 464 | 233 => 465 | n => n,fun | 17 => 3 | 18 => 9 | 19 => 10 | n => n⟩
theorem Tryz.laysM171 : Go.Proofs.LaysM.n171 Tryz.prog Tryz.laysM171_ren := {
 mixed := by kernel_rfl
 f129 := Tryz.func202.trans (congrArg some (by kernel_rfl))
 f171 := Tryz.func89.trans (congrArg some (by kernel_rfl))
 f243 := Tryz.func144.trans (congrArg some (by kernel_rfl))
 f246 := Tryz.func204.trans (congrArg some (by kernel_rfl))
 f283 := Tryz.func257.trans (congrArg some (by kernel_rfl))
 f284 := Tryz.func258.trans (congrArg some (by kernel_rfl))
 f285 := Tryz.func259.trans (congrArg some (by kernel_rfl))
 f286 := Tryz.func260.trans (congrArg some (by kernel_rfl))
 f317 := Tryz.func302.trans (congrArg some (by kernel_rfl))
 f318 := Tryz.func303.trans (congrArg some (by kernel_rfl))
 f319 := Tryz.func304.trans (congrArg some (by kernel_rfl))
 f320 := Tryz.func305.trans (congrArg some (by kernel_rfl))
 f337 := Tryz.func336.trans (congrArg some (by kernel_rfl))
 f338 := Tryz.func337.trans (congrArg some (by kernel_rfl))
 t0 := Tryz.underlying0
 a0 := Tryz.isAgg0
 z0 := Tryz.sizeOf0
 v0 := Tryz.zeroValue0
 t2 := Tryz.underlying2
 a2 := Tryz.isAgg2
 z2 := Tryz.sizeOf2
 v2 := Tryz.zeroValue2
 t3 := Tryz.underlying3
 a3 := Tryz.isAgg3
 z3 := Tryz.sizeOf3
 v3 := Tryz.zeroValue3
 t4 := Tryz.underlying4
 a4 := Tryz.isAgg4
 z4 := Tryz.sizeOf4
 v4 := Tryz.zeroValue4
 t5 := Tryz.underlying5
 a5 := Tryz.isAgg5
 z5 := Tryz.sizeOf5
 v5 := Tryz.zeroValue5
 t9 := Tryz.underlying9
 a9 := Tryz.isAgg9
 z9 := Tryz.sizeOf9
 v9 := Tryz.zeroValue9
 t20 := Tryz.underlying20
 a20 := Tryz.isAgg20
 z20 := Tryz.sizeOf20
 v20 := Tryz.zeroValue20
 t37 := Tryz.underlying318
 a37 := Tryz.isAgg318
 z37 := Tryz.sizeOf318
 v37 := Tryz.zeroValue318
 t46 := Tryz.underlying230
 a46 := Tryz.isAgg230
 z46 := Tryz.sizeOf230
 v46 := Tryz.zeroValue230
 t51 := Tryz.underlying295
 a51 := Tryz.isAgg295
 z51 := Tryz.sizeOf295
 v51 := Tryz.zeroValue295
 t53 := Tryz.underlying297
 a53 := Tryz.isAgg297
 z53 := Tryz.sizeOf297
 v53 := Tryz.zeroValue297
 t171 := Tryz.underlying354
 a171 := Tryz.isAgg354
 z171 := Tryz.sizeOf354
 v171 := Tryz.zeroValue354
 t173 := Tryz.underlying356
 a173 := Tryz.isAgg356
 z173 := Tryz.sizeOf356
 v173 := Tryz.zeroValue356
 t212 := Tryz.underlying393
 a212 := Tryz.isAgg393
 z212 := Tryz.sizeOf393
 v212 := Tryz.zeroValue393
 t213 := Tryz.underlying394
 a213 := Tryz.isAgg394
 z213 := Tryz.sizeOf394
 t232 := Tryz.underlying464
 a232 := Tryz.isAgg464
 z232 := Tryz.sizeOf464
 v232 := Tryz.zeroValue464
 t233 := Tryz.underlying465
 a233 := Tryz.isAgg465
 z233 := Tryz.sizeOf465
 v233 := Tryz.zeroValue465
 g17 := by kernel_rfl
 g18 := by kernel_rfl
 g19 := by kernel_rfl
 i0 := by kernel_rfl
 i2 := by kernel_rfl
 i3 := by kernel_rfl
 i4 := by kernel_rfl
 i5 := by kernel_rfl
 i9 := by kernel_rfl
 i20 := by kernel_rfl
 i37 := by kernel_rfl
 i46 := by kernel_rfl
 i51 := by kernel_rfl
 i53 := by kernel_rfl
 i171 := by kernel_rfl
 i173 := by kernel_rfl
 i212 := by kernel_rfl
 i232 := by kernel_rfl
 i233 := by kernel_rfl
 m17 := by kernel_rfl
 m18 := by kernel_rfl
 m19 := by kernel_rfl }
open Go.RowKit Go.Sort Go.Lib in
theorem Tryz.strconv_Itoa (n : Int) (h0 : -9223372036854775808 ≤ n) (h1 : n ≤ 9223372036854775807) (w : World) (htab : Lib.TabIs Tryz.prog w "internal/strconv.uint64pow10" .u64 Lib.pow10Tab) :
    Calls Tryz.prog 89 #[.int .i64 n] w fun e w' => e = .returned (.string ⟨(Lib.itoa n).toArray⟩) ∧ ∃ k os,w' = grow (w.drewN k) os := Any.strconv_Itoa Tryz.laysM171 n h0 h1 w htab
def Tryz.lays190_ren : Go.Shelf.Ren := ⟨fun | 190 => 83 | 125 => 142 | 258 => 141 | 128 => 201 | 129 => 202 | 302 => 192 | 303 => 193 | 304 => 194 | 305 => 195 | 306 => 196 | 307 => 197 | 308 => 198 | 309 => 199 | 310 => 200 | 333 => 250 | 329 => 251 | 330 => 252 | 334 => 253 | 335 => 254 | 336 => 255 | 344 => 301 | n => n,fun | 31 => 31 | 9 => 9 | 3 => 3 | 46 => 230 | 0 => 0 | 51 => 295 | 53 => 297 | 4 => 4 | 183 => 289 | 182 => 288 | 131 => 145 | 5 => 5 | 218 => 348 | 222 => 352 | 228 => 391 | 229 => 265 | n => n,fun | n => n⟩
theorem Tryz.lays190 : Go.Proofs.Lays.n190 Tryz.prog Tryz.lays190_ren := {
 mixed := by kernel_rfl
 f125 := Tryz.func142.trans (congrArg some (by kernel_rfl))
 f128 := Tryz.func201.trans (congrArg some (by kernel_rfl))
 f129 := Tryz.func202.trans (congrArg some (by kernel_rfl))
 f190 := Tryz.func83.trans (congrArg some (by kernel_rfl))
 f258 := Tryz.func141.trans (congrArg some (by kernel_rfl))
 f302 := Tryz.func192.trans (congrArg some (by kernel_rfl))
 f303 := Tryz.func193.trans (congrArg some (by kernel_rfl))
 f304 := Tryz.func194.trans (congrArg some (by kernel_rfl))
 f305 := Tryz.func195.trans (congrArg some (by kernel_rfl))
 f306 := Tryz.func196.trans (congrArg some (by kernel_rfl))
 f307 := Tryz.func197.trans (congrArg some (by kernel_rfl))
 f308 := Tryz.func198.trans (congrArg some (by kernel_rfl))
 f309 := Tryz.func199.trans (congrArg some (by kernel_rfl))
 f310 := Tryz.func200.trans (congrArg some (by kernel_rfl))
 f329 := Tryz.func251.trans (congrArg some (by kernel_rfl))
 f330 := Tryz.func252.trans (congrArg some (by kernel_rfl))
 f333 := Tryz.func250.trans (congrArg some (by kernel_rfl))
 f334 := Tryz.func253.trans (congrArg some (by kernel_rfl))
 f335 := Tryz.func254.trans (congrArg some (by kernel_rfl))
 f336 := Tryz.func255.trans (congrArg some (by kernel_rfl))
 f344 := Tryz.func301.trans (congrArg some (by kernel_rfl))
 t0 := Tryz.underlying0
 a0 := Tryz.isAgg0
 z0 := Tryz.sizeOf0
 v0 := Tryz.zeroValue0
 t3 := Tryz.underlying3
 a3 := Tryz.isAgg3
 z3 := Tryz.sizeOf3
 v3 := Tryz.zeroValue3
 t4 := Tryz.underlying4
 a4 := Tryz.isAgg4
 z4 := Tryz.sizeOf4
 v4 := Tryz.zeroValue4
 t5 := Tryz.underlying5
 a5 := Tryz.isAgg5
 z5 := Tryz.sizeOf5
 v5 := Tryz.zeroValue5
 t9 := Tryz.underlying9
 a9 := Tryz.isAgg9
 z9 := Tryz.sizeOf9
 v9 := Tryz.zeroValue9
 t31 := Tryz.underlying31
 a31 := Tryz.isAgg31
 z31 := Tryz.sizeOf31
 v31 := Tryz.zeroValue31
 t46 := Tryz.underlying230
 a46 := Tryz.isAgg230
 z46 := Tryz.sizeOf230
 v46 := Tryz.zeroValue230
 t51 := Tryz.underlying295
 a51 := Tryz.isAgg295
 z51 := Tryz.sizeOf295
 v51 := Tryz.zeroValue295
 t53 := Tryz.underlying297
 a53 := Tryz.isAgg297
 z53 := Tryz.sizeOf297
 v53 := Tryz.zeroValue297
 t131 := Tryz.underlying145
 a131 := Tryz.isAgg145
 z131 := Tryz.sizeOf145
 v131 := Tryz.zeroValue145
 t182 := Tryz.underlying288
 a182 := Tryz.isAgg288
 z182 := Tryz.sizeOf288
 v182 := Tryz.zeroValue288
 t183 := Tryz.underlying289
 a183 := Tryz.isAgg289
 z183 := Tryz.sizeOf289
 v183 := Tryz.zeroValue289
 t218 := Tryz.underlying348
 a218 := Tryz.isAgg348
 z218 := Tryz.sizeOf348
 v218 := Tryz.zeroValue348
 t222 := Tryz.underlying352
 a222 := Tryz.isAgg352
 z222 := Tryz.sizeOf352
 v222 := Tryz.zeroValue352
 t228 := Tryz.underlying391
 a228 := Tryz.isAgg391
 z228 := Tryz.sizeOf391
 v228 := Tryz.zeroValue391
 t229 := Tryz.underlying265
 a229 := Tryz.isAgg265
 z229 := Tryz.sizeOf265
 v229 := Tryz.zeroValue265 }
open Go.Sort Go.RowKit in
theorem Tryz.slices_Sort_string (blk off cap : Nat) (ss : List (List UInt8)) (w : World) (hH : Holds encStr w blk off ss.toArray) (hblk : blk < w.heap.size) (hsz : ss.length < 4611686018427387904) :
    Calls Tryz.prog 83 #[.slice (some ⟨blk,off,none⟩) ss.length cap] w fun e w' =>
     e = .returned (.tuple #[]) ∧ ∃ n os,w' = grow (putRow encStr (Sort.ahead w n) blk off (ss.mergeSort fun x y => decide (x ≤ y)).toArray) os := Any.slices_Sort_string Tryz.lays190 blk off cap ss w hH hblk hsz
def Tryz.lays193_ren : Go.Shelf.Ren := ⟨fun | 193 => 32 | n => n,fun | 31 => 31 | 9 => 9 | 4 => 4 | 3 => 3 | 0 => 0 | n => n,fun | n => n⟩
theorem Tryz.lays193 : Go.Proofs.Lays.n193 Tryz.prog Tryz.lays193_ren := {
 mixed := by kernel_rfl
 f193 := Tryz.func32.trans (congrArg some (by kernel_rfl))
 t0 := Tryz.underlying0
 a0 := Tryz.isAgg0
 z0 := Tryz.sizeOf0
 v0 := Tryz.zeroValue0
 t3 := Tryz.underlying3
 a3 := Tryz.isAgg3
 z3 := Tryz.sizeOf3
 v3 := Tryz.zeroValue3
 t4 := Tryz.underlying4
 a4 := Tryz.isAgg4
 z4 := Tryz.sizeOf4
 v4 := Tryz.zeroValue4
 t9 := Tryz.underlying9
 a9 := Tryz.isAgg9
 z9 := Tryz.sizeOf9
 v9 := Tryz.zeroValue9
 t31 := Tryz.underlying31
 a31 := Tryz.isAgg31
 z31 := Tryz.sizeOf31
 v31 := Tryz.zeroValue31 }
open Go.RowKit Go.Lib in
theorem Tryz.slices_Equal_string (b1 o1 n c b2 o2 m d : Nat) (xs ys : List ByteArray) (w : World) (hx : n ≤ xs.length) (hy : m ≤ ys.length) (hbig : n ≤ 9223372036854775807) (hbig2 : m ≤ 9223372036854775807) (hc1 : ∀ j,j < xs.length → w.cell? ⟨b1,o1 + j,none⟩ = some (.string (xs.getD j ByteArray.empty))) (hc2 : ∀ j,j < ys.length → w.cell? ⟨b2,o2 + j,none⟩ = some (.string (ys.getD j ByteArray.empty))) :
    Calls Tryz.prog 32 #[.slice (some ⟨b1,o1,none⟩) n c,.slice (some ⟨b2,o2,none⟩) m d] w fun e w' => e = .returned (.bool (decide (xs.take n = ys.take m))) ∧ ∃ q,w' = w.drewN q := Any.slices_Equal_string Tryz.lays193 b1 o1 n c b2 o2 m d xs ys w hx hy hbig hbig2 hc1 hc2
open Go.RowKit Go.Lib in
theorem Tryz.slices_Equal_string_empty (a1 a2 : Option Addr) (c m d : Nat) (w : World) (hbig2 : m ≤ 9223372036854775807) :
    Calls Tryz.prog 32 #[.slice a1 0 c,.slice a2 m d] w fun e w' => e = .returned (.bool (decide (m = 0))) ∧ w' = w := Any.slices_Equal_string_empty Tryz.lays193 a1 a2 c m d w hbig2
end Go.Proofs
