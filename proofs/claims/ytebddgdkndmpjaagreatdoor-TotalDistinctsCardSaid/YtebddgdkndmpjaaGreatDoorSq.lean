/- strconv.Itoa, slices.Sort and slices.Equal at strings: their contracts, as the kit's shelf lays them for this seat (lay-plain.mjs), trimmed to what is used. -/
import Derived.Shelf.LaysM
import Derived.Shelf.Strconv.Itoa4
import Derived.Shelf.Sort.Plain
import Derived.Shelf.Slices.Equal
import Derived.Test.YtebddgdkndmpjaaGreatDoorProg
namespace Go.Proofs
open Go.Shelf
def Tryz.laysM171_ren : Go.Shelf.Ren := ⟨fun | 171 => 128 | 243 => 169 | 246 => 170 | 283 => 218 | 284 => 219 | 285 => 220 | 286 => 221 | 129 => 186 | 317 => 264 | 318 => 265 | 319 => 266 | 320 => 267 | 337 => 301 | 338 => 302 | n => n, fun | 3 => 3 | 9 => 9 | 2 => 2 | 4 => 4 | 171 => 305 | 0 => 0 | 53 => 249 | 37 => 86 | 5 => 5 | 173 => 307 | 212 => 346 | 51 => 277 | 20 => 20 | 213 => 347 | 46 => 128 | 232 => 417 | 233 => 418 | n => n, fun | 17 => 3 | 18 => 6 | 19 => 7 | n => n⟩
theorem Tryz.laysM171 : Go.Proofs.LaysM.n171 Tryz.prog Tryz.laysM171_ren := {
  mixed := by kernel_rfl
  f129 := Tryz.func186.trans (congrArg some (by kernel_rfl))
  f171 := Tryz.func128.trans (congrArg some (by kernel_rfl))
  f243 := Tryz.func169.trans (congrArg some (by kernel_rfl))
  f246 := Tryz.func170.trans (congrArg some (by kernel_rfl))
  f283 := Tryz.func218.trans (congrArg some (by kernel_rfl))
  f284 := Tryz.func219.trans (congrArg some (by kernel_rfl))
  f285 := Tryz.func220.trans (congrArg some (by kernel_rfl))
  f286 := Tryz.func221.trans (congrArg some (by kernel_rfl))
  f317 := Tryz.func264.trans (congrArg some (by kernel_rfl))
  f318 := Tryz.func265.trans (congrArg some (by kernel_rfl))
  f319 := Tryz.func266.trans (congrArg some (by kernel_rfl))
  f320 := Tryz.func267.trans (congrArg some (by kernel_rfl))
  f337 := Tryz.func301.trans (congrArg some (by kernel_rfl))
  f338 := Tryz.func302.trans (congrArg some (by kernel_rfl))
  t0 := Tryz.underlying0
  a0 := Tryz.isAgg0
  z0 := Tryz.sizeOf0
  v0 := Tryz.zeroValue0
  t2 := Tryz.underlying2
  a2 := Tryz.isAgg2
  z2 := Tryz.sizeOf2
  v2 := Tryz.zeroValue2
  t3 := Tryz.underlying3
  a3 := Tryz.isAgg3
  z3 := Tryz.sizeOf3
  v3 := Tryz.zeroValue3
  t4 := Tryz.underlying4
  a4 := Tryz.isAgg4
  z4 := Tryz.sizeOf4
  v4 := Tryz.zeroValue4
  t5 := Tryz.underlying5
  a5 := Tryz.isAgg5
  z5 := Tryz.sizeOf5
  v5 := Tryz.zeroValue5
  t9 := Tryz.underlying9
  a9 := Tryz.isAgg9
  z9 := Tryz.sizeOf9
  v9 := Tryz.zeroValue9
  t20 := Tryz.underlying20
  a20 := Tryz.isAgg20
  z20 := Tryz.sizeOf20
  v20 := Tryz.zeroValue20
  t37 := Tryz.underlying86
  a37 := Tryz.isAgg86
  z37 := Tryz.sizeOf86
  v37 := Tryz.zeroValue86
  t46 := Tryz.underlying128
  a46 := Tryz.isAgg128
  z46 := Tryz.sizeOf128
  v46 := Tryz.zeroValue128
  t51 := Tryz.underlying277
  a51 := Tryz.isAgg277
  z51 := Tryz.sizeOf277
  v51 := Tryz.zeroValue277
  t53 := Tryz.underlying249
  a53 := Tryz.isAgg249
  z53 := Tryz.sizeOf249
  v53 := Tryz.zeroValue249
  t171 := Tryz.underlying305
  a171 := Tryz.isAgg305
  z171 := Tryz.sizeOf305
  v171 := Tryz.zeroValue305
  t173 := Tryz.underlying307
  a173 := Tryz.isAgg307
  z173 := Tryz.sizeOf307
  v173 := Tryz.zeroValue307
  t212 := Tryz.underlying346
  a212 := Tryz.isAgg346
  z212 := Tryz.sizeOf346
  v212 := Tryz.zeroValue346
  t213 := Tryz.underlying347
  a213 := Tryz.isAgg347
  z213 := Tryz.sizeOf347
  t232 := Tryz.underlying417
  a232 := Tryz.isAgg417
  z232 := Tryz.sizeOf417
  v232 := Tryz.zeroValue417
  t233 := Tryz.underlying418
  a233 := Tryz.isAgg418
  z233 := Tryz.sizeOf418
  v233 := Tryz.zeroValue418
  g17 := by kernel_rfl
  g18 := by kernel_rfl
  g19 := by kernel_rfl
  i0 := by kernel_rfl
  i2 := by kernel_rfl
  i3 := by kernel_rfl
  i4 := by kernel_rfl
  i5 := by kernel_rfl
  i9 := by kernel_rfl
  i20 := by kernel_rfl
  i37 := by kernel_rfl
  i46 := by kernel_rfl
  i51 := by kernel_rfl
  i53 := by kernel_rfl
  i171 := by kernel_rfl
  i173 := by kernel_rfl
  i212 := by kernel_rfl
  i232 := by kernel_rfl
  i233 := by kernel_rfl
  m17 := by kernel_rfl
  m18 := by kernel_rfl
  m19 := by kernel_rfl }
open Go.RowKit Go.Sort Go.Lib in
/-- strconv.Itoa: "Itoa is equivalent to FormatInt(int64(i), 10).": i's DECIMAL NUMERAL ('Lib.itoa': a '-' where i is negative, then the digits), FOR EVERY int. The world behind the call: the world before it, new blocks behind the heap (the library's 'var a [24]byte'), draws. (LAID: no walk: one application.) -/
theorem Tryz.strconv_Itoa (n : Int) (h0 : -9223372036854775808 ≤ n) (h1 : n ≤ 9223372036854775807) (w : World) (htab : Lib.TabIs Tryz.prog w "internal/strconv.uint64pow10" .u64 Lib.pow10Tab) :
    Calls Tryz.prog 128 #[.int .i64 n] w fun e w' => e = .returned (.string ⟨(Lib.itoa n).toArray⟩) ∧ ∃ k os, w' = grow (w.drewN k) os := Any.strconv_Itoa Tryz.laysM171 n h0 h1 w htab
def Tryz.lays190_ren : Go.Shelf.Ren := ⟨fun | 190 => 79 | 125 => 136 | 258 => 135 | 128 => 185 | 129 => 186 | 302 => 177 | 303 => 178 | 304 => 179 | 305 => 180 | 306 => 181 | 307 => 182 | 308 => 171 | 309 => 183 | 310 => 184 | 333 => 226 | 329 => 227 | 330 => 228 | 334 => 229 | 335 => 230 | 336 => 217 | 344 => 271 | n => n, fun | 31 => 28 | 9 => 9 | 3 => 3 | 46 => 128 | 0 => 0 | 51 => 277 | 53 => 249 | 4 => 4 | 183 => 271 | 182 => 270 | 131 => 215 | 5 => 5 | 218 => 315 | 222 => 319 | 228 => 351 | 229 => 111 | n => n, fun | n => n⟩
theorem Tryz.lays190 : Go.Proofs.Lays.n190 Tryz.prog Tryz.lays190_ren := {
  mixed := by kernel_rfl
  f125 := Tryz.func136.trans (congrArg some (by kernel_rfl))
  f128 := Tryz.func185.trans (congrArg some (by kernel_rfl))
  f129 := Tryz.func186.trans (congrArg some (by kernel_rfl))
  f190 := Tryz.func79.trans (congrArg some (by kernel_rfl))
  f258 := Tryz.func135.trans (congrArg some (by kernel_rfl))
  f302 := Tryz.func177.trans (congrArg some (by kernel_rfl))
  f303 := Tryz.func178.trans (congrArg some (by kernel_rfl))
  f304 := Tryz.func179.trans (congrArg some (by kernel_rfl))
  f305 := Tryz.func180.trans (congrArg some (by kernel_rfl))
  f306 := Tryz.func181.trans (congrArg some (by kernel_rfl))
  f307 := Tryz.func182.trans (congrArg some (by kernel_rfl))
  f308 := Tryz.func171.trans (congrArg some (by kernel_rfl))
  f309 := Tryz.func183.trans (congrArg some (by kernel_rfl))
  f310 := Tryz.func184.trans (congrArg some (by kernel_rfl))
  f329 := Tryz.func227.trans (congrArg some (by kernel_rfl))
  f330 := Tryz.func228.trans (congrArg some (by kernel_rfl))
  f333 := Tryz.func226.trans (congrArg some (by kernel_rfl))
  f334 := Tryz.func229.trans (congrArg some (by kernel_rfl))
  f335 := Tryz.func230.trans (congrArg some (by kernel_rfl))
  f336 := Tryz.func217.trans (congrArg some (by kernel_rfl))
  f344 := Tryz.func271.trans (congrArg some (by kernel_rfl))
  t0 := Tryz.underlying0
  a0 := Tryz.isAgg0
  z0 := Tryz.sizeOf0
  v0 := Tryz.zeroValue0
  t3 := Tryz.underlying3
  a3 := Tryz.isAgg3
  z3 := Tryz.sizeOf3
  v3 := Tryz.zeroValue3
  t4 := Tryz.underlying4
  a4 := Tryz.isAgg4
  z4 := Tryz.sizeOf4
  v4 := Tryz.zeroValue4
  t5 := Tryz.underlying5
  a5 := Tryz.isAgg5
  z5 := Tryz.sizeOf5
  v5 := Tryz.zeroValue5
  t9 := Tryz.underlying9
  a9 := Tryz.isAgg9
  z9 := Tryz.sizeOf9
  v9 := Tryz.zeroValue9
  t31 := Tryz.underlying28
  a31 := Tryz.isAgg28
  z31 := Tryz.sizeOf28
  v31 := Tryz.zeroValue28
  t46 := Tryz.underlying128
  a46 := Tryz.isAgg128
  z46 := Tryz.sizeOf128
  v46 := Tryz.zeroValue128
  t51 := Tryz.underlying277
  a51 := Tryz.isAgg277
  z51 := Tryz.sizeOf277
  v51 := Tryz.zeroValue277
  t53 := Tryz.underlying249
  a53 := Tryz.isAgg249
  z53 := Tryz.sizeOf249
  v53 := Tryz.zeroValue249
  t131 := Tryz.underlying215
  a131 := Tryz.isAgg215
  z131 := Tryz.sizeOf215
  v131 := Tryz.zeroValue215
  t182 := Tryz.underlying270
  a182 := Tryz.isAgg270
  z182 := Tryz.sizeOf270
  v182 := Tryz.zeroValue270
  t183 := Tryz.underlying271
  a183 := Tryz.isAgg271
  z183 := Tryz.sizeOf271
  v183 := Tryz.zeroValue271
  t218 := Tryz.underlying315
  a218 := Tryz.isAgg315
  z218 := Tryz.sizeOf315
  v218 := Tryz.zeroValue315
  t222 := Tryz.underlying319
  a222 := Tryz.isAgg319
  z222 := Tryz.sizeOf319
  v222 := Tryz.zeroValue319
  t228 := Tryz.underlying351
  a228 := Tryz.isAgg351
  z228 := Tryz.sizeOf351
  v228 := Tryz.zeroValue351
  t229 := Tryz.underlying111
  a229 := Tryz.isAgg111
  z229 := Tryz.sizeOf111
  v229 := Tryz.zeroValue111 }
open Go.Sort Go.RowKit in
theorem Tryz.slices_Sort_string (blk off cap : Nat) (ss : List (List UInt8)) (w : World) (hH : Holds encStr w blk off ss.toArray) (hblk : blk < w.heap.size) (hsz : ss.length < 4611686018427387904) :
    Calls Tryz.prog 79 #[.slice (some ⟨blk, off, none⟩) ss.length cap] w fun e w' =>
      e = .returned (.tuple #[]) ∧ ∃ n os, w' = grow (putRow encStr (Sort.ahead w n) blk off (ss.mergeSort fun x y => decide (x ≤ y)).toArray) os := Any.slices_Sort_string Tryz.lays190 blk off cap ss w hH hblk hsz
def Tryz.lays193_ren : Go.Shelf.Ren := ⟨fun | 193 => 64 | n => n, fun | 31 => 28 | 9 => 9 | 4 => 4 | 3 => 3 | 0 => 0 | n => n, fun | n => n⟩
theorem Tryz.lays193 : Go.Proofs.Lays.n193 Tryz.prog Tryz.lays193_ren := {
  mixed := by kernel_rfl
  f193 := Tryz.func64.trans (congrArg some (by kernel_rfl))
  t0 := Tryz.underlying0
  a0 := Tryz.isAgg0
  z0 := Tryz.sizeOf0
  v0 := Tryz.zeroValue0
  t3 := Tryz.underlying3
  a3 := Tryz.isAgg3
  z3 := Tryz.sizeOf3
  v3 := Tryz.zeroValue3
  t4 := Tryz.underlying4
  a4 := Tryz.isAgg4
  z4 := Tryz.sizeOf4
  v4 := Tryz.zeroValue4
  t9 := Tryz.underlying9
  a9 := Tryz.isAgg9
  z9 := Tryz.sizeOf9
  v9 := Tryz.zeroValue9
  t31 := Tryz.underlying28
  a31 := Tryz.isAgg28
  z31 := Tryz.sizeOf28
  v31 := Tryz.zeroValue28 }
open Go.RowKit Go.Lib in
/-- slices.Equal at []string: "Equal reports whether two slices are equal: the same length and all elements equal. If the lengths are different, Equal returns false. Otherwise, the elements are compared in increasing index order, and the comparison stops at the first unequal pair. Empty and nil slices are considered equal.": IT RETURNS WHETHER THE TWO LISTS OF ELEMENTS ARE ONE; the world is as it was but for the count of draws (the test 's1[i] != s2[i]' has two reads, whose order the model draws, once a round). 'xs', 'ys': what the cells behind the two addresses hold (the spare capacity too, if you have it); 'xs.take n', 'ys.take m': the elements. THE TWO SLICES MAY OVERLAP. (LAID: no walk: one application.) -/
theorem Tryz.slices_Equal_string (b1 o1 n c b2 o2 m d : Nat) (xs ys : List ByteArray) (w : World) (hx : n ≤ xs.length) (hy : m ≤ ys.length) (hbig : n ≤ 9223372036854775807) (hbig2 : m ≤ 9223372036854775807) (hc1 : ∀ j, j < xs.length → w.cell? ⟨b1, o1 + j, none⟩ = some (.string (xs.getD j ByteArray.empty))) (hc2 : ∀ j, j < ys.length → w.cell? ⟨b2, o2 + j, none⟩ = some (.string (ys.getD j ByteArray.empty))) :
    Calls Tryz.prog 64 #[.slice (some ⟨b1, o1, none⟩) n c, .slice (some ⟨b2, o2, none⟩) m d] w fun e w' => e = .returned (.bool (decide (xs.take n = ys.take m))) ∧ ∃ q, w' = w.drewN q := Any.slices_Equal_string Tryz.lays193 b1 o1 n c b2 o2 m d xs ys w hx hy hbig hbig2 hc1 hc2
open Go.RowKit Go.Lib in
/-- The same where the first is of length 0 (a nil one too): no cell is asked for. (LAID: no walk: one application.) -/
theorem Tryz.slices_Equal_string_empty (a1 a2 : Option Addr) (c m d : Nat) (w : World) (hbig2 : m ≤ 9223372036854775807) :
    Calls Tryz.prog 64 #[.slice a1 0 c, .slice a2 m d] w fun e w' => e = .returned (.bool (decide (m = 0))) ∧ w' = w := Any.slices_Equal_string_empty Tryz.lays193 a1 a2 c m d w hbig2
end Go.Proofs
