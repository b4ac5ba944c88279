/- utf8.AppendRune onto a row of bytes, Builder.String, strconv.ParseInt, strings.IndexFunc: their contracts, as the kit's shelf lays them for this seat (lay-plain.mjs), trimmed to what is used. -/
import Derived.Shelf.LaysM
import Derived.Shelf.Utf8.AppendRunePlain
import Derived.Shelf.Strings.Builder1
import Derived.Shelf.Strconv.ErrVarParseInt
import Derived.Shelf.Strconv.ParseIntPublic10
import Derived.Shelf.GgClosure.StringsIndexFuncTop
import Derived.Shelf.GgClosure.StringsRunes
import Derived.Test.YtagchljgmjmlcaaGreatDoorProg
namespace Go.Proofs
open Go.Shelf

def Tryz.lays169_ren : Go.Shelf.Ren := ⟨fun | 169 => 81 | n => n, fun | 70 => 169 | 9 => 9 | 0 => 0 | 72 => 171 | 37 => 148 | 127 => 206 | 3 => 3 | 5 => 5 | n => n, fun | n => n⟩
theorem Tryz.lays169 : Go.Proofs.Lays.n169 Tryz.prog Tryz.lays169_ren := {
 mixed := by kernel_rfl
 f169 := Tryz.func81.trans (congrArg some (by kernel_rfl))
 t0 := Tryz.underlying0
 a0 := Tryz.isAgg0
 z0 := Tryz.sizeOf0
 v0 := Tryz.zeroValue0
 t3 := Tryz.underlying3
 a3 := Tryz.isAgg3
 z3 := Tryz.sizeOf3
 v3 := Tryz.zeroValue3
 t9 := Tryz.underlying9
 a9 := Tryz.isAgg9
 z9 := Tryz.sizeOf9
 v9 := Tryz.zeroValue9
 t37 := Tryz.underlying148
 a37 := Tryz.isAgg148
 z37 := Tryz.sizeOf148
 v37 := Tryz.zeroValue148
 t70 := Tryz.underlying169
 a70 := Tryz.isAgg169
 z70 := Tryz.sizeOf169
 v70 := Tryz.zeroValue169
 t72 := Tryz.underlying171
 a72 := Tryz.isAgg171
 z72 := Tryz.sizeOf171
 v72 := Tryz.zeroValue171
 t127 := Tryz.underlying206
 a127 := Tryz.isAgg206
 z127 := Tryz.sizeOf206
 v127 := Tryz.zeroValue206 }
theorem Tryz.Builder_Extra_169 : Builder.Extra Tryz.prog Tryz.lays169_ren := {
 sizeBuilder := by kernel_rfl
 liesBuilder := by kernel_rfl
 t5 := Tryz.underlying5
 a5 := Tryz.isAgg5
 z5 := Tryz.sizeOf5
 v5 := Tryz.zeroValue5
 infoByte := by kernel_rfl
 cellsByte := by kernel_rfl
 sizeByte := by kernel_rfl
 neB5 := by decide }
open Go.RowKit in
/-- (*strings.Builder).String: "String returns the accumulated string.": OF A BUILDER THAT HOLDS AT LEAST ONE BYTE. ✋ THE MODEL FREEZES THOSE BYTES IN THE BUFFER (unsafe.String): a later write INTO them ends the model's run without an answer; a later append BEHIND them goes on. The statement's order of evaluation is drawn: one draw. (LAID: no walk: one application.) -/
theorem Tryz.Builder_String (B b : Nat) (l : List UInt8) (w : World) (h : Lib.IsBuilder 171 5 B b (Lib.byteCells l) w) (h0 : l ≠ []) :
    Calls Tryz.prog 81 #[.pointer (some ⟨b, 0, none⟩)] w fun e w' => e = .returned (.string ⟨l.toArray⟩) ∧ Below B w w' := Any.Builder_String Tryz.lays169 Tryz.Builder_Extra_169 B b l w h h0
open Go.RowKit in
/-- (*strings.Builder).String: "String returns the accumulated string.": WHATEVER THE BUILDER HOLDS. (LAID: no walk: one application.) -/
theorem Tryz.Builder_String_any (B b : Nat) (l : List UInt8) (w : World) (h : Lib.IsBuilder 171 5 B b (Lib.byteCells l) w) (hBw : B ≤ w.heap.size) :
    Calls Tryz.prog 81 #[.pointer (some ⟨b, 0, none⟩)] w fun e w' => e = .returned (.string ⟨l.toArray⟩) ∧ Below B w w' := Any.Builder_String_any Tryz.lays169 Tryz.Builder_Extra_169 B b l w h hBw
def Tryz.lays242_ren : Go.Shelf.Ren := ⟨fun | 242 => 194 | 278 => 207 | n => n, fun | 37 => 148 | 21 => 21 | 51 => 299 | 4 => 4 | 5 => 5 | 46 => 273 | n => n, fun | n => n⟩
theorem Tryz.lays242 : Go.Proofs.Lays.n242 Tryz.prog Tryz.lays242_ren := {
 mixed := by kernel_rfl
 f242 := Tryz.func194.trans (congrArg some (by kernel_rfl))
 f278 := Tryz.func207.trans (congrArg some (by kernel_rfl))
 t4 := Tryz.underlying4
 a4 := Tryz.isAgg4
 z4 := Tryz.sizeOf4
 v4 := Tryz.zeroValue4
 t5 := Tryz.underlying5
 a5 := Tryz.isAgg5
 z5 := Tryz.sizeOf5
 v5 := Tryz.zeroValue5
 t21 := Tryz.underlying21
 a21 := Tryz.isAgg21
 z21 := Tryz.sizeOf21
 v21 := Tryz.zeroValue21
 t37 := Tryz.underlying148
 a37 := Tryz.isAgg148
 z37 := Tryz.sizeOf148
 v37 := Tryz.zeroValue148
 t46 := Tryz.underlying273
 a46 := Tryz.isAgg273
 z46 := Tryz.sizeOf273
 v46 := Tryz.zeroValue273
 t51 := Tryz.underlying299
 a51 := Tryz.isAgg299
 z51 := Tryz.sizeOf299
 v51 := Tryz.zeroValue299 }
open Go.RowKit in
/-- unicode/utf8.AppendRune: "AppendRune appends the UTF-8 encoding of r to the end of p and returns the extended buffer. If the rune is out of range, it appends the encoding of RuneError.": ONTO A ROW OF BYTES THAT THE CALL OWNS (its head frozen or not): EVERY int32: 'Lib.runeCells r' goes in behind what the row holds; the world: one new block (the bytes as the call's variadic argument), then what 'append' does to the row. (LAID: no walk: one application.) -/
theorem Tryz.utf8_AppendRune_plain (B : Nat) (v : Value) (n : Nat) (xs : List Value) (r : Int) (hr0 : -2147483648 ≤ r) (hr1 : r ≤ 2147483647) (w : World) (hown : w.ownsRow B 5 1 v n xs) (hlen : n + 4 ≤ 140737488355328) (hBw : B ≤ w.heap.size) :
    Calls Tryz.prog 194 #[v, .int .i32 r] w fun e w' => ∃ v', e = .returned v' ∧ w'.ownsRow B 5 1 v' (n + (Lib.runeCells r).length) (xs ++ Lib.runeCells r) ∧ ∃ o, (w.alloc o).grownBy w' v.ownBlock := Any.utf8_AppendRune_plain Tryz.lays242 (by kernel_rfl) B v n xs r hr0 hr1 w hown hlen hBw
def Tryz.laysC174_ren : Go.Shelf.Ren := ⟨fun | 174 => 132 | 247 => 157 | 245 => 158 | 287 => 174 | 279 => 175 | 280 => 176 | 281 => 177 | 282 => 178 | 321 => 196 | 322 => 197 | 316 => 198 | 171 => 200 | 205 => 199 | 243 => 208 | 246 => 220 | 283 => 227 | 284 => 228 | 285 => 229 | 286 => 230 | 129 => 219 | 317 => 232 | 318 => 233 | 319 => 234 | 320 => 235 | 337 => 236 | 338 => 237 | n => n, fun | 9 => 9 | 3 => 3 | 2 => 2 | 75 => 174 | 85 => 226 | 4 => 4 | 167 => 269 | 5 => 5 | 53 => 270 | 175 => 271 | 46 => 273 | 168 => 274 | 37 => 148 | 0 => 0 | 210 => 291 | 21 => 21 | 127 => 206 | 145 => 302 | 143 => 300 | 171 => 320 | 173 => 322 | 212 => 326 | 51 => 299 | 20 => 20 | 213 => 327 | 232 => 328 | 233 => 329 | 80 => 121 | n => n, fun | 15 => 4 | 16 => 5 | 17 => 6 | 18 => 7 | 19 => 8 | n => n⟩
theorem Tryz.laysC174 : Go.Proofs.LaysC.n174 Tryz.prog Tryz.laysC174_ren := {
 mixed := by kernel_rfl
 f129 := Tryz.func219.trans (congrArg some (by kernel_rfl))
 f171 := Tryz.func200.trans (congrArg some (by kernel_rfl))
 f174 := Tryz.func132.trans (congrArg some (by kernel_rfl))
 f205 := Tryz.func199.trans (congrArg some (by kernel_rfl))
 f243 := Tryz.func208.trans (congrArg some (by kernel_rfl))
 f245 := Tryz.func158.trans (congrArg some (by kernel_rfl))
 f246 := Tryz.func220.trans (congrArg some (by kernel_rfl))
 f247 := Tryz.func157.trans (congrArg some (by kernel_rfl))
 f279 := Tryz.func175.trans (congrArg some (by kernel_rfl))
 f280 := Tryz.func176.trans (congrArg some (by kernel_rfl))
 f281 := Tryz.func177.trans (congrArg some (by kernel_rfl))
 f282 := Tryz.func178.trans (congrArg some (by kernel_rfl))
 f283 := Tryz.func227.trans (congrArg some (by kernel_rfl))
 f284 := Tryz.func228.trans (congrArg some (by kernel_rfl))
 f285 := Tryz.func229.trans (congrArg some (by kernel_rfl))
 f286 := Tryz.func230.trans (congrArg some (by kernel_rfl))
 f287 := Tryz.func174.trans (congrArg some (by kernel_rfl))
 f316 := Tryz.func198.trans (congrArg some (by kernel_rfl))
 f317 := Tryz.func232.trans (congrArg some (by kernel_rfl))
 f318 := Tryz.func233.trans (congrArg some (by kernel_rfl))
 f319 := Tryz.func234.trans (congrArg some (by kernel_rfl))
 f320 := Tryz.func235.trans (congrArg some (by kernel_rfl))
 f321 := Tryz.func196.trans (congrArg some (by kernel_rfl))
 f322 := Tryz.func197.trans (congrArg some (by kernel_rfl))
 f337 := Tryz.func236.trans (congrArg some (by kernel_rfl))
 f338 := Tryz.func237.trans (congrArg some (by kernel_rfl))
 t0 := Tryz.underlying0
 a0 := Tryz.isAgg0
 z0 := Tryz.sizeOf0
 v0 := Tryz.zeroValue0
 t2 := Tryz.underlying2
 a2 := Tryz.isAgg2
 z2 := Tryz.sizeOf2
 v2 := Tryz.zeroValue2
 t3 := Tryz.underlying3
 a3 := Tryz.isAgg3
 z3 := Tryz.sizeOf3
 v3 := Tryz.zeroValue3
 t4 := Tryz.underlying4
 a4 := Tryz.isAgg4
 z4 := Tryz.sizeOf4
 v4 := Tryz.zeroValue4
 t5 := Tryz.underlying5
 a5 := Tryz.isAgg5
 z5 := Tryz.sizeOf5
 v5 := Tryz.zeroValue5
 t9 := Tryz.underlying9
 a9 := Tryz.isAgg9
 z9 := Tryz.sizeOf9
 v9 := Tryz.zeroValue9
 t20 := Tryz.underlying20
 a20 := Tryz.isAgg20
 z20 := Tryz.sizeOf20
 v20 := Tryz.zeroValue20
 t21 := Tryz.underlying21
 a21 := Tryz.isAgg21
 z21 := Tryz.sizeOf21
 v21 := Tryz.zeroValue21
 t37 := Tryz.underlying148
 a37 := Tryz.isAgg148
 z37 := Tryz.sizeOf148
 v37 := Tryz.zeroValue148
 t46 := Tryz.underlying273
 a46 := Tryz.isAgg273
 z46 := Tryz.sizeOf273
 v46 := Tryz.zeroValue273
 t51 := Tryz.underlying299
 a51 := Tryz.isAgg299
 z51 := Tryz.sizeOf299
 v51 := Tryz.zeroValue299
 t53 := Tryz.underlying270
 a53 := Tryz.isAgg270
 z53 := Tryz.sizeOf270
 v53 := Tryz.zeroValue270
 t75 := Tryz.underlying174
 a75 := Tryz.isAgg174
 z75 := Tryz.sizeOf174
 v75 := Tryz.zeroValue174
 t85 := Tryz.underlying226
 a85 := Tryz.isAgg226
 z85 := Tryz.sizeOf226
 v85 := Tryz.zeroValue226
 t127 := Tryz.underlying206
 a127 := Tryz.isAgg206
 z127 := Tryz.sizeOf206
 v127 := Tryz.zeroValue206
 t143 := Tryz.underlying300
 a143 := Tryz.isAgg300
 z143 := Tryz.sizeOf300
 v143 := Tryz.zeroValue300
 t145 := Tryz.underlying302
 a145 := Tryz.isAgg302
 z145 := Tryz.sizeOf302
 v145 := Tryz.zeroValue302
 t167 := Tryz.underlying269
 a167 := Tryz.isAgg269
 z167 := Tryz.sizeOf269
 v167 := Tryz.zeroValue269
 t168 := Tryz.underlying274
 a168 := Tryz.isAgg274
 z168 := Tryz.sizeOf274
 v168 := Tryz.zeroValue274
 t171 := Tryz.underlying320
 a171 := Tryz.isAgg320
 z171 := Tryz.sizeOf320
 v171 := Tryz.zeroValue320
 t173 := Tryz.underlying322
 a173 := Tryz.isAgg322
 z173 := Tryz.sizeOf322
 v173 := Tryz.zeroValue322
 t175 := Tryz.underlying271
 a175 := Tryz.isAgg271
 z175 := Tryz.sizeOf271
 v175 := Tryz.zeroValue271
 t210 := Tryz.underlying291
 a210 := Tryz.isAgg291
 z210 := Tryz.sizeOf291
 v210 := Tryz.zeroValue291
 t212 := Tryz.underlying326
 a212 := Tryz.isAgg326
 z212 := Tryz.sizeOf326
 v212 := Tryz.zeroValue326
 t213 := Tryz.underlying327
 a213 := Tryz.isAgg327
 z213 := Tryz.sizeOf327
 t232 := Tryz.underlying328
 a232 := Tryz.isAgg328
 z232 := Tryz.sizeOf328
 v232 := Tryz.zeroValue328
 t233 := Tryz.underlying329
 a233 := Tryz.isAgg329
 z233 := Tryz.sizeOf329
 v233 := Tryz.zeroValue329
 g15 := by kernel_rfl
 g16 := by kernel_rfl
 g17 := by kernel_rfl
 g18 := by kernel_rfl
 g19 := by kernel_rfl
 t80 := Tryz.underlying121
 a80 := Tryz.isAgg121
 z80 := Tryz.sizeOf121
 v80 := Tryz.zeroValue121
 i0 := by kernel_rfl
 i2 := by kernel_rfl
 i3 := by kernel_rfl
 i4 := by kernel_rfl
 i5 := by kernel_rfl
 i9 := by kernel_rfl
 i20 := by kernel_rfl
 i21 := by kernel_rfl
 i37 := by kernel_rfl
 i46 := by kernel_rfl
 i51 := by kernel_rfl
 i53 := by kernel_rfl
 i75 := by kernel_rfl
 i80 := by kernel_rfl
 i85 := by kernel_rfl
 i127 := by kernel_rfl
 i143 := by kernel_rfl
 i145 := by kernel_rfl
 i167 := by kernel_rfl
 i168 := by kernel_rfl
 i171 := by kernel_rfl
 i173 := by kernel_rfl
 i175 := by kernel_rfl
 i210 := by kernel_rfl
 i212 := by kernel_rfl
 i232 := by kernel_rfl
 i233 := by kernel_rfl
 m15 := by kernel_rfl
 m16 := by kernel_rfl
 m17 := by kernel_rfl
 m18 := by kernel_rfl
 m19 := by kernel_rfl
 c0 := by kernel_rfl
 c2 := by kernel_rfl
 c3 := by kernel_rfl
 c4 := by kernel_rfl
 c5 := by kernel_rfl
 c9 := by kernel_rfl
 c20 := by kernel_rfl
 c21 := by kernel_rfl
 c37 := by kernel_rfl
 c46 := by kernel_rfl
 c51 := by kernel_rfl
 c53 := by kernel_rfl
 c75 := by kernel_rfl
 c80 := by kernel_rfl
 c85 := by kernel_rfl
 c127 := by kernel_rfl
 c143 := by kernel_rfl
 c145 := by kernel_rfl
 c167 := by kernel_rfl
 c168 := by kernel_rfl
 c171 := by kernel_rfl
 c173 := by kernel_rfl
 c175 := by kernel_rfl
 c210 := by kernel_rfl
 c212 := by kernel_rfl
 c213 := by kernel_rfl
 c232 := by kernel_rfl
 c233 := by kernel_rfl }
open Go.RowKit in
/-- strconv.ParseInt(s, 10, 64), AT EVERY STRING THAT SPELLS AN int64 ('Lib.parseIntB 64 s.data.toList = .ok v'): v, AND NO ERROR. (LAID: no walk: one application.) -/
theorem Tryz.strconv_ParseInt_10_at64_ok (s : ByteArray) (hmax : s.size ≤ 9223372036854775806) (v : Int) (h : Lib.parseIntB 64 s.data.toList = .ok v) (w : World) :
    Calls Tryz.prog 132 #[.string s, .int .i64 10, .int .i64 64] w fun e w' => e = .returned (.tuple #[.int .i64 v, .nilIface]) ∧ (w' = w ∨ ∃ t, w' = Lib.bytesWorld w 5 t) := Any.strconv_ParseInt_10_at64_ok Tryz.laysC174 s hmax v h w
open Go.RowKit in
def Tryz.laysGw15_ren : Go.Shelf.Ren := ⟨fun | 15 => 130 | 20 => 156 | n => n, fun | 9 => 9 | 23 => 166 | 3 => 3 | 4 => 4 | 0 => 0 | 21 => 21 | n => n, fun | n => n⟩
theorem Tryz.laysGw15 : Go.Proofs.LaysGw.n15 Tryz.prog Tryz.laysGw15_ren := {
 mixed := by kernel_rfl
 f15 := Tryz.func130.trans (congrArg some (by kernel_rfl))
 f20 := Tryz.func156.trans (congrArg some (by kernel_rfl))
 t0 := Tryz.underlying0
 a0 := Tryz.isAgg0
 z0 := Tryz.sizeOf0
 v0 := Tryz.zeroValue0
 i0 := by kernel_rfl
 t3 := Tryz.underlying3
 a3 := Tryz.isAgg3
 z3 := Tryz.sizeOf3
 v3 := Tryz.zeroValue3
 i3 := by kernel_rfl
 t4 := Tryz.underlying4
 a4 := Tryz.isAgg4
 z4 := Tryz.sizeOf4
 v4 := Tryz.zeroValue4
 i4 := by kernel_rfl
 t9 := Tryz.underlying9
 a9 := Tryz.isAgg9
 z9 := Tryz.sizeOf9
 v9 := Tryz.zeroValue9
 i9 := by kernel_rfl
 t21 := Tryz.underlying21
 a21 := Tryz.isAgg21
 z21 := Tryz.sizeOf21
 v21 := Tryz.zeroValue21
 i21 := by kernel_rfl
 t23 := Tryz.underlying166
 a23 := Tryz.isAgg166
 z23 := Tryz.sizeOf166
 v23 := Tryz.zeroValue166
 i23 := by kernel_rfl }
open Go.RowKit Go.Lib in
theorem Tryz.strings_IndexFunc_runes (g : Nat) (lb : Array Value) (eg : ∀ args w, (callFunc g args).run Tryz.prog w = .ok (.enter g args) w) (p : Nat → Bool) (s : ByteArray) (w : World) (hp : PredAtRunes Tryz.prog g lb p w) :
    Calls Tryz.prog 130 #[.string s, .func (.func g) #[] lb] w fun e w' => e = .returned (.int .i64 (Lib.idxFunc p true s)) ∧ Below w.heap.size w w' := Any.strings_IndexFunc_runes Tryz.laysGw15 g lb eg p s w hp

end Go.Proofs
