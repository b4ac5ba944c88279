/- Texts of the proof, one behind the other: Su. -/
import Derived.Shelf.LaysM
import Derived.Shelf.Utf8.AppendRunePlain
import Derived.Shelf.Strings.Builder1
import Derived.Shelf.Strconv.ErrVarParseInt
import Derived.Shelf.Strconv.ParseIntPublic10
import Derived.Shelf.GgClosure.StringsIndexFuncTop
import Derived.Shelf.GgClosure.StringsRunes
import Derived.Test.YtfaapkpebnagmaaGreatDoorProg
namespace Go.Proofs
open Go.Shelf
set_option linter.unusedVariables false
set_option maxRecDepth 100000
set_option maxHeartbeats 400000000
def Tryz.lays169_ren : Go.Shelf.Ren := ⟨fun | 169 => 306 | n => n,fun | 70 => 395 | 9 => 9 | 0 => 0 | 72 => 397 | 37 => 318 | 127 => 437 | 3 => 3 | 5 => 5 | n => n,fun | n => n⟩
theorem Tryz.lays169 : Go.Proofs.Lays.n169 Tryz.prog Tryz.lays169_ren := {
 mixed := by kernel_rfl
 f169 := Tryz.func306.trans (congrArg some (by kernel_rfl))
 t0 := Tryz.underlying0
 a0 := Tryz.isAgg0
 z0 := Tryz.sizeOf0
 v0 := Tryz.zeroValue0
 t3 := Tryz.underlying3
 a3 := Tryz.isAgg3
 z3 := Tryz.sizeOf3
 v3 := Tryz.zeroValue3
 t9 := Tryz.underlying9
 a9 := Tryz.isAgg9
 z9 := Tryz.sizeOf9
 v9 := Tryz.zeroValue9
 t37 := Tryz.underlying318
 a37 := Tryz.isAgg318
 z37 := Tryz.sizeOf318
 v37 := Tryz.zeroValue318
 t70 := Tryz.underlying395
 a70 := Tryz.isAgg395
 z70 := Tryz.sizeOf395
 v70 := Tryz.zeroValue395
 t72 := Tryz.underlying397
 a72 := Tryz.isAgg397
 z72 := Tryz.sizeOf397
 v72 := Tryz.zeroValue397
 t127 := Tryz.underlying437
 a127 := Tryz.isAgg437
 z127 := Tryz.sizeOf437
 v127 := Tryz.zeroValue437 }
theorem Tryz.Builder_Extra_169 : Builder.Extra Tryz.prog Tryz.lays169_ren := {
 sizeBuilder := by kernel_rfl
 liesBuilder := by kernel_rfl
 t5 := Tryz.underlying5
 a5 := Tryz.isAgg5
 z5 := Tryz.sizeOf5
 v5 := Tryz.zeroValue5
 infoByte := by kernel_rfl
 cellsByte := by kernel_rfl
 sizeByte := by kernel_rfl
 neB5 := by decide }
open Go.RowKit in
theorem Tryz.Builder_String (B b : Nat) (l : List UInt8) (w : World) (h : Lib.IsBuilder 397 5 B b (Lib.byteCells l) w) (h0 : l ≠ []) :
    Calls Tryz.prog 306 #[.pointer (some ⟨b,0,none⟩)] w fun e w' => e = .returned (.string ⟨l.toArray⟩) ∧ Below B w w' := Any.Builder_String Tryz.lays169 Tryz.Builder_Extra_169 B b l w h h0
end Go.Proofs
