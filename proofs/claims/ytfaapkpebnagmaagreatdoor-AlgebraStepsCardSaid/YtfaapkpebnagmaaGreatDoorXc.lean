/- Texts of the proof, one behind the other: Sf. -/
import Derived.Test.YtfaapkpebnagmaaGreatDoorProg
import Derived.Lib.Strings
import Derived.Lib.Slices
import Derived.Lib.Walk
import Derived.Lib.Small
import Derived.Lib.Bytealg
import Derived.Lib.SlicesS
namespace Go.Proofs.YtfaapkpebnagmaaGreatDoor
open _root_.Go.Proofs.Tryz
set_option linter.unusedVariables false
set_option maxRecDepth 100000
set_option maxHeartbeats 400000000
theorem Tryz.strings_HasPrefix (s p : ByteArray) (w : World) :
    Calls prog 145 #[.string s,.string p] w fun e w' => e = .returned (.bool (Lib.hasPrefix s.data.toList p.data.toList)) ∧ w' = w := by
 rw [← Lib.hasPrefix_of_take,← Lib.size_eq,← Lib.size_eq];go_enter func145,ntmps145;go_wp2
 · rename_i h;go_ret;refine ⟨?_,rfl⟩;show Ending.returned (Value.bool ((s.extract 0 p.size).toList == p.toList)) = _;rw [Lib.extract_toList,Lib.toList_data];simp [h]
 · rename_i h;go_ret;refine ⟨?_,rfl⟩;show Ending.returned (Value.bool false) = _;simp [h]
theorem Tryz.utf8_ValidRune (r : Int) (w : World) :
    Calls prog 207 #[.int .i32 r] w fun e w' => e = .returned (.bool (Lib.validRune r)) ∧ w' = w := by
 go_enter func207,ntmps207;go_wp2
 all_goals (go_ret; refine ⟨?_,rfl⟩; unfold Lib.validRune; first | (rw [decide_eq_true (by omega)]; rfl) | (rw [decide_eq_false (by omega)]; rfl))
theorem Tryz.stringslite_IndexByte (s : ByteArray) (c : Int) (w : World) :
    Calls prog 356 #[.string s,.int .u8 c] w fun e w' => e = .returned (.int .i64 (Lib.indexByte s.data.toList c.toNat.toUInt8)) ∧ w' = w := by
 go_enter func356,ntmps356;go_wp2;rw [run_callFunc_extern func370 (by kernel_rfl) (by kernel_rfl) (by kernel_rfl) (e := Extern.BytealgIndexByte.indexByte) (by kernel_rfl),Lib.run_indexByteString];simp only [Result.andThen];rw [Oper.upon_value];go_wp2;go_ret;exact ⟨rfl,rfl⟩
theorem Tryz.strings_IndexByte (s : ByteArray) (c : Int) (w : World) :
    Calls prog 415 #[.string s,.int .u8 c] w fun e w' => e = .returned (.int .i64 (Lib.indexByte s.data.toList c.toNat.toUInt8)) ∧ w' = w := by
 go_enter func415,ntmps415;go_wp2_with (go_at_call 356; refine (Tryz.stringslite_IndexByte _ _ _).mono ?_; rintro e w' ⟨rfl,rfl⟩);go_ret;exact ⟨rfl,rfl⟩
theorem Tryz.stringslite_Index_one (s : ByteArray) (c : UInt8) (w : World) :
    Calls prog 334 #[.string s,.string ⟨#[c]⟩] w fun e w' => e = .returned (.int .i64 (Lib.indexByte s.data.toList c)) ∧ w' = w := by
 go_enter func334,ntmps334;go_wp2_with (go_at_call 356; refine (Tryz.stringslite_IndexByte _ _ _).mono ?_; rintro e w' ⟨rfl,rfl⟩)
 · have h : ([c] == s.toList) = true := by assumption
   go_ret;refine ⟨?_,rfl⟩;have e : s.data.toList = [c] := by rw [← Lib.toList_data]; exact (beq_iff_eq.1 h).symm
   rw [e];simp [Lib.indexByte]
 · go_ret;exact ⟨rfl,rfl⟩
theorem Tryz.strings_Index_one (s : ByteArray) (c : UInt8) (w : World) :
    Calls prog 297 #[.string s,.string ⟨#[c]⟩] w fun e w' => e = .returned (.int .i64 (Lib.indexByte s.data.toList c)) ∧ w' = w := by
 go_enter func297,ntmps297;go_wp2_with (go_at_call 334; refine (Tryz.stringslite_Index_one _ _ _).mono ?_; rintro e w' ⟨rfl,rfl⟩);go_ret;exact ⟨rfl,rfl⟩
theorem Tryz.strings_Count_one (s : ByteArray) (c : UInt8) (w : World) :
    Calls prog 426 #[.string s,.string ⟨#[c]⟩] w fun e w' => e = .returned (.int .i64 (Lib.countByte s.data.toList c)) ∧ w' = w := by
 go_enter func426,ntmps426;go_wp2;rw [run_callFunc_extern func429 (by kernel_rfl) (by kernel_rfl) (by kernel_rfl) (e := Extern.BytealgCount.count) (by kernel_rfl),Lib.run_countString];simp only [Result.andThen];rw [Oper.upon_value];go_wp2;go_ret;exact ⟨rfl,rfl⟩
theorem Tryz.slices_Index_string (b off n c : Nat) (zs : List ByteArray) (x : ByteArray) (w : World) (hz : n ≤ zs.length) (hbig : n ≤ 9223372036854775807) (hc : ∀ j,j < zs.length → w.cell? ⟨b,off + j,none⟩ = some (.string (zs.getD j ByteArray.empty))) :
    Calls prog 280 #[.slice (some ⟨b,off,none⟩) n c,.string x] w fun e w' => e = .returned (.int .i64 (Lib.idxOfS (zs.take n) x)) ∧ w' = w := by
 go_enter func280,ntmps280;go_wp2
 go_loop [5,8] (fun _ i => ∃ k : Nat,k ≤ n ∧ i = .int .i64 k ∧ ∀ j,j < k → zs.getD j ByteArray.empty ≠ x) (fun _ i => match i with | .int _ m => n - m.toNat | _ => 0)
 case atStart => exact ⟨0,Nat.zero_le _,rfl,fun j hj => absurd hj (Nat.not_lt_zero _)⟩
 case round =>
  obtain ⟨k,hk,rfl,hne⟩ := hrel;have hcell : k < n → w.cell? ⟨b,off + k,none⟩ = some (.string (zs.getD k ByteArray.empty)) := fun _ => hc k (by omega);go_wp2
  · have hlt : k < n := by assumption
    have heq : (x.toList == (zs[k]?.getD ByteArray.empty).toList) = true := by assumption
    go_ret;refine ⟨?_,rfl⟩;rw [Lib.idxOfS_hit zs n k x hlt hz (by simp only [List.getD]; exact ((Lib.bytes_beq_iff _ _).1 heq).symm) hne];rfl
  · have hlt : k < n := by assumption
    have hneq : (x.toList == (zs[k]?.getD ByteArray.empty).toList) = false := by assumption
    refine ⟨⟨_,_,_,⟨k + 1,by omega,rfl,fun j hj => ?_⟩,rfl,rfl,?_⟩,by omega⟩
    · by_cases e : j = k
      · subst e;intro he;exact (Lib.bytes_beq_false_iff _ _).1 hneq (by simpa [List.getD] using he.symm)
      · have := hne j (by omega);simpa [List.getD] using this
    · have e1 : ((k : Int) + 1 + 9223372036854775808) % 18446744073709551616 - 9223372036854775808 = ((k + 1 : Nat) : Int) := by omega
      rw [e1]
  · have hge : ¬ k < n := by assumption
    have : k = n := by omega
    subst this;go_ret;refine ⟨?_,rfl⟩;rw [Lib.idxOfS_miss zs k x hne];rfl
theorem Tryz.slices_Index_string_empty (a : Option Addr) (c : Nat) (x : ByteArray) (w : World) :
    Calls prog 280 #[.slice a 0 c,.string x] w fun e w' => e = .returned (.int .i64 (Lib.idxOfS [] x)) ∧ w' = w := by
 go_enter func280,ntmps280;go_wp2
 go_loop [5,8] (fun _ i => i = .int .i64 0) (fun _ _ => 0)
 case atStart => rfl
 case round =>
  subst hrel;go_wp2;go_ret;exact ⟨rfl,rfl⟩
end Go.Proofs.YtfaapkpebnagmaaGreatDoor
