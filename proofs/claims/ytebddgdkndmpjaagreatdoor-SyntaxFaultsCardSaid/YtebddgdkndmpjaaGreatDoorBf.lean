/- A sign, written to a builder: walked (ASCII). -/
import Derived.Test.YtebddgdkndmpjaaGreatDoorBe
import Derived.Test.YtebddgdkndmpjaaGreatDoorGv
import Derived.Lib.UnsafeStr
import Derived.Laws.Externs
import Derived.Deep.CutBlock
import Derived.Deep.RegionLawGrows
import Derived.Deep.Cut
import Derived.Deep.CutRange
import Derived.WalkKit
import Derived.WalkLawsBesides
import Derived.WalkSpells
import Derived.Deep.QuietTactic
import Derived.BigRegion
import Derived.BigQuiet
import Derived.Lib.Hide
import Derived.Outline
import Derived.Deep.AppendLies
import Derived.Deep.RegionLaw
import Derived.Deep.RegionWith
import Derived.Deep.RegionHeld3
import Derived.Deep.LoopGhost
import Derived.Deep.DeepFit
import Derived.Laws.ResultCell
import Derived.Laws.RangeAny
import Derived.Deep.MidRow
import Derived.StillTailTactics
import Derived.OpenShut
namespace Go.Proofs.YtebddgdkndmpjaaGreatDoor
set_option linter.unusedVariables false
open Go.RowKit Go

set_option maxRecDepth 100000 in
set_option maxHeartbeats 4000000 in
theorem copy_used (b : Nat) (v : Value) (w : World) (h : Blk w b 263 #[.pointer (some ⟨b, 0, none⟩), v]) : Calls Tryz.prog 224 #[.pointer (some ⟨b, 0, none⟩)] w fun e w' => e = .returned (.tuple #[]) ∧ w' = w := by
  have h0 : w.cell? ⟨b, 0, none⟩ = some (.pointer (some ⟨b, 0, none⟩)) := h.cell 0
  obtain ⟨j, hj, _⟩ := Option.map_eq_some_iff.1 (show (Tryz.prog.info? 263).map (·.size) = some 2 by kernel_rfl)
  have hn := fun a => Lib.run_neq_ptr_same (P := Tryz.prog) w a Tryz.underlying261 hj
  clear h
  go_enter Tryz.func224, Tryz.ntmps224
  go_wp2_with fail
  go_end0
  exact ⟨rfl, rfl⟩
set_option maxRecDepth 100000 in
set_option maxHeartbeats 4000000 in
theorem copy_fresh (b : Nat) (v : Value) (w : World) (h : Blk w b 263 #[.pointer none, v]) : Calls Tryz.prog 224 #[.pointer (some ⟨b, 0, none⟩)] w fun e w' => e = .returned (.tuple #[]) ∧ w' = w.setCell ⟨b, 0, none⟩ (.pointer (some ⟨b, 0, none⟩)) := by
  have h0 : w.cell? ⟨b, 0, none⟩ = some (.pointer none) := h.cell 0
  have f0 := h.frozen 0
  have hlt := h.lt
  have hsh : w.shape? b = some (263, 2) := by
    unfold Blk at h
    simp [World.shape?, h]
  obtain ⟨j, hj, hjs⟩ := Option.map_eq_some_iff.1 (show (Tryz.prog.info? 263).map (·.size) = some 2 by kernel_rfl)
  have hto := Lib.run_to_unsafe (P := Tryz.prog) w ⟨b, 0, none⟩ Tryz.underlying261 Tryz.underlying349 hj (by rw [hjs]; decide) hsh (Nat.zero_lt_succ 1)
  have hne : ∀ x w, (callFunc 269 #[x]).run Tryz.prog w = .ok (.value x) w := fun x w => by
    rw [run_callFunc_extern Tryz.func269 (by kernel_rfl) (by kernel_rfl) (by kernel_rfl) (e := Extern.AbiNoEscape.same) (by kernel_rfl), Lib.run_noEscape]
    rfl
  have hfrom := Lib.run_from_unsafe (P := Tryz.prog) w ⟨b, 0, none⟩ Tryz.underlying349 Tryz.underlying261 hj hsh (by kernel_rfl)
  clear h
  go_enter Tryz.func224, Tryz.ntmps224
  go_wp2_with fail
  go_end0
  exact ⟨rfl, rfl⟩

/-- A builder of bytes. -/
def Bu (w : World) (B b : Nat) (l : List UInt8) : Prop := ∃ (p v : Value), Blk w b 263 #[p, v] ∧ (p = .pointer none ∨ p = .pointer (some ⟨b, 0, none⟩)) ∧ w.ownsRow B 5 1 v l.length (Lib.byteCells l) ∧ B ≤ b
theorem info5 : (Tryz.prog.info? 5).map (fun i => (i.zero, i.size, i.bytes)) = some (some (.int .u8 0), 1, 1) := by kernel_rfl
theorem byteCells_len (l : List UInt8) : (Lib.byteCells l).length = l.length := by unfold Lib.byteCells; simp
theorem byteCells_push (l : List UInt8) (c : UInt8) : Lib.byteCells (l ++ [c]) = Lib.byteCells l ++ [.int .u8 (c.toNat : Int)] := by unfold Lib.byteCells; simp

set_option maxRecDepth 100000 in
set_option maxHeartbeats 4000000 in
theorem arune_any (B : Nat) (v : Value) (l : List UInt8) (c : UInt8) (w : World) (hc : c.toNat < 128) (hl : l.length ≤ 10000) (hB : B ≤ w.heap.size) (hr : w.ownsRow B 5 1 v l.length (Lib.byteCells l)) :
    Calls Tryz.prog 268 #[v, .int .i32 (c.toNat : Int)] w fun e w' => ∃ v', e = .returned v' ∧ w'.ownsRow B 5 1 v' (l.length + 1) (Lib.byteCells (l ++ [c])) ∧ Fr (fun j => v.ownBlock = some j) w w' := by
  obtain ⟨i5, hi5, hz50, hz51, hz52⟩ := info_parts info5
  obtain ⟨A, cc, hv⟩ := row_shape hr
  subst hv
  rw [byteCells_push]
  have HR := Lib.hid hr
  have h0 : (0 : Int) ≤ (c.toNat : Int) := by omega
  have h1 : (c.toNat : Int) ≤ 127 := by omega
  generalize c.toNat = r at *
  clear hr
  go_enter Tryz.func268, Tryz.ntmps268
  go_wp2_with (at_builtin; refine wpList_append_own _ rfl _ _ 86 rfl B 5 i5 _ 1 1 Tryz.underlying86 hi5 hz50 hz51 hz52 rfl (by decide) (.slice A l.length cc) l.length (Lib.byteCells l) (by rfl) (HR.out.alloc _) ⟨w.heap.size, 0, none⟩ 1 1 [.int .u8 (r : Int)] (by rfl) rfl (World.news_of_block (heap_alloc_new w _)) (by intro u hu; rw [List.mem_singleton] at hu; rw [hu]; rfl) (by unfold maxLen; omega) (by omega) (by simp; omega) ?_; intro v7 w7 hown7 hgr7 _; obtain ⟨A7, c7, hv7⟩ := row_shape hown7; subst hv7; have HOWN7 := Lib.hid hown7; have F7 := Lib.hid (show Fr (fun j => (Value.slice A l.length cc).ownBlock = some j) w w7 from ((Fr.refl _ w).alloc _).trans (Fr.of_grown hgr7) (fun _ _ h => h)); clear hown7 hgr7)
  go_ret
  exact ⟨_, rfl, HOWN7.out, F7.out⟩

set_option maxRecDepth 100000 in
set_option maxHeartbeats 4000000 in
theorem wrune_any (B b : Nat) (l : List UInt8) (c : UInt8) (w : World) (hc : c.toNat < 128) (hl : l.length ≤ 10000) (hB : B ≤ w.heap.size) (h : Bu w B b l) :
    Calls Tryz.prog 223 #[.pointer (some ⟨b, 0, none⟩), .int .i32 (c.toNat : Int)] w fun e w' => (∃ k : Int, e = .returned (.tuple #[.int .i64 k, .nilIface])) ∧ Bu w' B b (l ++ [c]) ∧ Fr (fun j => B ≤ j) w w' := by
  obtain ⟨p, v, hb, hp, hr, hBb⟩ := h
  have HC : Calls Tryz.prog 224 #[.pointer (some ⟨b, 0, none⟩)] w fun e w' => e = .returned (.tuple #[]) ∧ Blk w' b 263 #[.pointer (some ⟨b, 0, none⟩), v] ∧ w'.ownsRow B 5 1 v l.length (Lib.byteCells l) ∧ Fr (fun j => j = b) w w' := by
    rcases hp with rfl | rfl
    · refine (copy_fresh b v w hb).mono ?_
      rintro e w' ⟨rfl, rfl⟩
      have FS : Fr (fun j => j = b) w (w.setCell ⟨b, 0, none⟩ (.pointer (some ⟨b, 0, none⟩))) := (Fr.refl (fun j => j = b) w).setCell ⟨b, 0, none⟩ (fun _ => rfl) _
      exact ⟨rfl, hb.set_ 0 (.pointer (some ⟨b, 0, none⟩)), ownsRow_fr hr FS (fun j hj e => own_blk_ne hr hb (by decide) (by rw [hj, e])), FS⟩
    · refine (copy_used b v w hb).mono ?_
      rintro e w' ⟨rfl, rfl⟩
      exact ⟨rfl, hb, hr, Fr.refl _ _⟩
  obtain ⟨A, cc, hv⟩ := row_shape hr
  subst hv
  have HCH := Lib.hid HC
  have HA := Lib.hid (fun w1 h1 h2 => arune_any B (.slice A l.length cc) l c w1 hc hl h1 h2)
  clear HC hb hp hr
  generalize hrr : c.toNat = r at *
  clear hrr
  go_enter Tryz.func223, Tryz.ntmps223
  go_wp2_with fail
  refine HCH.out.mono ?_
  rintro e w1 ⟨rfl, hb1, hr1, hf1⟩
  have c1 : w1.cell? ⟨b, 1, none⟩ = some (.slice A l.length cc) := hb1.cell 1
  have HAA := Lib.hid (HA.out w1 (Nat.le_trans hB hf1.size) hr1)
  have HB1 := Lib.hid hb1
  have HR1 := Lib.hid hr1
  have HF1 := Lib.hid (hf1.mono (T := fun j => B ≤ j) (fun j _ e => by omega))
  clear hb1 hr1 hf1
  go_wp2_with fail
  refine HAA.out.mono ?_
  rintro e w2 ⟨v', rfl, hr2, hf2⟩
  obtain ⟨A2, d2, hv2⟩ := row_shape hr2
  subst hv2
  have hb2 := HB1.out.fr hf2 (own_blk_ne HR1.out HB1.out (by decide))
  have c2 : w2.cell? ⟨b, 1, none⟩ = some (.slice A l.length cc) := hb2.cell 1
  have f2 := hb2.frozen 1
  have hl2 := hb2.lt
  have FS : Fr (fun j => j = b) w2 (w2.setCell ⟨b, 1, none⟩ (.slice A2 (l.length + 1) d2)) := (Fr.refl (fun j => j = b) w2).setCell ⟨b, 1, none⟩ (fun _ => rfl) _
  have HBU := Lib.hid (show Bu (w2.setCell ⟨b, 1, none⟩ (.slice A2 (l.length + 1) d2)) B b (l ++ [c]) from ⟨.pointer (some ⟨b, 0, none⟩), .slice A2 (l.length + 1) d2, hb2.set_ 1 (.slice A2 (l.length + 1) d2), .inr rfl, by
    rw [List.length_append]
    exact ownsRow_fr hr2 FS (fun j hj e => own_blk_ne hr2 hb2 (by decide) (by rw [hj, e])), hBb⟩)
  have HF2 := Lib.hid ((HF1.out.trans hf2 (fun j _ e => (HR1.out.lt j e).1)).trans FS (fun j _ e => by omega))
  have c3 : (w2.setCell ⟨b, 1, none⟩ (.slice A2 (l.length + 1) d2)).cell? ⟨b, 1, none⟩ = some (.slice A2 (l.length + 1) d2) := (hb2.set_ 1 (.slice A2 (l.length + 1) d2)).cell 1
  clear hb2 hr2 hf2 FS
  go_wp2_with fail
  go_ret2
  exact ⟨⟨_, rfl⟩, HBU.out, HF2.out⟩

theorem bstring_any (B b : Nat) (l : List UInt8) (w : World) (hl : l ≠ []) (h : Bu w B b l) : Calls Tryz.prog 176 #[.pointer (some ⟨b, 0, none⟩)] w fun e w' => e = .returned (.string ⟨l.toArray⟩) ∧ Fr (fun j => B ≤ j) w w' := by
  obtain ⟨p, v, hb, hp, hr, hBb⟩ := h
  have hne := own_blk_ne hr hb (by decide)
  have hr' : w.ownsRow B 5 1 v (Lib.byteCells l).length (Lib.byteCells l) := by rw [byteCells_len]; exact hr
  have hbu : Lib.IsBuilder 263 5 B b (Lib.byteCells l) w := by
    rcases hp with rfl | rfl
    · exact .inl ⟨hBb, v, hb, hr', hne⟩
    · exact .inr ⟨hBb, v, hb, hr', hne⟩
  refine (Tryz.Builder_String B b l w hbu hl).mono ?_
  rintro e w' ⟨rfl, hbel⟩
  exact ⟨rfl, ⟨hbel.os, hbel.tape, hbel.output, hbel.size, fun k hk hn => hbel.block k (by omega)⟩⟩

end Go.Proofs.YtebddgdkndmpjaaGreatDoor
