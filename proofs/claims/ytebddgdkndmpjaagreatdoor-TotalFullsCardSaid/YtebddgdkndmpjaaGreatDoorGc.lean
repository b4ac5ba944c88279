/- Whether a sign is among some: walked, for the signs that no IRI has. -/
import Derived.Test.YtebddgdkndmpjaaGreatDoorGb
import Derived.Laws.Runes
import Derived.Deep.CutBlock
import Derived.Deep.RegionLawGrows
import Derived.Deep.Cut
import Derived.Deep.CutRange
import Derived.WalkKit
import Derived.WalkLawsBesides
import Derived.WalkSpells
import Derived.Deep.QuietTactic
import Derived.BigRegion
import Derived.BigQuiet
import Derived.Lib.Hide
import Derived.Outline
import Derived.Deep.AppendLies
import Derived.Deep.RegionLaw
import Derived.Deep.RegionWith
import Derived.Deep.RegionHeld3
import Derived.Deep.LoopGhost
import Derived.Deep.DeepFit
import Derived.Laws.ResultCell
import Derived.Laws.RangeAny
import Derived.Deep.MidRow
import Derived.StillTailTactics
import Derived.OpenShut
namespace Go.Proofs.YtebddgdkndmpjaaGreatDoor
set_option linter.unusedVariables false
open Go.RowKit Go

def forb : ByteArray := ⟨#[60, 62, 34, 123, 125, 124, 94, 96, 92]⟩

/-- Is a sign one that no IRI has? -/
def forbOf (r : Int) : Bool := decide (r = 60 ∨ r = 62 ∨ r = 34 ∨ r = 123 ∨ r = 125 ∨ r = 124 ∨ r = 94 ∨ r = 96 ∨ r = 92)
theorem forb_fin : ∀ k : Fin 128, decide (0 ≤ Lib.indexByte [60, 62, 34, 123, 125, 124, 94, 96, 92] (k : Nat).toUInt8) = forbOf ((k : Nat) : Int) := by decide +kernel
theorem forb_low (r : Int) (h0 : 0 ≤ r) (h : r < 128) : decide (0 ≤ Lib.indexByte [60, 62, 34, 123, 125, 124, 94, 96, 92] r.toNat.toUInt8) = forbOf r := by
  have := forb_fin ⟨r.toNat, by omega⟩
  simp only at this
  rw [this]
  congr 1
  omega
theorem forb_high (r : Int) (h : 128 ≤ r) : forbOf r = false := decide_eq_false (by omega)
def RunePost (b : Bool) (w : World) (e : Ending) (w' : World) : Prop := ∃ n : Int, e = .returned (.int .i64 n) ∧ decide (0 ≤ n) = b ∧ Fr (fun _ => False) w w'

theorem index_none (c : UInt8) (hc : 128 ≤ c.toNat) : ∀ l : List UInt8, (∀ x ∈ l, x.toNat < 128) → Lib.indexByte l c = -1
  | [], _ => rfl
  | x :: l, h => by
    have hx := h x (by simp)
    have ih := index_none c hc l (fun y hy => h y (by simp [hy]))
    have hne : ¬ x = c := fun e => by rw [e] at hx; omega
    unfold Lib.indexByte
    simp [hne, ih]

set_option maxRecDepth 100000 in
set_option maxHeartbeats 4000000 in
theorem idxrune_err (s : ByteArray) (w : World) (hs : s.size ≤ 4096) (hA : ∀ p (h : p < s.size), (s[p]'h).toNat < 128) : Calls Tryz.prog 422 #[.string s, .int .i32 65533] w (RunePost false w) := by
  have HA := Lib.hid hA
  clear hA
  go_enter Tryz.func422, Tryz.ntmps422
  go_wp2_with fail
  go_loopg [] (s.size) (fun g wr => ∃ (p : Nat), s.size ≤ p + g ∧ ItAt wr w.heap.size s p ∧ Fr (fun j => w.heap.size ≤ j) w wr)
  case atStart => exact ⟨0, by omega, ItAt.new w s 0, (Fr.refl _ _).alloc _⟩
  case round =>
    obtain ⟨p, hg, hit, hf⟩ := hrel
    by_cases hp : p < s.size
    · have hnx := run_next_it hit hp
      have hwd := width_pos s p hp
      have hr1 : (Utf8.decode s p).1 < 128 := by rw [decode_ascii s p hp (HA.out p hp)]; exact HA.out p hp
      have hit2 := hit.set (p + (Utf8.decode s p).2)
      have hf2 : Fr (fun j => w.heap.size ≤ j) w (World.itSet wr w.heap.size s (p + (Utf8.decode s p).2)) := hf.trans (hit.frS _) (fun i hi e => by omega)
      have HIT := Lib.hid hit2
      have HF := Lib.hid hf2
      generalize World.itSet wr w.heap.size s (p + (Utf8.decode s p).2) = w2 at *
      generalize (Utf8.decode s p).2 = wd at *
      generalize (Utf8.decode s p).1 = r at *
      clear hit hf hit2 hf2
      have hr' : ((r : Int) == 65533) = false := by simp; omega
      go_wp2_with fail
      go_roundg (s.size - (p + wd))
      case measure => omega
      case rel => exact ⟨p + wd, by omega, HIT.out, HF.out⟩
    · have hnx := run_next_it_end hit hp
      clear hit
      go_wp2_with fail
      go_ret
      exact ⟨_, rfl, rfl, hf.shut (Nat.le_refl _)⟩

set_option maxRecDepth 100000 in
set_option maxHeartbeats 4000000 in
theorem idxrune_any (r : Int) (w : World) (h0 : 0 ≤ r) (hvr : Lib.validRune r = true) : Calls Tryz.prog 422 #[.string ⟨#[60, 62, 34, 123, 125, 124, 94, 96, 92]⟩, .int .i32 r] w (RunePost (forbOf r) w) := by
  by_cases h1 : r < 128
  · have h1' : decide (r < 128) = true := decide_eq_true h1
    have HFB := Lib.hid (forb_low r h0 h1)
    go_enter Tryz.func422, Tryz.ntmps422
    go_wp2_with fail
    refine (Tryz.strings_IndexByte _ _ _).mono ?_
    rintro e w1 ⟨rfl, rfl⟩
    go_wp2_with fail
    go_ret
    exact ⟨_, rfl, HFB.out, Fr.refl _ _⟩
  · have h1' : decide (r < 128) = false := decide_eq_false h1
    rw [forb_high r (by omega)]
    by_cases h2 : r = 65533
    · have h2' : (r == 65533) = true := by simp [h2]
      subst h2
      exact idxrune_err _ w (by decide) (by decide)
    · have h2' : (r == 65533) = false := by simp [h2]
      have hv := Tryz.utf8_ValidRune r w
      obtain ⟨b, hb⟩ : ∃ b, Lib.validRune r = b := ⟨_, rfl⟩
      rw [hb] at hv
      cases b with
      | false => rw [hvr] at hb; cases hb
      | true =>
        have hu : Utf8.valid r = true := by
          simp only [Lib.validRune, decide_eq_true_eq] at hb
          simp only [Utf8.valid, Bool.or_eq_true, Bool.and_eq_true, decide_eq_true_eq]
          omega
        obtain ⟨e1, e2, e3⟩ := encode_facts r hu (by omega)
        have hcv := fun wx => run_convert_int_string (P := Tryz.prog) wx 21 9 .i32 r (by kernel_rfl) Tryz.underlying9
        generalize Utf8.encode r = B at *
        obtain hm | hm | hm : B.size = 2 ∨ B.size = 3 ∨ B.size = 4 := by omega
        · obtain ⟨i, hi⟩ : ∃ i, i = B.size - 1 := ⟨_, rfl⟩
          simp only [← hi] at e3
          have hi2 : i = 1 := by omega
          subst hi2
          obtain ⟨c, hc⟩ : ∃ c, B[1]'(by omega) = c := ⟨_, rfl⟩
          have e4 : 128 ≤ c.toNat := by rw [← hc]; exact e3 (by omega)
          have e5 : c.toNat ≤ 255 := by have := c.toNat_lt; omega
          have hne : ((((⟨#[60, 62, 34, 123, 125, 124, 94, 96, 92]⟩ : ByteArray)[1]'(by decide)).toNat : Int) != (c.toNat : Int)) = true := by
            show (((62 : Nat) : Int) != (c.toNat : Int)) = true
            rw [bne_iff_ne]
            omega
          have hN : Lib.indexByte [34, 123, 125, 124, 94, 96, 92] c = -1 := index_none c e4 [34, 123, 125, 124, 94, 96, 92] (by decide)
          clear e1 e2 e3 hi
          go_enter Tryz.func422, Tryz.ntmps422
          go_wp2_with fail
          refine hv.mono ?_
          rintro e w1 ⟨rfl, rfl⟩
          go_wp2_with fail
          go_step3
          go_wp2_with fail
          go_loopg [9, 10, 12] (0) (fun g a b c wr => a = .int .i64 1 ∧ b = .int .i64 0 ∧ wr = w1)
          case atStart => exact ⟨rfl, rfl, rfl⟩
          case round =>
            obtain ⟨rfl, rfl, rfl⟩ := hrel
            have hwr : IntKind.i64.wrap 2 = 2 := by decide
            clear hv
            go_wp2_with fail
            go_step3
            go_wp2_with fail
            go_quiet (fail)
            have hq : Fr (fun _ => False) wr (wr.drewN nq) := (Fr.refl _ _).drewN nq
            generalize wr.drewN nq = w2 at hq ⊢
            go_wp2_with fail
            go_quiet ((go_at_call 418; exact Calls.quiet_of_same (Tryz.strings_IndexByte _ _ _)))
            have hq' : Fr (fun _ => False) wr (w2.drewN nq) := hq.drewN nq
            go_wp2_with fail
            rw [Exit.noGoto_ret]
            go_ret
            exact ⟨_, rfl, rfl, hq'⟩
        · obtain ⟨i, hi⟩ : ∃ i, i = B.size - 1 := ⟨_, rfl⟩
          simp only [← hi] at e3
          have hi2 : i = 2 := by omega
          subst hi2
          obtain ⟨c, hc⟩ : ∃ c, B[2]'(by omega) = c := ⟨_, rfl⟩
          have e4 : 128 ≤ c.toNat := by rw [← hc]; exact e3 (by omega)
          have e5 : c.toNat ≤ 255 := by have := c.toNat_lt; omega
          have hne : ((((⟨#[60, 62, 34, 123, 125, 124, 94, 96, 92]⟩ : ByteArray)[2]'(by decide)).toNat : Int) != (c.toNat : Int)) = true := by
            show (((34 : Nat) : Int) != (c.toNat : Int)) = true
            rw [bne_iff_ne]
            omega
          have hN : Lib.indexByte [123, 125, 124, 94, 96, 92] c = -1 := index_none c e4 [123, 125, 124, 94, 96, 92] (by decide)
          clear e1 e2 e3 hi
          go_enter Tryz.func422, Tryz.ntmps422
          go_wp2_with fail
          refine hv.mono ?_
          rintro e w1 ⟨rfl, rfl⟩
          go_wp2_with fail
          go_step3
          go_wp2_with fail
          go_loopg [9, 10, 12] (0) (fun g a b c wr => a = .int .i64 2 ∧ b = .int .i64 0 ∧ wr = w1)
          case atStart => exact ⟨rfl, rfl, rfl⟩
          case round =>
            obtain ⟨rfl, rfl, rfl⟩ := hrel
            have hwr : IntKind.i64.wrap 3 = 3 := by decide
            clear hv
            go_wp2_with fail
            go_step3
            go_wp2_with fail
            go_quiet (fail)
            have hq : Fr (fun _ => False) wr (wr.drewN nq) := (Fr.refl _ _).drewN nq
            generalize wr.drewN nq = w2 at hq ⊢
            go_wp2_with fail
            go_quiet ((go_at_call 418; exact Calls.quiet_of_same (Tryz.strings_IndexByte _ _ _)))
            have hq' : Fr (fun _ => False) wr (w2.drewN nq) := hq.drewN nq
            go_wp2_with fail
            rw [Exit.noGoto_ret]
            go_ret
            exact ⟨_, rfl, rfl, hq'⟩
        · obtain ⟨i, hi⟩ : ∃ i, i = B.size - 1 := ⟨_, rfl⟩
          simp only [← hi] at e3
          have hi2 : i = 3 := by omega
          subst hi2
          obtain ⟨c, hc⟩ : ∃ c, B[3]'(by omega) = c := ⟨_, rfl⟩
          have e4 : 128 ≤ c.toNat := by rw [← hc]; exact e3 (by omega)
          have e5 : c.toNat ≤ 255 := by have := c.toNat_lt; omega
          have hne : ((((⟨#[60, 62, 34, 123, 125, 124, 94, 96, 92]⟩ : ByteArray)[3]'(by decide)).toNat : Int) != (c.toNat : Int)) = true := by
            show (((123 : Nat) : Int) != (c.toNat : Int)) = true
            rw [bne_iff_ne]
            omega
          have hN : Lib.indexByte [125, 124, 94, 96, 92] c = -1 := index_none c e4 [125, 124, 94, 96, 92] (by decide)
          clear e1 e2 e3 hi
          go_enter Tryz.func422, Tryz.ntmps422
          go_wp2_with fail
          refine hv.mono ?_
          rintro e w1 ⟨rfl, rfl⟩
          go_wp2_with fail
          go_step3
          go_wp2_with fail
          go_loopg [9, 10, 12] (0) (fun g a b c wr => a = .int .i64 3 ∧ b = .int .i64 0 ∧ wr = w1)
          case atStart => exact ⟨rfl, rfl, rfl⟩
          case round =>
            obtain ⟨rfl, rfl, rfl⟩ := hrel
            have hwr : IntKind.i64.wrap 4 = 4 := by decide
            clear hv
            go_wp2_with fail
            go_step3
            go_wp2_with fail
            go_quiet (fail)
            have hq : Fr (fun _ => False) wr (wr.drewN nq) := (Fr.refl _ _).drewN nq
            generalize wr.drewN nq = w2 at hq ⊢
            go_wp2_with fail
            go_quiet ((go_at_call 418; exact Calls.quiet_of_same (Tryz.strings_IndexByte _ _ _)))
            have hq' : Fr (fun _ => False) wr (w2.drewN nq) := hq.drewN nq
            go_wp2_with fail
            rw [Exit.noGoto_ret]
            go_ret
            exact ⟨_, rfl, rfl, hq'⟩

theorem contains_any (r : Int) (w : World) (h0 : 0 ≤ r) (hvr : Lib.validRune r = true) : Calls Tryz.prog 419 #[.string ⟨#[60, 62, 34, 123, 125, 124, 94, 96, 92]⟩, .int .i32 r] w (IsB (forbOf r) w) := by
  have HX := Lib.hid (fun w => idxrune_any r w h0 hvr)
  clear hvr
  generalize forbOf r = b at *
  go_enter Tryz.func419, Tryz.ntmps419
  go_wp2_with fail
  refine (HX.out _).mono ?_
  rintro e w1 ⟨n, rfl, hd, hf⟩
  have HD := Lib.hid hd
  clear hd
  go_wp2_with fail
  go_ret
  exact IsB.of hf HD.out.symm

end Go.Proofs.YtebddgdkndmpjaaGreatDoor
