/- An IRI of any text: walked. -/
import Derived.Test.YtebddgdkndmpjaaGreatDoorBk
import Derived.Test.YtebddgdkndmpjaaGreatDoorFd
import Derived.Deep.CutBlock
import Derived.Deep.RegionLawGrows
import Derived.Deep.Cut
import Derived.Deep.CutRange
import Derived.WalkKit
import Derived.WalkLawsBesides
import Derived.WalkSpells
import Derived.Deep.QuietTactic
import Derived.BigRegion
import Derived.BigQuiet
import Derived.Lib.Hide
import Derived.Outline
import Derived.Deep.AppendLies
import Derived.Deep.RegionLaw
import Derived.Deep.RegionWith
import Derived.Deep.RegionHeld3
import Derived.Deep.LoopGhost
import Derived.Deep.DeepFit
import Derived.Laws.ResultCell
import Derived.Laws.RangeAny
import Derived.Deep.MidRow
import Derived.StillTailTactics
import Derived.OpenShut
namespace Go.Proofs.YtebddgdkndmpjaaGreatDoor
set_option linter.unusedVariables false
open Go.RowKit Go

/-- A list of signs, in bytes. -/
def encL (l : List Int) : List UInt8 := l.flatMap Lib.encodeRune
def strL (l : List Int) : ByteArray := ⟨(encL l).toArray⟩
def optS : Option (List Int) → ByteArray
  | none => ⟨#[]⟩
  | some l => strL l
theorem encL_push (l : List Int) (r : Int) : encL l ++ Lib.encodeRune r = encL (l ++ [r]) := by
  unfold encL
  rw [List.flatMap_append]
  congr 1
  exact (List.flatMap_singleton _ _).symm
theorem encodeRune_le (r : Int) : (Lib.encodeRune r).length ≤ 4 := by
  have hen := Lib.encodeRuneZ_length r
  unfold Lib.encodeRune
  rw [List.length_map]
  exact hen.2
theorem encL_len (l : List Int) : (encL l).length ≤ 4 * l.length := by
  induction l with
  | nil => exact Nat.zero_le _
  | cons r l ih =>
    have h1 := encodeRune_le r
    have e : encL (r :: l) = Lib.encodeRune r ++ encL l := by unfold encL; rw [List.flatMap_cons]
    rw [e, List.length_append, List.length_cons]
    omega
/-- An IRI's signs behind the bracket; the place behind, or of what can't stand there. -/
def iriT (rs : List Int) (i : Nat) (out : List Int) : Option (List Int) × Nat :=
  if h : i < rs.length then
    (if peekOf rs i = 10 then (none, i) else if peekOf rs i = 62 then (some out, i + 1)
     else if peekOf rs i = 92 then
       (if peekOf rs (i + 1) = 117 then (if (numR rs 4 (i + 2)).2.2 = true then iriT rs (i + 6) (out ++ [(numR rs 4 (i + 2)).1]) else (none, (numR rs 4 (i + 2)).2.1))
        else if peekOf rs (i + 1) = 85 then (if (numR rs 8 (i + 2)).2.2 = true then iriT rs (i + 10) (out ++ [(numR rs 8 (i + 2)).1]) else (none, (numR rs 8 (i + 2)).2.1))
        else (none, i + 1))
     else iriT rs (i + 1) (out ++ [peekOf rs i]))
  else (none, i)
termination_by rs.length - i
decreasing_by all_goals omega
theorem numR_ok {rs : List Int} {m i : Nat} (h : (numR rs m i).2.2 = true) : (numR rs m i).2.1 = i + m ∧ (m = 0 ∨ i + m ≤ rs.length) ∧ signR (numR rs m i).1 = true := by
  unfold numR at h ⊢
  by_cases h1 : (hexF rs m i 0).2.2 = true
  · rw [if_pos h1] at h ⊢
    by_cases h2 : signR (hexF rs m i 0).1 = true
    · rw [if_pos h2]
      have := hexF_ok rs m i 0 h1
      exact ⟨this.1, this.2, h2⟩
    · rw [if_neg h2] at h
      cases h
  · rw [if_neg h1] at h
    exact absurd h h1
theorem signR_iff (r : Int) : signR r = true ↔ (0 ≤ r ∧ r ≤ 1114111 ∧ (r < 55296 ∨ 57343 < r)) := by
  unfold signR
  exact decide_eq_true_iff
theorem iriT_end {rs : List Int} {i : Nat} (out : List Int) (h : ¬ (i < rs.length ∧ peekOf rs i ≠ 10)) : iriT rs i out = (none, i) := by
  rw [iriT]
  by_cases hi : i < rs.length
  · rw [dif_pos hi, if_pos (Classical.byContradiction fun h2 => h ⟨hi, h2⟩)]
  · rw [dif_neg hi]
theorem iriT_shut {rs : List Int} {i : Nat} (out : List Int) (h : peekOf rs i = 62) : iriT rs i out = (some out, i + 1) := by
  rw [iriT, dif_pos (peek_lt (by rw [h]; decide)), if_neg (by rw [h]; decide), if_pos h]
theorem iriT_u {rs : List Int} {i : Nat} (out : List Int) (h : peekOf rs i = 92) (h2 : peekOf rs (i + 1) = 117) : iriT rs i out = if (numR rs 4 (i + 2)).2.2 = true then iriT rs (i + 6) (out ++ [(numR rs 4 (i + 2)).1]) else (none, (numR rs 4 (i + 2)).2.1) := by
  rw [iriT, dif_pos (peek_lt (by rw [h]; decide)), if_neg (by rw [h]; decide), if_neg (by rw [h]; decide), if_pos h, if_pos h2]
theorem iriT_U {rs : List Int} {i : Nat} (out : List Int) (h : peekOf rs i = 92) (h2 : peekOf rs (i + 1) = 85) : iriT rs i out = if (numR rs 8 (i + 2)).2.2 = true then iriT rs (i + 10) (out ++ [(numR rs 8 (i + 2)).1]) else (none, (numR rs 8 (i + 2)).2.1) := by
  rw [iriT, dif_pos (peek_lt (by rw [h]; decide)), if_neg (by rw [h]; decide), if_neg (by rw [h]; decide), if_pos h, if_neg (by rw [h2]; decide), if_pos h2]
theorem iriT_no {rs : List Int} {i : Nat} (out : List Int) (h : peekOf rs i = 92) (h2 : ¬ peekOf rs (i + 1) = 117) (h3 : ¬ peekOf rs (i + 1) = 85) : iriT rs i out = (none, i + 1) := by
  rw [iriT, dif_pos (peek_lt (by rw [h]; decide)), if_neg (by rw [h]; decide), if_neg (by rw [h]; decide), if_pos h, if_neg h2, if_neg h3]
theorem iriT_go {rs : List Int} {i : Nat} (out : List Int) (hi : i < rs.length) (h1 : ¬ peekOf rs i = 10) (h2 : ¬ peekOf rs i = 62) (h3 : ¬ peekOf rs i = 92) : iriT rs i out = iriT rs (i + 1) (out ++ [peekOf rs i]) := by
  rw [iriT, dif_pos hi, if_neg h1, if_neg h2, if_neg h3]
def iriR (rs : List Int) (p : Nat) : Option (List Int) × Nat := if peekOf rs p = 60 then iriT rs (p + 1) [] else (none, p)

set_option maxRecDepth 100000 in
set_option maxHeartbeats 4000000 in
theorem ntiri_any (b c p : Nat) (A : Option Addr) (rs : List Int) (w : World) (h : Sc w b A c rs p) :
    Calls Tryz.prog 292 #[.pointer (some ⟨b, 0, none⟩)] w (IriPost w b A c rs (iriR rs p).2 (.tuple #[.string (optS (iriR rs p).1), .bool (iriR rs p).1.isSome])) := by
  obtain ⟨res, hres⟩ : ∃ x, x = iriR rs p := ⟨_, rfl⟩
  rw [← hres]
  have HI := Lib.hid (fun T q w1 hT hs h1 => is_sc T b c q A rs w1 hT hs h1)
  have HE := Lib.hid (fun q w1 h1 => end_sc b c q A rs w1 h1)
  have HK := Lib.hid (fun q w1 h1 => peek_sc b c q A rs w1 h1)
  have HN := Lib.hid (fun q w1 h1 => next_sc b c q A rs w1 h1)
  have HD := Lib.hid (fun m q w1 hm h1 => digits_any m b c q A rs w1 hm h1)
  have I0 := Lib.hid (is_sc ⟨#[60]⟩ b c p A rs w (ascii_of (by decide)) (by decide) h)
  have HPB := Lib.hid (fun q => peek_big h.valid q)
  rw [isAt_one] at I0
  unfold IsPost at I0
  have HS := Lib.hid h
  have hbl := h.blk.lt
  have hle := h.le
  have hsm := h.small
  have hpos := h.pos
  unfold iriR at hres
  clear h
  by_cases hp0 : peekOf rs p = 60
  · rw [if_pos hp0] at hres
    have HRES := Lib.hid hres
    rw [hp0] at I0
    simp only [show decide ((60 : Int) = ((60 : UInt8).toNat : Int)) = true from rfl, if_true] at I0
    have hplt := peek_lt (rs := rs) (p := p) (by rw [hp0]; decide)
    clear hres hp0
    go_enter Tryz.func292, Tryz.ntmps292
    go_wp2_with fail
    refine I0.out.mono ?_
    rintro e w1 ⟨rfl, hs1, hf1⟩
    rw [show p + (⟨#[60]⟩ : ByteArray).size = p + 1 from rfl] at hs1
    have HS1 := Lib.hid hs1
    have HF1 := Lib.hid hf1
    have hsz1 := hf1.size
    have BU0 := Lib.hid (show Bu (w1.alloc (.cells #[.pointer none, .slice none 0 0] 263)) w1.heap.size w1.heap.size (encL []) from ⟨_, _, Blk.new _ _ _, .inl rfl, World.ownsRow_nil _ _ _ _, Nat.le_refl _⟩)
    clear hs1 hf1
    go_wp2_with fail
    go_loopg [14] (rs.length) (fun g nv wr => ∃ (i : Nat) (out : List Int), rs.length ≤ i + g ∧ i ≤ rs.length ∧ out.length ≤ i ∧ iriT rs i out = res ∧ Sc wr b A c rs i ∧ Bu wr w1.heap.size w1.heap.size (encL out) ∧ Fr (fun j => j = b ∨ w1.heap.size ≤ j) w wr ∧ w1.heap.size < wr.heap.size)
    case atStart => exact ⟨p + 1, [], by omega, by omega, Nat.zero_le _, HRES.out.symm, HS1.out.frF ((Fr.refl _ _).alloc _), BU0.out, (HF1.out.mono (fun _ _ e => .inl e)).alloc _, by simp⟩
    case round =>
      obtain ⟨i, out, hg, hi, hol, hir, hs, hbu, hfr, hszw⟩ := hrel
      have HIR := Lib.hid hir
      have HSW := Lib.hid hs
      have HBU := Lib.hid hbu
      have HFR := Lib.hid hfr
      have HEE := Lib.hid (HE.out i wr hs)
      have HKK := Lib.hid (fun w1 h1 => HK.out i w1 h1)
      have I1 := Lib.hid (fun w1 h1 => HI.out ⟨#[62]⟩ i w1 (ascii_of (by decide)) (by decide) h1)
      have I2 := Lib.hid (fun w1 h1 => HI.out ⟨#[92]⟩ i w1 (ascii_of (by decide)) (by decide) h1)
      have I3 := Lib.hid (fun w1 h1 => HI.out ⟨#[117]⟩ (i + 1) w1 (ascii_of (by decide)) (by decide) h1)
      have I4 := Lib.hid (fun w1 h1 => HI.out ⟨#[85]⟩ (i + 1) w1 (ascii_of (by decide)) (by decide) h1)
      rw [isAt_one] at I1 I2 I3 I4
      unfold IsPost at I1 I2 I3 I4
      have hen := encL_len out
      have HW := Lib.hid (fun r w2 h0 h1 hB hu => wruneG_any w1.heap.size w1.heap.size (encL out) r w2 h0 h1 (by omega) hB hu)
      have HSTR := Lib.hid (fun w2 hB hu => bstringG_any w1.heap.size w1.heap.size (encL out) w2 hB hu)
      clear hs hbu hfr hir
      by_cases hil : i < rs.length
      · rw [decide_eq_false (by omega)] at HEE
        by_cases h10 : peekOf rs i = 10
        · have hrr := iriT_end (rs := rs) (i := i) out (fun h => h.2 h10)
          rw [HIR.out] at hrr
          subst hrr
          rw [h10] at HKK
          go_wp2_with fail
          refine (HEE.out).mono ?_
          rintro e w2 ⟨rfl, hf2⟩
          have HS2 := Lib.hid (HSW.out.frF hf2)
          have HB2 := Lib.hid (HBU.out.frF hf2)
          have HF2 := Lib.hid (HFR.out.trans hf2 (fun _ _ h => h.elim))
          have hz2 := hf2.size
          clear hf2
          go_wp2_with fail
          refine (HKK.out _ HS2.out).mono ?_
          rintro e w3 ⟨rfl, hf3⟩
          have HS3 := Lib.hid (HS2.out.frF hf3)
          have HB3 := Lib.hid (HB2.out.frF hf3)
          have HF3 := Lib.hid (HF2.out.trans hf3 (fun _ _ h => h.elim))
          have hz3 := hf3.size
          clear hf3
          go_wp2_with fail
          go_ret2
          exact ⟨rfl, HS3.out, HF3.out.mono (fun j hj h => h.elim id (fun h => absurd h (by omega)))⟩
        · have h10b : (peekOf rs i == 10) = false := by simpa using h10
          by_cases h62 : peekOf rs i = 62
          · have hrr := iriT_shut (rs := rs) (i := i) out h62
            rw [HIR.out] at hrr
            subst hrr
            rw [h62] at HKK
            rw [h62, show decide ((62 : Int) = ((62 : UInt8).toNat : Int)) = true from rfl] at I1
            simp only [if_true] at I1
            rw [show i + (⟨#[62]⟩ : ByteArray).size = i + 1 from rfl] at I1
            go_wp2_with fail
            refine (HEE.out).mono ?_
            rintro e w2 ⟨rfl, hf2⟩
            have HS2 := Lib.hid (HSW.out.frF hf2)
            have HB2 := Lib.hid (HBU.out.frF hf2)
            have HF2 := Lib.hid (HFR.out.trans hf2 (fun _ _ h => h.elim))
            have hz2 := hf2.size
            clear hf2
            go_wp2_with fail
            refine (HKK.out _ HS2.out).mono ?_
            rintro e w3 ⟨rfl, hf3⟩
            have HS3 := Lib.hid (HS2.out.frF hf3)
            have HB3 := Lib.hid (HB2.out.frF hf3)
            have HF3 := Lib.hid (HF2.out.trans hf3 (fun _ _ h => h.elim))
            have hz3 := hf3.size
            clear hf3
            go_wp2_with fail
            refine (I1.out _ HS3.out).mono ?_
            rintro e w4 ⟨rfl, hs4, hf4⟩
            have HS4 := Lib.hid hs4
            have HB4 := Lib.hid (HB3.out.fr HS3.out.blk hf4)
            have HF4 := Lib.hid (HF3.out.trans hf4 (fun _ _ h => .inl h))
            clear hs4
            have hz4 := hf4.size
            clear hf4
            go_wp2_with fail
            refine (HSTR.out _ (by omega) HB4.out).mono ?_
            rintro e w5 ⟨rfl, hf5⟩
            have HS5 := Lib.hid (HS4.out.old HS.out hsz1 hf5)
            have HF5 := Lib.hid (HF4.out.trans hf5 (fun _ _ h => .inr h))
            have hz5 := hf5.size
            clear hf5
            go_wp2_with fail
            go_ret2
            exact ⟨rfl, HS5.out, HF5.out.mono (fun j hj h => h.elim id (fun h => absurd h (by omega)))⟩
          · skip
            rw [decide_eq_false (show ¬ peekOf rs i = ((62 : UInt8).toNat : Int) from h62)] at I1
            simp only [Bool.false_eq_true, if_false] at I1
            by_cases h92 : peekOf rs i = 92
            · rw [h92] at HKK
              rw [h92, show decide ((92 : Int) = ((92 : UInt8).toNat : Int)) = true from rfl] at I2
              simp only [if_true] at I2
              rw [show i + (⟨#[92]⟩ : ByteArray).size = i + 1 from rfl] at I2
              by_cases h117 : peekOf rs (i + 1) = 117
              · skip
                rw [h117, show decide ((117 : Int) = ((117 : UInt8).toNat : Int)) = true from rfl] at I3
                simp only [if_true] at I3
                rw [show i + 1 + (⟨#[117]⟩ : ByteArray).size = i + 2 from rfl] at I3
                have hrr := iriT_u (rs := rs) (i := i) out h92 h117
                rw [HIR.out] at hrr
                have hokR := numR_ok (rs := rs) (m := 4) (i := i + 2)
                have HDD := Lib.hid (fun w1 h1 => HD.out 4 (i + 2) w1 (by decide) h1)
                generalize numR rs 4 (i + 2) = nm at *
                obtain ⟨nv1, np, nb⟩ := nm
                cases nb with
                | true =>
                  obtain ⟨h1, h2, h3⟩ := hokR rfl
                  have h4 := (signR_iff _).1 h3
                  rw [if_pos rfl] at hrr
                  dsimp only at h1 h2 h4 hrr HDD
                  subst h1
                  have h2b : i + 2 + 4 ≤ rs.length := h2.resolve_left (by decide)
                  have HRR := Lib.hid hrr.symm
                  have HWW := Lib.hid (fun w2 hB hu => HW.out nv1 w2 h4.1 h4.2.1 hB hu)
                  rw [encL_push] at HWW
                  clear hrr hokR h3
                  go_wp2_with fail
                  refine (HEE.out).mono ?_
                  rintro e w2 ⟨rfl, hf2⟩
                  have HS2 := Lib.hid (HSW.out.frF hf2)
                  have HB2 := Lib.hid (HBU.out.frF hf2)
                  have HF2 := Lib.hid (HFR.out.trans hf2 (fun _ _ h => h.elim))
                  have hz2 := hf2.size
                  clear hf2
                  go_wp2_with fail
                  refine (HKK.out _ HS2.out).mono ?_
                  rintro e w3 ⟨rfl, hf3⟩
                  have HS3 := Lib.hid (HS2.out.frF hf3)
                  have HB3 := Lib.hid (HB2.out.frF hf3)
                  have HF3 := Lib.hid (HF2.out.trans hf3 (fun _ _ h => h.elim))
                  have hz3 := hf3.size
                  clear hf3
                  go_wp2_with fail
                  refine (I1.out _ HS3.out).mono ?_
                  rintro e w4 ⟨rfl, hs4, hf4⟩
                  have HS4 := Lib.hid hs4
                  have HB4 := Lib.hid (HB3.out.fr HS3.out.blk hf4)
                  have HF4 := Lib.hid (HF3.out.trans hf4 (fun _ _ h => .inl h))
                  clear hs4
                  have hz4 := hf4.size
                  clear hf4
                  go_wp2_with fail
                  refine (I2.out _ HS4.out).mono ?_
                  rintro e w5 ⟨rfl, hs5, hf5⟩
                  have HS5 := Lib.hid hs5
                  have HB5 := Lib.hid (HB4.out.fr HS4.out.blk hf5)
                  have HF5 := Lib.hid (HF4.out.trans hf5 (fun _ _ h => .inl h))
                  clear hs5
                  have hz5 := hf5.size
                  clear hf5
                  go_wp2_with fail
                  refine (I3.out _ HS5.out).mono ?_
                  rintro e w6 ⟨rfl, hs6, hf6⟩
                  have HS6 := Lib.hid hs6
                  have HB6 := Lib.hid (HB5.out.fr HS5.out.blk hf6)
                  have HF6 := Lib.hid (HF5.out.trans hf6 (fun _ _ h => .inl h))
                  clear hs6
                  have hz6 := hf6.size
                  clear hf6
                  go_wp2_with fail
                  refine (HDD.out _ HS6.out).mono ?_
                  rintro e w7 ⟨rfl, hs7, hf7⟩
                  have HS7 := Lib.hid hs7
                  have HB7 := Lib.hid (HB6.out.fr HS6.out.blk hf7)
                  have HF7 := Lib.hid (HF6.out.trans hf7 (fun _ _ h => .inl h))
                  clear hs7
                  have hz7 := hf7.size
                  clear hf7
                  go_wp2_with fail
                  refine (HWW.out _ (by omega) HB7.out).mono ?_
                  rintro e w8 ⟨⟨kk, rfl⟩, hb8, hf8⟩
                  have HS8 := Lib.hid (HS7.out.old HS.out hsz1 hf8)
                  have HB8 := Lib.hid hb8
                  have HF8 := Lib.hid (HF7.out.trans hf8 (fun _ _ h => .inr h))
                  clear hb8
                  have hz8 := hf8.size
                  clear hf8
                  go_wp2_with fail
                  go_roundg (rs.length - (i + 6))
                  case measure => omega
                  case rel => exact ⟨i + 6, out ++ [nv1], by omega, by omega, by rw [List.length_append]; show out.length + 1 ≤ _; omega, HRR.out, HS8.out, HB8.out, HF8.out, by omega⟩
                | false =>
                  rw [if_neg Bool.false_ne_true] at hrr
                  dsimp only at hrr HDD
                  subst hrr
                  clear hokR
                  go_wp2_with fail
                  refine (HEE.out).mono ?_
                  rintro e w2 ⟨rfl, hf2⟩
                  have HS2 := Lib.hid (HSW.out.frF hf2)
                  have HB2 := Lib.hid (HBU.out.frF hf2)
                  have HF2 := Lib.hid (HFR.out.trans hf2 (fun _ _ h => h.elim))
                  have hz2 := hf2.size
                  clear hf2
                  go_wp2_with fail
                  refine (HKK.out _ HS2.out).mono ?_
                  rintro e w3 ⟨rfl, hf3⟩
                  have HS3 := Lib.hid (HS2.out.frF hf3)
                  have HB3 := Lib.hid (HB2.out.frF hf3)
                  have HF3 := Lib.hid (HF2.out.trans hf3 (fun _ _ h => h.elim))
                  have hz3 := hf3.size
                  clear hf3
                  go_wp2_with fail
                  refine (I1.out _ HS3.out).mono ?_
                  rintro e w4 ⟨rfl, hs4, hf4⟩
                  have HS4 := Lib.hid hs4
                  have HB4 := Lib.hid (HB3.out.fr HS3.out.blk hf4)
                  have HF4 := Lib.hid (HF3.out.trans hf4 (fun _ _ h => .inl h))
                  clear hs4
                  have hz4 := hf4.size
                  clear hf4
                  go_wp2_with fail
                  refine (I2.out _ HS4.out).mono ?_
                  rintro e w5 ⟨rfl, hs5, hf5⟩
                  have HS5 := Lib.hid hs5
                  have HB5 := Lib.hid (HB4.out.fr HS4.out.blk hf5)
                  have HF5 := Lib.hid (HF4.out.trans hf5 (fun _ _ h => .inl h))
                  clear hs5
                  have hz5 := hf5.size
                  clear hf5
                  go_wp2_with fail
                  refine (I3.out _ HS5.out).mono ?_
                  rintro e w6 ⟨rfl, hs6, hf6⟩
                  have HS6 := Lib.hid hs6
                  have HB6 := Lib.hid (HB5.out.fr HS5.out.blk hf6)
                  have HF6 := Lib.hid (HF5.out.trans hf6 (fun _ _ h => .inl h))
                  clear hs6
                  have hz6 := hf6.size
                  clear hf6
                  go_wp2_with fail
                  refine (HDD.out _ HS6.out).mono ?_
                  rintro e w7 ⟨rfl, hs7, hf7⟩
                  have HS7 := Lib.hid hs7
                  have HB7 := Lib.hid (HB6.out.fr HS6.out.blk hf7)
                  have HF7 := Lib.hid (HF6.out.trans hf7 (fun _ _ h => .inl h))
                  clear hs7
                  have hz7 := hf7.size
                  clear hf7
                  go_wp2_with fail
                  go_ret2
                  exact ⟨rfl, HS7.out, HF7.out.mono (fun j hj h => h.elim id (fun h => absurd h (by omega)))⟩
              · skip
                rw [decide_eq_false (show ¬ peekOf rs (i + 1) = ((117 : UInt8).toNat : Int) from h117)] at I3
                simp only [Bool.false_eq_true, if_false] at I3
                by_cases h85 : peekOf rs (i + 1) = 85
                · skip
                  rw [h85, show decide ((85 : Int) = ((85 : UInt8).toNat : Int)) = true from rfl] at I4
                  simp only [if_true] at I4
                  rw [show i + 1 + (⟨#[85]⟩ : ByteArray).size = i + 2 from rfl] at I4
                  have hrr := iriT_U (rs := rs) (i := i) out h92 h85
                  rw [HIR.out] at hrr
                  have hokR := numR_ok (rs := rs) (m := 8) (i := i + 2)
                  have HDD := Lib.hid (fun w1 h1 => HD.out 8 (i + 2) w1 (by decide) h1)
                  generalize numR rs 8 (i + 2) = nm at *
                  obtain ⟨nv1, np, nb⟩ := nm
                  cases nb with
                  | true =>
                    obtain ⟨h1, h2, h3⟩ := hokR rfl
                    have h4 := (signR_iff _).1 h3
                    rw [if_pos rfl] at hrr
                    dsimp only at h1 h2 h4 hrr HDD
                    subst h1
                    have h2b : i + 2 + 8 ≤ rs.length := h2.resolve_left (by decide)
                    have HRR := Lib.hid hrr.symm
                    have HWW := Lib.hid (fun w2 hB hu => HW.out nv1 w2 h4.1 h4.2.1 hB hu)
                    rw [encL_push] at HWW
                    clear hrr hokR h3
                    go_wp2_with fail
                    refine (HEE.out).mono ?_
                    rintro e w2 ⟨rfl, hf2⟩
                    have HS2 := Lib.hid (HSW.out.frF hf2)
                    have HB2 := Lib.hid (HBU.out.frF hf2)
                    have HF2 := Lib.hid (HFR.out.trans hf2 (fun _ _ h => h.elim))
                    have hz2 := hf2.size
                    clear hf2
                    go_wp2_with fail
                    refine (HKK.out _ HS2.out).mono ?_
                    rintro e w3 ⟨rfl, hf3⟩
                    have HS3 := Lib.hid (HS2.out.frF hf3)
                    have HB3 := Lib.hid (HB2.out.frF hf3)
                    have HF3 := Lib.hid (HF2.out.trans hf3 (fun _ _ h => h.elim))
                    have hz3 := hf3.size
                    clear hf3
                    go_wp2_with fail
                    refine (I1.out _ HS3.out).mono ?_
                    rintro e w4 ⟨rfl, hs4, hf4⟩
                    have HS4 := Lib.hid hs4
                    have HB4 := Lib.hid (HB3.out.fr HS3.out.blk hf4)
                    have HF4 := Lib.hid (HF3.out.trans hf4 (fun _ _ h => .inl h))
                    clear hs4
                    have hz4 := hf4.size
                    clear hf4
                    go_wp2_with fail
                    refine (I2.out _ HS4.out).mono ?_
                    rintro e w5 ⟨rfl, hs5, hf5⟩
                    have HS5 := Lib.hid hs5
                    have HB5 := Lib.hid (HB4.out.fr HS4.out.blk hf5)
                    have HF5 := Lib.hid (HF4.out.trans hf5 (fun _ _ h => .inl h))
                    clear hs5
                    have hz5 := hf5.size
                    clear hf5
                    go_wp2_with fail
                    refine (I3.out _ HS5.out).mono ?_
                    rintro e w6 ⟨rfl, hs6, hf6⟩
                    have HS6 := Lib.hid hs6
                    have HB6 := Lib.hid (HB5.out.fr HS5.out.blk hf6)
                    have HF6 := Lib.hid (HF5.out.trans hf6 (fun _ _ h => .inl h))
                    clear hs6
                    have hz6 := hf6.size
                    clear hf6
                    go_wp2_with fail
                    refine (I4.out _ HS6.out).mono ?_
                    rintro e w7 ⟨rfl, hs7, hf7⟩
                    have HS7 := Lib.hid hs7
                    have HB7 := Lib.hid (HB6.out.fr HS6.out.blk hf7)
                    have HF7 := Lib.hid (HF6.out.trans hf7 (fun _ _ h => .inl h))
                    clear hs7
                    have hz7 := hf7.size
                    clear hf7
                    go_wp2_with fail
                    refine (HDD.out _ HS7.out).mono ?_
                    rintro e w8 ⟨rfl, hs8, hf8⟩
                    have HS8 := Lib.hid hs8
                    have HB8 := Lib.hid (HB7.out.fr HS7.out.blk hf8)
                    have HF8 := Lib.hid (HF7.out.trans hf8 (fun _ _ h => .inl h))
                    clear hs8
                    have hz8 := hf8.size
                    clear hf8
                    go_wp2_with fail
                    refine (HWW.out _ (by omega) HB8.out).mono ?_
                    rintro e w9 ⟨⟨kk, rfl⟩, hb9, hf9⟩
                    have HS9 := Lib.hid (HS8.out.old HS.out hsz1 hf9)
                    have HB9 := Lib.hid hb9
                    have HF9 := Lib.hid (HF8.out.trans hf9 (fun _ _ h => .inr h))
                    clear hb9
                    have hz9 := hf9.size
                    clear hf9
                    go_wp2_with fail
                    go_roundg (rs.length - (i + 10))
                    case measure => omega
                    case rel => exact ⟨i + 10, out ++ [nv1], by omega, by omega, by rw [List.length_append]; show out.length + 1 ≤ _; omega, HRR.out, HS9.out, HB9.out, HF9.out, by omega⟩
                  | false =>
                    rw [if_neg Bool.false_ne_true] at hrr
                    dsimp only at hrr HDD
                    subst hrr
                    clear hokR
                    go_wp2_with fail
                    refine (HEE.out).mono ?_
                    rintro e w2 ⟨rfl, hf2⟩
                    have HS2 := Lib.hid (HSW.out.frF hf2)
                    have HB2 := Lib.hid (HBU.out.frF hf2)
                    have HF2 := Lib.hid (HFR.out.trans hf2 (fun _ _ h => h.elim))
                    have hz2 := hf2.size
                    clear hf2
                    go_wp2_with fail
                    refine (HKK.out _ HS2.out).mono ?_
                    rintro e w3 ⟨rfl, hf3⟩
                    have HS3 := Lib.hid (HS2.out.frF hf3)
                    have HB3 := Lib.hid (HB2.out.frF hf3)
                    have HF3 := Lib.hid (HF2.out.trans hf3 (fun _ _ h => h.elim))
                    have hz3 := hf3.size
                    clear hf3
                    go_wp2_with fail
                    refine (I1.out _ HS3.out).mono ?_
                    rintro e w4 ⟨rfl, hs4, hf4⟩
                    have HS4 := Lib.hid hs4
                    have HB4 := Lib.hid (HB3.out.fr HS3.out.blk hf4)
                    have HF4 := Lib.hid (HF3.out.trans hf4 (fun _ _ h => .inl h))
                    clear hs4
                    have hz4 := hf4.size
                    clear hf4
                    go_wp2_with fail
                    refine (I2.out _ HS4.out).mono ?_
                    rintro e w5 ⟨rfl, hs5, hf5⟩
                    have HS5 := Lib.hid hs5
                    have HB5 := Lib.hid (HB4.out.fr HS4.out.blk hf5)
                    have HF5 := Lib.hid (HF4.out.trans hf5 (fun _ _ h => .inl h))
                    clear hs5
                    have hz5 := hf5.size
                    clear hf5
                    go_wp2_with fail
                    refine (I3.out _ HS5.out).mono ?_
                    rintro e w6 ⟨rfl, hs6, hf6⟩
                    have HS6 := Lib.hid hs6
                    have HB6 := Lib.hid (HB5.out.fr HS5.out.blk hf6)
                    have HF6 := Lib.hid (HF5.out.trans hf6 (fun _ _ h => .inl h))
                    clear hs6
                    have hz6 := hf6.size
                    clear hf6
                    go_wp2_with fail
                    refine (I4.out _ HS6.out).mono ?_
                    rintro e w7 ⟨rfl, hs7, hf7⟩
                    have HS7 := Lib.hid hs7
                    have HB7 := Lib.hid (HB6.out.fr HS6.out.blk hf7)
                    have HF7 := Lib.hid (HF6.out.trans hf7 (fun _ _ h => .inl h))
                    clear hs7
                    have hz7 := hf7.size
                    clear hf7
                    go_wp2_with fail
                    refine (HDD.out _ HS7.out).mono ?_
                    rintro e w8 ⟨rfl, hs8, hf8⟩
                    have HS8 := Lib.hid hs8
                    have HB8 := Lib.hid (HB7.out.fr HS7.out.blk hf8)
                    have HF8 := Lib.hid (HF7.out.trans hf8 (fun _ _ h => .inl h))
                    clear hs8
                    have hz8 := hf8.size
                    clear hf8
                    go_wp2_with fail
                    go_ret2
                    exact ⟨rfl, HS8.out, HF8.out.mono (fun j hj h => h.elim id (fun h => absurd h (by omega)))⟩
                · skip
                  rw [decide_eq_false (show ¬ peekOf rs (i + 1) = ((85 : UInt8).toNat : Int) from h85)] at I4
                  simp only [Bool.false_eq_true, if_false] at I4
                  have hrr := iriT_no (rs := rs) (i := i) out h92 h117 h85
                  rw [HIR.out] at hrr
                  subst hrr
                  go_wp2_with fail
                  refine (HEE.out).mono ?_
                  rintro e w2 ⟨rfl, hf2⟩
                  have HS2 := Lib.hid (HSW.out.frF hf2)
                  have HB2 := Lib.hid (HBU.out.frF hf2)
                  have HF2 := Lib.hid (HFR.out.trans hf2 (fun _ _ h => h.elim))
                  have hz2 := hf2.size
                  clear hf2
                  go_wp2_with fail
                  refine (HKK.out _ HS2.out).mono ?_
                  rintro e w3 ⟨rfl, hf3⟩
                  have HS3 := Lib.hid (HS2.out.frF hf3)
                  have HB3 := Lib.hid (HB2.out.frF hf3)
                  have HF3 := Lib.hid (HF2.out.trans hf3 (fun _ _ h => h.elim))
                  have hz3 := hf3.size
                  clear hf3
                  go_wp2_with fail
                  refine (I1.out _ HS3.out).mono ?_
                  rintro e w4 ⟨rfl, hs4, hf4⟩
                  have HS4 := Lib.hid hs4
                  have HB4 := Lib.hid (HB3.out.fr HS3.out.blk hf4)
                  have HF4 := Lib.hid (HF3.out.trans hf4 (fun _ _ h => .inl h))
                  clear hs4
                  have hz4 := hf4.size
                  clear hf4
                  go_wp2_with fail
                  refine (I2.out _ HS4.out).mono ?_
                  rintro e w5 ⟨rfl, hs5, hf5⟩
                  have HS5 := Lib.hid hs5
                  have HB5 := Lib.hid (HB4.out.fr HS4.out.blk hf5)
                  have HF5 := Lib.hid (HF4.out.trans hf5 (fun _ _ h => .inl h))
                  clear hs5
                  have hz5 := hf5.size
                  clear hf5
                  go_wp2_with fail
                  refine (I3.out _ HS5.out).mono ?_
                  rintro e w6 ⟨rfl, hs6, hf6⟩
                  have HS6 := Lib.hid hs6
                  have HB6 := Lib.hid (HB5.out.fr HS5.out.blk hf6)
                  have HF6 := Lib.hid (HF5.out.trans hf6 (fun _ _ h => .inl h))
                  clear hs6
                  have hz6 := hf6.size
                  clear hf6
                  go_wp2_with fail
                  refine (I4.out _ HS6.out).mono ?_
                  rintro e w7 ⟨rfl, hs7, hf7⟩
                  have HS7 := Lib.hid hs7
                  have HB7 := Lib.hid (HB6.out.fr HS6.out.blk hf7)
                  have HF7 := Lib.hid (HF6.out.trans hf7 (fun _ _ h => .inl h))
                  clear hs7
                  have hz7 := hf7.size
                  clear hf7
                  go_wp2_with fail
                  go_ret2
                  exact ⟨rfl, HS7.out, HF7.out.mono (fun j hj h => h.elim id (fun h => absurd h (by omega)))⟩
            · skip
              rw [decide_eq_false (show ¬ peekOf rs i = ((92 : UInt8).toNat : Int) from h92)] at I2
              simp only [Bool.false_eq_true, if_false] at I2
              have HRR := Lib.hid ((iriT_go (rs := rs) (i := i) out hil h10 h62 h92).symm.trans HIR.out)
              have hpb := HPB.out i
              have hp0 : 0 ≤ peekOf rs i := by
                have := peek_ne HSW.out hil
                unfold peekOf at hpb ⊢
                rw [if_pos hil] at hpb ⊢
                omega
              have HWW := Lib.hid (fun w2 hB hu => HW.out (peekOf rs i) w2 hp0 hpb.2 hB hu)
              rw [encL_push] at HWW
              have HNN := Lib.hid (fun w1 h1 => HN.out i w1 h1)
              unfold nextAt at HNN
              rw [if_pos hil] at HNN
              generalize peekOf rs i = r at *
              go_wp2_with fail
              refine (HEE.out).mono ?_
              rintro e w2 ⟨rfl, hf2⟩
              have HS2 := Lib.hid (HSW.out.frF hf2)
              have HB2 := Lib.hid (HBU.out.frF hf2)
              have HF2 := Lib.hid (HFR.out.trans hf2 (fun _ _ h => h.elim))
              have hz2 := hf2.size
              clear hf2
              go_wp2_with fail
              refine (HKK.out _ HS2.out).mono ?_
              rintro e w3 ⟨rfl, hf3⟩
              have HS3 := Lib.hid (HS2.out.frF hf3)
              have HB3 := Lib.hid (HB2.out.frF hf3)
              have HF3 := Lib.hid (HF2.out.trans hf3 (fun _ _ h => h.elim))
              have hz3 := hf3.size
              clear hf3
              go_wp2_with fail
              refine (I1.out _ HS3.out).mono ?_
              rintro e w4 ⟨rfl, hs4, hf4⟩
              have HS4 := Lib.hid hs4
              have HB4 := Lib.hid (HB3.out.fr HS3.out.blk hf4)
              have HF4 := Lib.hid (HF3.out.trans hf4 (fun _ _ h => .inl h))
              clear hs4
              have hz4 := hf4.size
              clear hf4
              go_wp2_with fail
              refine (I2.out _ HS4.out).mono ?_
              rintro e w5 ⟨rfl, hs5, hf5⟩
              have HS5 := Lib.hid hs5
              have HB5 := Lib.hid (HB4.out.fr HS4.out.blk hf5)
              have HF5 := Lib.hid (HF4.out.trans hf5 (fun _ _ h => .inl h))
              clear hs5
              have hz5 := hf5.size
              clear hf5
              go_wp2_with fail
              refine (HNN.out _ HS5.out).mono ?_
              rintro e w6 ⟨rfl, hs6, hf6⟩
              have HS6 := Lib.hid hs6
              have HB6 := Lib.hid (HB5.out.fr HS5.out.blk hf6)
              have HF6 := Lib.hid (HF5.out.trans hf6 (fun _ _ h => .inl h))
              clear hs6
              have hz6 := hf6.size
              clear hf6
              go_wp2_with fail
              refine (HWW.out _ (by omega) HB6.out).mono ?_
              rintro e w7 ⟨⟨kk, rfl⟩, hb7, hf7⟩
              have HS7 := Lib.hid (HS6.out.old HS.out hsz1 hf7)
              have HB7 := Lib.hid hb7
              have HF7 := Lib.hid (HF6.out.trans hf7 (fun _ _ h => .inr h))
              clear hb7
              have hz7 := hf7.size
              clear hf7
              go_wp2_with fail
              go_roundg (rs.length - (i + 1))
              case measure => omega
              case rel => exact ⟨i + 1, out ++ [r], by omega, by omega, by rw [List.length_append]; show out.length + 1 ≤ _; omega, HRR.out, HS7.out, HB7.out, HF7.out, by omega⟩
      · rw [decide_eq_true (by omega)] at HEE
        have hrr := iriT_end (rs := rs) (i := i) out (fun h => hil h.1)
        rw [HIR.out] at hrr
        subst hrr
        go_wp2_with fail
        refine (HEE.out).mono ?_
        rintro e w2 ⟨rfl, hf2⟩
        have HS2 := Lib.hid (HSW.out.frF hf2)
        have HB2 := Lib.hid (HBU.out.frF hf2)
        have HF2 := Lib.hid (HFR.out.trans hf2 (fun _ _ h => h.elim))
        have hz2 := hf2.size
        clear hf2
        go_wp2_with fail
        go_ret2
        exact ⟨rfl, HS2.out, HF2.out.mono (fun j hj h => h.elim id (fun h => absurd h (by omega)))⟩
  · rw [if_neg hp0] at hres
    rw [decide_eq_false (show ¬ peekOf rs p = ((60 : UInt8).toNat : Int) from hp0)] at I0
    simp only [Bool.false_eq_true, if_false] at I0
    subst hres
    go_enter Tryz.func292, Tryz.ntmps292
    go_wp2_with fail
    refine I0.out.mono ?_
    rintro e w1 ⟨rfl, hs1, hf1⟩
    go_wp2_with fail
    go_ret2
    exact ⟨rfl, hs1, hf1⟩

end Go.Proofs.YtebddgdkndmpjaaGreatDoor
