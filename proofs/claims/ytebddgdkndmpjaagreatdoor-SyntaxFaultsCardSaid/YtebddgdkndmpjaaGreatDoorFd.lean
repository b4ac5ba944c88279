/- Runes written, digits read: walked. -/
import Derived.Test.YtebddgdkndmpjaaGreatDoorBf
import Derived.Test.YtebddgdkndmpjaaGreatDoorSu
import Derived.Test.YtebddgdkndmpjaaGreatDoorBg
import Derived.Deep.CutBlock
import Derived.Deep.RegionLawGrows
import Derived.Deep.Cut
import Derived.Deep.CutRange
import Derived.WalkKit
import Derived.WalkLawsBesides
import Derived.WalkSpells
import Derived.Deep.QuietTactic
import Derived.BigRegion
import Derived.BigQuiet
import Derived.Lib.Hide
import Derived.Outline
import Derived.Deep.AppendLies
import Derived.Deep.RegionLaw
import Derived.Deep.RegionWith
import Derived.Deep.RegionHeld3
import Derived.Deep.LoopGhost
import Derived.Deep.DeepFit
import Derived.Laws.ResultCell
import Derived.Laws.RangeAny
import Derived.Deep.MidRow
import Derived.StillTailTactics
import Derived.OpenShut
namespace Go.Proofs.YtebddgdkndmpjaaGreatDoor
set_option linter.unusedVariables false
open Go.RowKit Go

set_option maxRecDepth 100000 in
set_option maxHeartbeats 4000000 in
/-- Any sign written into a builder. -/
theorem wruneG_any (B b : Nat) (l : List UInt8) (r : Int) (w : World) (hr0 : 0 ≤ r) (hr1 : r ≤ 1114111) (hl : l.length ≤ 100000) (hB : B ≤ w.heap.size) (h : Bu w B b l) :
    Calls Tryz.prog 223 #[.pointer (some ⟨b, 0, none⟩), .int .i32 r] w fun e w' => (∃ k : Int, e = .returned (.tuple #[.int .i64 k, .nilIface])) ∧ Bu w' B b (l ++ Lib.encodeRune r) ∧ Fr (fun j => B ≤ j) w w' := by
  obtain ⟨p, v, hb, hp, hr, hBb⟩ := h
  have HC : Calls Tryz.prog 224 #[.pointer (some ⟨b, 0, none⟩)] w fun e w' => e = .returned (.tuple #[]) ∧ Blk w' b 263 #[.pointer (some ⟨b, 0, none⟩), v] ∧ w'.ownsRow B 5 1 v l.length (Lib.byteCells l) ∧ Fr (fun j => j = b) w w' := by
    rcases hp with rfl | rfl
    · refine (copy_fresh b v w hb).mono ?_
      rintro e w' ⟨rfl, rfl⟩
      have FS : Fr (fun j => j = b) w (w.setCell ⟨b, 0, none⟩ (.pointer (some ⟨b, 0, none⟩))) := (Fr.refl (fun j => j = b) w).setCell ⟨b, 0, none⟩ (fun _ => rfl) _
      exact ⟨rfl, hb.set_ 0 (.pointer (some ⟨b, 0, none⟩)), ownsRow_fr hr FS (fun j hj e => own_blk_ne hr hb (by decide) (by rw [hj, e])), FS⟩
    · refine (copy_used b v w hb).mono ?_
      rintro e w' ⟨rfl, rfl⟩
      exact ⟨rfl, hb, hr, Fr.refl _ _⟩
  obtain ⟨A, cc, hv⟩ := row_shape hr
  subst hv
  have HCH := Lib.hid HC
  have HA := Lib.hid (fun w1 h1 h2 => Tryz.utf8_AppendRune_plain B (.slice A l.length cc) l.length (Lib.byteCells l) r (by omega) (by omega) w1 h2 (by omega) h1)
  rw [Lib.runeCells_length, ← Lib.byteCells_encodeRune] at HA
  have hen := Lib.encodeRuneZ_length r
  have hle : (Lib.encodeRune r).length ≤ 4 := by unfold Lib.encodeRune; rw [List.length_map]; exact hen.2
  generalize Lib.encodeRune r = er at *
  clear HC hb hp hr hen
  go_enter Tryz.func223, Tryz.ntmps223
  go_wp2_with fail
  refine HCH.out.mono ?_
  rintro e w1 ⟨rfl, hb1, hr1, hf1⟩
  have c1 : w1.cell? ⟨b, 1, none⟩ = some (.slice A l.length cc) := hb1.cell 1
  have HAA := Lib.hid (HA.out w1 (Nat.le_trans hB hf1.size) hr1)
  have HB1 := Lib.hid hb1
  have HR1 := Lib.hid hr1
  have HF1 := Lib.hid (hf1.mono (T := fun j => B ≤ j) (fun j _ e => by omega))
  clear hb1 hr1 hf1
  go_wp2_with fail
  refine HAA.out.mono ?_
  rintro e w2 ⟨v', rfl, hr2, o, hgr⟩
  have hf2 : Fr (fun j => (Value.slice A l.length cc).ownBlock = some j) w1 w2 := ((Fr.refl _ w1).alloc o).trans (Fr.of_grown hgr) (fun _ _ h => h)
  obtain ⟨A2, d2, hv2⟩ := row_shape hr2
  subst hv2
  have hb2 := HB1.out.fr hf2 (own_blk_ne HR1.out HB1.out (by decide))
  have c2 : w2.cell? ⟨b, 1, none⟩ = some (.slice A l.length cc) := hb2.cell 1
  have f2 := hb2.frozen 1
  have hl2 := hb2.lt
  have FS : Fr (fun j => j = b) w2 (w2.setCell ⟨b, 1, none⟩ (.slice A2 (l.length + er.length) d2)) := (Fr.refl (fun j => j = b) w2).setCell ⟨b, 1, none⟩ (fun _ => rfl) _
  have hbc : Lib.byteCells l ++ Lib.byteCells er = Lib.byteCells (l ++ er) := by unfold Lib.byteCells; rw [List.map_append]
  rw [hbc] at hr2
  have HBU := Lib.hid (show Bu (w2.setCell ⟨b, 1, none⟩ (.slice A2 (l.length + er.length) d2)) B b (l ++ er) from ⟨.pointer (some ⟨b, 0, none⟩), .slice A2 (l.length + er.length) d2, hb2.set_ 1 (.slice A2 (l.length + er.length) d2), .inr rfl, by
    rw [List.length_append]
    exact ownsRow_fr hr2 FS (fun j hj e => own_blk_ne hr2 hb2 (by decide) (by rw [hj, e])), hBb⟩)
  have HF2 := Lib.hid ((HF1.out.trans hf2 (fun j _ e => (HR1.out.lt j e).1)).trans FS (fun j _ e => by omega))
  have c3 : (w2.setCell ⟨b, 1, none⟩ (.slice A2 (l.length + er.length) d2)).cell? ⟨b, 1, none⟩ = some (.slice A2 (l.length + er.length) d2) := (hb2.set_ 1 (.slice A2 (l.length + er.length) d2)).cell 1
  clear hb2 hr2 hf2 FS hgr hbc
  go_wp2_with fail
  go_ret2
  exact ⟨⟨_, rfl⟩, HBU.out, HF2.out⟩

/-- What a builder holds. -/
theorem bstringG_any (B b : Nat) (l : List UInt8) (w : World) (hB : B ≤ w.heap.size) (h : Bu w B b l) : Calls Tryz.prog 176 #[.pointer (some ⟨b, 0, none⟩)] w fun e w' => e = .returned (.string ⟨l.toArray⟩) ∧ Fr (fun j => B ≤ j) w w' := by
  obtain ⟨p, v, hb, hp, hr, hBb⟩ := h
  have hne := own_blk_ne hr hb (by decide)
  have hr' : w.ownsRow B 5 1 v (Lib.byteCells l).length (Lib.byteCells l) := by rw [byteCells_len]; exact hr
  have hbu : Lib.IsBuilder 263 5 B b (Lib.byteCells l) w := by
    rcases hp with rfl | rfl
    · exact .inl ⟨hBb, v, hb, hr', hne⟩
    · exact .inr ⟨hBb, v, hb, hr', hne⟩
  refine (Tryz.Builder_String_any B b l w hbu hB).mono ?_
  rintro e w' ⟨rfl, hbel⟩
  exact ⟨rfl, ⟨hbel.os, hbel.tape, hbel.output, hbel.size, fun k hk hn => hbel.block k (by omega)⟩⟩

/-- A hexadecimal digit's number; below 0: it is none. -/
def hexR (c : Int) : Int := if 48 ≤ c ∧ c ≤ 57 then c - 48 else if 97 ≤ c ∧ c ≤ 102 then c - 87 else if 65 ≤ c ∧ c ≤ 70 then c - 55 else -1
theorem hexR_le (c : Int) : -1 ≤ hexR c ∧ hexR c ≤ 15 := by
  unfold hexR
  (repeat' split) <;> omega
/-- So many digits from a place on: their number, the place behind them, or of what is none. -/
def hexF (rs : List Int) : Nat → Nat → Int → Int × Nat × Bool
  | 0, i, n => (n, i, true)
  | m + 1, i, n => if hexR (peekOf rs i) < 0 then (0, i, false) else hexF rs m (i + 1) (16 * n + hexR (peekOf rs i))
def signR (x : Int) : Bool := decide (0 ≤ x ∧ x ≤ 1114111 ∧ (x < 55296 ∨ 57343 < x))
/-- A sign of so many digits. -/
def numR (rs : List Int) (m i : Nat) : Int × Nat × Bool :=
  if (hexF rs m i 0).2.2 = true then (if signR (hexF rs m i 0).1 = true then hexF rs m i 0 else (0, (hexF rs m i 0).2.1 - 1, false)) else hexF rs m i 0
theorem hex_in {rs : List Int} {i : Nat} (h : ¬ hexR (peekOf rs i) < 0) : i < rs.length := by
  unfold peekOf at h
  split at h
  · assumption
  · exact absurd (by decide) h
theorem hexF_ok (rs : List Int) : ∀ m i n, (hexF rs m i n).2.2 = true → (hexF rs m i n).2.1 = i + m ∧ (m = 0 ∨ i + m ≤ rs.length)
  | 0, i, n, _ => ⟨rfl, .inl rfl⟩
  | m + 1, i, n, h => by
    unfold hexF at h ⊢
    split at h
    · cases h
    · rename_i hx
      rw [if_neg hx]
      have hi := hex_in hx
      obtain ⟨h1, h2⟩ := hexF_ok rs m (i + 1) _ h
      exact ⟨by omega, .inr (by omega)⟩
theorem hexF_place (rs : List Int) : ∀ m i n, i ≤ rs.length → i ≤ (hexF rs m i n).2.1 ∧ (hexF rs m i n).2.1 ≤ rs.length
  | 0, i, n, h => ⟨Nat.le_refl _, h⟩
  | m + 1, i, n, h => by
    unfold hexF
    split
    · exact ⟨Nat.le_refl _, h⟩
    · rename_i hx
      have hi := hex_in hx
      have := hexF_place rs m (i + 1) (16 * n + hexR (peekOf rs i)) (by omega)
      omega
theorem hexF_big (rs : List Int) : ∀ m i n, 0 ≤ n → 0 ≤ (hexF rs m i n).1 ∧ (hexF rs m i n).1 < (n + 1) * 16 ^ m
  | 0, i, n, h => ⟨h, by show n < (n + 1) * 16 ^ 0; rw [Int.pow_zero, Int.mul_one]; omega⟩
  | m + 1, i, n, h => by
    unfold hexF
    have hp : (0 : Int) < 16 ^ (m + 1) := Int.pow_pos (by decide)
    split
    · exact ⟨Int.le_refl 0, Int.mul_pos (by omega) hp⟩
    · rename_i hx
      have hb := hexR_le (peekOf rs i)
      obtain ⟨h1, h2⟩ := hexF_big rs m (i + 1) (16 * n + hexR (peekOf rs i)) (by omega)
      refine ⟨h1, Int.lt_of_lt_of_le h2 ?_⟩
      rw [Int.pow_succ, Int.mul_comm (16 ^ m) 16, ← Int.mul_assoc]
      exact Int.mul_le_mul_of_nonneg_right (by omega) (Int.le_of_lt (Int.pow_pos (by decide)))

set_option maxRecDepth 100000 in
set_option maxHeartbeats 4000000 in
theorem hexp_any (r : Int) (w : World) (hr : -1 ≤ r) (hr2 : r ≤ 1114111) : Calls Tryz.prog 347 #[.int .i32 r] w fun e w' => e = .returned (.int .i64 (hexR r)) ∧ w = w' := by
  obtain ⟨c, hc⟩ : ∃ c, c = hexR r := ⟨_, rfl⟩
  rw [← hc]
  have HC := Lib.hid hc
  clear hc
  have w1 : IntKind.i32.wrap (r - 48) = r - 48 := IntWalk.i32_in _ (by omega)
  have w2 : IntKind.i32.wrap (r - 97) = r - 97 := IntWalk.i32_in _ (by omega)
  have w3 : IntKind.i32.wrap (r - 65) = r - 65 := IntWalk.i32_in _ (by omega)
  go_enter Tryz.func347, Tryz.ntmps347
  go_wp2_with fail
  all_goals (go_ret; refine ⟨congrArg (fun n => Ending.returned (.int .i64 n)) ?_, rfl⟩; rw [HC.out]; unfold hexR; (repeat' split) <;> omega)

theorem signR_valid (r : Int) : Lib.validRune r = signR r := by
  unfold Lib.validRune signR
  first | rfl | (simp only [Bool.decide_and, Bool.decide_or]; rfl) | (apply Bool.eq_iff_iff.2; simp; omega)
def clsX (r : Int) : Int := if signR r = true then classOf r else 6
theorem clsX_any (r : Int) (w : World) : Calls Tryz.prog 205 #[.int .i32 r] w fun e w' => e = .returned (.int .i64 (clsX r)) ∧ w = w' := by
  unfold clsX
  by_cases h : signR r = true
  · rw [if_pos h]
    exact class_of r w (by rw [signR_valid]; exact h)
  · rw [if_neg h]
    have HV := Tryz.utf8_ValidRune r w
    rw [signR_valid, (by simpa using h : signR r = false)] at HV
    clear h
    go_enter Tryz.func205, Tryz.ntmps205
    go_wp2_with fail
    refine HV.mono ?_
    rintro e w1 ⟨rfl, rfl⟩
    go_wp2_with fail
    go_ret
    exact ⟨rfl, rfl⟩
theorem clsX_six (r : Int) : (clsX r == 6) = !signR r := by
  unfold clsX classOf
  by_cases h : signR r = true
  · rw [if_pos h, h]
    (repeat' split) <;> rfl
  · rw [if_neg h, (by simpa using h : signR r = false)]
    rfl
theorem pow16 (k : Nat) (h : k ≤ 8) : (16 : Int) ^ k ≤ 4294967296 := by
  have : ∀ k : Fin 9, (16 : Int) ^ (k : Nat) ≤ 4294967296 := by decide
  exact this ⟨k, by omega⟩
theorem peek_big {rs : List Int} (hv : ∀ r, r ∈ rs → Lib.validRune r = true ∧ 0 ≤ r) (q : Nat) : -1 ≤ peekOf rs q ∧ peekOf rs q ≤ 1114111 := by
  unfold peekOf
  split
  · rename_i h
    have hm : rs.getD q 0 ∈ rs := by rw [List.getD_eq_getElem?_getD, List.getElem?_eq_getElem h]; exact List.getElem_mem h
    generalize rs.getD q 0 = x at *
    have h1 := (hv x hm).1
    rw [signR_valid] at h1
    have h2 := of_decide_eq_true (show decide (0 ≤ x ∧ x ≤ 1114111 ∧ (x < 55296 ∨ 57343 < x)) = true from h1)
    omega
  · omega
theorem hexF_zero (rs : List Int) (i : Nat) (n : Int) : hexF rs 0 i n = (n, i, true) := rfl
theorem hexF_succ (rs : List Int) (m i : Nat) (n : Int) : hexF rs (m + 1) i n = if hexR (peekOf rs i) < 0 then (0, i, false) else hexF rs m (i + 1) (16 * n + hexR (peekOf rs i)) := rfl

set_option maxRecDepth 100000 in
set_option maxHeartbeats 4000000 in
theorem digits_any (m : Nat) (b c p : Nat) (A : Option Addr) (rs : List Int) (w : World) (hm : m ≤ 8) (h : Sc w b A c rs p) :
    Calls Tryz.prog 322 #[.pointer (some ⟨b, 0, none⟩), .int .i64 (m : Int)] w (ScPost w b A c rs (numR rs m p).2.1 (.tuple #[.int .i32 (numR rs m p).1, .bool (numR rs m p).2.2])) := by
  have HPL := Lib.hid (place_sc b c p A rs w h)
  have HP2 := Lib.hid (fun q w1 h1 => place_sc b c q A rs w1 h1)
  have HK := Lib.hid (fun q w1 h1 => peek_sc b c q A rs w1 h1)
  have HN := Lib.hid (fun q w1 h1 => next_sc b c q A rs w1 h1)
  have HS := Lib.hid h
  have hle := h.le
  have hsm := h.small
  have HPB := Lib.hid (fun q => peek_big h.valid q)
  obtain ⟨pm, hpm⟩ : ∃ x, x = numR rs m p := ⟨_, rfl⟩
  rw [← hpm]
  have HM := Lib.hid hpm
  clear h hpm
  go_enter Tryz.func322, Tryz.ntmps322
  go_wp2_with fail
  refine HPL.out.mono ?_
  rintro e w1 ⟨rfl, rfl⟩
  go_wp2_with fail
  go_loopg [6, 7, 12] (m) (fun g a x12 x7 wr => ∃ (k : Nat) (n : Int) (l : Nat), m ≤ k + g ∧ k ≤ m ∧ p + k ≤ rs.length ∧ 0 ≤ n ∧ n < 16 ^ k ∧ hexF rs (m - k) (p + k) n = hexF rs m p 0 ∧ (0 < k → l + 1 = p + k) ∧ l ≤ rs.length ∧ a = .int .i64 n ∧ x12 = .int .i64 (l : Int) ∧ x7 = .int .i64 (k : Int) ∧ Sc wr b A c rs (p + k) ∧ Fr (fun j => j = b) w wr)
  case atStart => exact ⟨0, 0, p, by omega, Nat.zero_le _, by omega, by decide, by decide, rfl, by omega, by omega, rfl, rfl, rfl, HS.out, Fr.refl _ _⟩
  case round =>
    obtain ⟨k, n, l, hg, hk, hpk, hn0, hn1, hx, hl1, hl2, rfl, rfl, rfl, hs, hfr⟩ := hrel
    have HSW := Lib.hid hs
    have HFR := Lib.hid hfr
    have HKK := Lib.hid (HK.out (p + k) wr hs)
    have HPP := Lib.hid (fun w1 h1 => HP2.out (p + k) w1 h1)
    have HNN := Lib.hid (fun w1 h1 => HN.out (p + k) w1 h1)
    have hpb := HPB.out (p + k)
    have HX := Lib.hid hx
    have hp16 := pow16 k (by omega)
    have HB2 := Lib.hid (fun q hq w1 h1 => back_sc b c (p + k) q A rs w1 h1 hq)
    clear hs hfr hx
    by_cases hkm : k < m
    · obtain ⟨j, hj⟩ : ∃ j, m - k = j + 1 := ⟨m - k - 1, by omega⟩
      have hx2 := HX.out
      rw [hj, hexF_succ] at hx2
      have HH := Lib.hid (fun w1 => hexp_any (peekOf rs (p + k)) w1 hpb.1 hpb.2)
      by_cases hd : hexR (peekOf rs (p + k)) < 0
      · rw [if_pos hd] at hx2
        have hpm : pm = (0, p + k, false) := by
          rw [HM.out]; unfold numR; rw [← hx2]; rfl
        clear hx2
        subst hpm
        go_wp2_with fail
        refine HKK.out.mono ?_
        rintro e w2 ⟨rfl, hf2⟩
        have HF2 := Lib.hid hf2
        clear hf2
        go_wp2_with fail
        refine (HH.out w2).mono ?_
        rintro e w3 ⟨rfl, rfl⟩
        generalize hexR (peekOf rs (p + k)) = d at *
        go_wp2_with fail
        go_ret2
        exact ⟨rfl, HSW.out.frF HF2.out, HFR.out.trans HF2.out (fun _ _ h => h.elim)⟩
      · rw [if_neg hd] at hx2
        have hplt := hex_in hd
        have hdb := hexR_le (peekOf rs (p + k))
        unfold nextAt at HNN
        rw [if_pos hplt] at HNN
        have HXX := Lib.hid hx2
        clear hx2
        have HP3 : n + 1 ≤ 16 ^ k := by omega
        have HP4 : 16 * n + hexR (peekOf rs (p + k)) < 16 ^ (k + 1) := by rw [Int.pow_succ]; omega
        go_wp2_with fail
        refine HKK.out.mono ?_
        rintro e w2 ⟨rfl, hf2⟩
        have HS2 := Lib.hid (HSW.out.frF hf2)
        have HF2 := Lib.hid (HFR.out.trans hf2 (fun _ _ h => h.elim))
        clear hf2
        go_wp2_with fail
        refine (HH.out w2).mono ?_
        rintro e w3 ⟨rfl, rfl⟩
        generalize hexR (peekOf rs (p + k)) = d at *
        go_wp2_with fail
        refine (HPP.out w2 HS2.out).mono ?_
        rintro e w3 ⟨rfl, rfl⟩
        go_wp2_with fail
        refine (HNN.out w2 HS2.out).mono ?_
        rintro e w3 ⟨rfl, hs3, hf3⟩
        have HS3 := Lib.hid hs3
        have HF3 := Lib.hid (HF2.out.trans hf3 (fun _ _ h => h))
        clear hs3 hf3
        have w1 : wrap64 (16 * n) = 16 * n := IntWalk.wrap64_in _ (by omega)
        have w2 : wrap64 (16 * n + d) = 16 * n + d := IntWalk.wrap64_in _ (by omega)
        go_wp2_with fail
        go_roundg (m - (k + 1))
        case measure => omega
        case rel => exact ⟨k + 1, 16 * n + d, p + k, by omega, by omega, by omega, by omega, HP4, by rw [show m - (k + 1) = j by omega]; exact HXX.out, by omega, by omega, rfl, rfl, rfl, HS3.out, HF3.out⟩
    · have hkm2 : k = m := by omega
      subst hkm2
      have hx2 := HX.out
      rw [Nat.sub_self, hexF_zero] at hx2
      have HCL := Lib.hid (fun x w1 => clsX_any x w1)
      by_cases hbig : n ≤ 1114111
      · have w3 : IntKind.i32.wrap n = n := IntWalk.i32_in _ (by omega)
        by_cases hsg : signR n = true
        · have hpm : pm = (n, p + k, true) := by
            rw [HM.out]; unfold numR; rw [← hx2, if_pos rfl, if_pos hsg]
          have h6 : (clsX n == 6) = false := by rw [clsX_six, hsg]; rfl
          have H6 : ¬ clsX n = 6 := by simpa using h6
          clear hx2
          subst hpm
          go_wp2_with fail
          refine (HCL.out n wr).mono ?_
          rintro e w3 ⟨rfl, rfl⟩
          generalize clsX n = cl at *
          go_wp2_with fail
          go_ret2
          exact ⟨rfl, HSW.out, HFR.out⟩
        · have hpm : pm = (0, p + k - 1, false) := by
            rw [HM.out]; unfold numR; rw [← hx2, if_pos rfl, if_neg hsg]
          have h6 : (clsX n == 6) = true := by rw [clsX_six, (by simpa using hsg : signR n = false)]; rfl
          have H6 : clsX n = 6 := by simpa using h6
          have hk0 : 0 < k := by
            rcases Nat.eq_zero_or_pos k with h0 | h0
            · subst h0
              exact absurd (show signR n = true from decide_eq_true (by have : (16 : Int) ^ 0 = 1 := rfl; omega)) hsg
            · exact h0
          have hl3 := hl1 hk0
          rw [show p + k - 1 = l by omega] at hpm
          clear hx2
          subst hpm
          go_wp2_with fail
          refine (HCL.out n wr).mono ?_
          rintro e w3 ⟨rfl, rfl⟩
          rw [H6]
          go_wp2_with fail
          refine (HB2.out l hl2 _ HSW.out).mono ?_
          rintro e w4 ⟨rfl, hs4, hf4⟩
          have HS4 := Lib.hid hs4
          have HF4 := Lib.hid (HFR.out.trans hf4 (fun _ _ h => h))
          clear hs4 hf4
          go_wp2_with fail
          go_ret2
          exact ⟨rfl, HS4.out, HF4.out⟩
      · have hsg : ¬ signR n = true := fun h => by
          have := of_decide_eq_true (show decide (0 ≤ n ∧ n ≤ 1114111 ∧ (n < 55296 ∨ 57343 < n)) = true from h)
          omega
        have hpm : pm = (0, p + k - 1, false) := by
          rw [HM.out]; unfold numR; rw [← hx2, if_pos rfl, if_neg hsg]
        have hk0 : 0 < k := by
          rcases Nat.eq_zero_or_pos k with h0 | h0
          · subst h0
            exact absurd (show (16 : Int) ^ 0 = 1 from rfl) (by omega)
          · exact h0
        have hl3 := hl1 hk0
        rw [show p + k - 1 = l by omega] at hpm
        clear hx2
        subst hpm
        go_wp2_with fail
        refine (HB2.out l hl2 _ HSW.out).mono ?_
        rintro e w4 ⟨rfl, hs4, hf4⟩
        have HS4 := Lib.hid hs4
        have HF4 := Lib.hid (HFR.out.trans hf4 (fun _ _ h => h))
        clear hs4 hf4
        go_wp2_with fail
        go_ret2
        exact ⟨rfl, HS4.out, HF4.out⟩

set_option maxRecDepth 100000 in
set_option maxHeartbeats 4000000 in
theorem number_any (m : Nat) (b c p : Nat) (A : Option Addr) (rs : List Int) (w : World) (hm : m ≤ 8) (h : Sc w b A c rs p) :
    Calls Tryz.prog 348 #[.pointer (some ⟨b, 0, none⟩), .int .i64 (m : Int)] w (ScPost w b A c rs (numR rs m p).2.1 (.tuple #[.int .i32 (numR rs m p).1, .bool (numR rs m p).2.2])) := by
  have HPL := Lib.hid (place_sc b c p A rs w h)
  have HP2 := Lib.hid (fun q w1 h1 => place_sc b c q A rs w1 h1)
  have HK := Lib.hid (fun q w1 h1 => peek_sc b c q A rs w1 h1)
  have HN := Lib.hid (fun q w1 h1 => next_sc b c q A rs w1 h1)
  have HS := Lib.hid h
  have hle := h.le
  have hsm := h.small
  have HPB := Lib.hid (fun q => peek_big h.valid q)
  obtain ⟨pm, hpm⟩ : ∃ x, x = numR rs m p := ⟨_, rfl⟩
  rw [← hpm]
  have HM := Lib.hid hpm
  clear h hpm
  go_enter Tryz.func348, Tryz.ntmps348
  go_wp2_with fail
  go_loopg [6, 9] (m) (fun g a x7 wr => ∃ (k : Nat) (n : Int), m ≤ k + g ∧ k ≤ m ∧ p + k ≤ rs.length ∧ 0 ≤ n ∧ n < 16 ^ k ∧ hexF rs (m - k) (p + k) n = hexF rs m p 0 ∧ a = .int .i64 n ∧ x7 = .int .i64 (k : Int) ∧ Sc wr b A c rs (p + k) ∧ Fr (fun j => j = b) w wr)
  case atStart => exact ⟨0, 0, by omega, Nat.zero_le _, by omega, by decide, by decide, rfl, rfl, rfl, HS.out, Fr.refl _ _⟩
  case round =>
    obtain ⟨k, n, hg, hk, hpk, hn0, hn1, hx, rfl, rfl, hs, hfr⟩ := hrel
    have HSW := Lib.hid hs
    have HFR := Lib.hid hfr
    have HKK := Lib.hid (HK.out (p + k) wr hs)
    have HPP := Lib.hid (fun w1 h1 => HP2.out (p + k) w1 h1)
    have HNN := Lib.hid (fun w1 h1 => HN.out (p + k) w1 h1)
    have hpb := HPB.out (p + k)
    have HX := Lib.hid hx
    have hp16 := pow16 k (by omega)
    have HB2 := Lib.hid (fun q hq w1 h1 => back_sc b c (p + k) q A rs w1 h1 hq)
    clear hs hfr hx
    by_cases hkm : k < m
    · obtain ⟨j, hj⟩ : ∃ j, m - k = j + 1 := ⟨m - k - 1, by omega⟩
      have hx2 := HX.out
      rw [hj, hexF_succ] at hx2
      have HH := Lib.hid (fun w1 => hexp_any (peekOf rs (p + k)) w1 hpb.1 hpb.2)
      by_cases hd : hexR (peekOf rs (p + k)) < 0
      · rw [if_pos hd] at hx2
        have hpm : pm = (0, p + k, false) := by
          rw [HM.out]; unfold numR; rw [← hx2]; rfl
        clear hx2
        subst hpm
        go_wp2_with fail
        refine HKK.out.mono ?_
        rintro e w2 ⟨rfl, hf2⟩
        have HF2 := Lib.hid hf2
        clear hf2
        go_wp2_with fail
        refine (HH.out w2).mono ?_
        rintro e w3 ⟨rfl, rfl⟩
        generalize hexR (peekOf rs (p + k)) = d at *
        go_wp2_with fail
        go_ret2
        exact ⟨rfl, HSW.out.frF HF2.out, HFR.out.trans HF2.out (fun _ _ h => h.elim)⟩
      · rw [if_neg hd] at hx2
        have hplt := hex_in hd
        have hdb := hexR_le (peekOf rs (p + k))
        unfold nextAt at HNN
        rw [if_pos hplt] at HNN
        have HXX := Lib.hid hx2
        clear hx2
        have HP3 : n + 1 ≤ 16 ^ k := by omega
        have HP4 : 16 * n + hexR (peekOf rs (p + k)) < 16 ^ (k + 1) := by rw [Int.pow_succ]; omega
        go_wp2_with fail
        refine HKK.out.mono ?_
        rintro e w2 ⟨rfl, hf2⟩
        have HS2 := Lib.hid (HSW.out.frF hf2)
        have HF2 := Lib.hid (HFR.out.trans hf2 (fun _ _ h => h.elim))
        clear hf2
        go_wp2_with fail
        refine (HH.out w2).mono ?_
        rintro e w3 ⟨rfl, rfl⟩
        generalize hexR (peekOf rs (p + k)) = d at *
        have hs4 := HS2.out
        have c14 : w2.cell? ⟨b, 1, none⟩ = some (.int .i64 ((p + k : Nat) : Int)) := hs4.blk.cell 1
        have f14 := hs4.blk.frozen 1
        have hl4 := hs4.blk.lt
        have HG := Lib.hid (hs4.go (p + k + 1) (by omega))
        clear hs4
        have w1 : wrap64 (n * 16) = n * 16 := IntWalk.wrap64_in _ (by omega)
        have w2 : wrap64 (n * 16 + d) = n * 16 + d := IntWalk.wrap64_in _ (by omega)
        go_wp2_with fail
        go_roundg (m - (k + 1))
        case measure => omega
        case rel => exact ⟨k + 1, n * 16 + d, by omega, by omega, by omega, by omega, by rw [Int.mul_comm n 16]; exact HP4, by rw [show m - (k + 1) = j by omega, Int.mul_comm n 16]; exact HXX.out, rfl, rfl, HG.out.1, HF2.out.trans' HG.out.2⟩
    · have hkm2 : k = m := by omega
      subst hkm2
      have hx2 := HX.out
      rw [Nat.sub_self, hexF_zero] at hx2
      have HCL := Lib.hid (fun w1 => Tryz.utf8_ValidRune n w1)
      rw [signR_valid] at HCL
      by_cases hbig : n ≤ 1114111
      · have w3 : IntKind.i32.wrap n = n := IntWalk.i32_in _ (by omega)
        by_cases hsg : signR n = true
        · have hpm : pm = (n, p + k, true) := by
            rw [HM.out]; unfold numR; rw [← hx2, if_pos rfl, if_pos hsg]
          rw [hsg] at HCL
          clear hx2
          subst hpm
          go_wp2_with fail
          refine (HCL.out wr).mono ?_
          rintro e w3 ⟨rfl, rfl⟩
          go_wp2_with fail
          go_ret2
          exact ⟨rfl, HSW.out, HFR.out⟩
        · have hpm : pm = (0, p + k - 1, false) := by
            rw [HM.out]; unfold numR; rw [← hx2, if_pos rfl, if_neg hsg]
          have hsf : signR n = false := by simpa using hsg
          rw [hsf] at HCL
          have hk0 : 0 < k := by
            rcases Nat.eq_zero_or_pos k with h0 | h0
            · subst h0
              exact absurd (show signR n = true from decide_eq_true (by have : (16 : Int) ^ 0 = 1 := rfl; omega)) hsg
            · exact h0
          clear hx2
          subst hpm
          have hs4 := HSW.out
          have c14 : wr.cell? ⟨b, 1, none⟩ = some (.int .i64 ((p + k : Nat) : Int)) := hs4.blk.cell 1
          have f14 := hs4.blk.frozen 1
          have hl4 := hs4.blk.lt
          have HG := Lib.hid (hs4.go (p + k - 1) (by omega))
          clear hs4
          have hcast : ((p + k : Nat) : Int) - 1 = ((p + k - 1 : Nat) : Int) := by omega
          have wq : wrap64 (((p + k : Nat) : Int) - 1) = ((p + k - 1 : Nat) : Int) := by rw [IntWalk.wrap64_in _ (by omega)]; omega
          have HEQ := Lib.hid hcast
          clear hcast
          go_wp2_with fail
          refine (HCL.out wr).mono ?_
          rintro e w3 ⟨rfl, rfl⟩
          go_wp2_with fail
          skip
          go_ret2
          have hg1 := HG.out
          rw [show ((p + k - 1 : Nat) : Int) = (p : Int) + (k : Int) - 1 by omega] at hg1
          exact ⟨rfl, hg1.1, HFR.out.trans' hg1.2⟩
      · have hsg : ¬ signR n = true := fun h => by
          have := of_decide_eq_true (show decide (0 ≤ n ∧ n ≤ 1114111 ∧ (n < 55296 ∨ 57343 < n)) = true from h)
          omega
        have hpm : pm = (0, p + k - 1, false) := by
          rw [HM.out]; unfold numR; rw [← hx2, if_pos rfl, if_neg hsg]
        have hk0 : 0 < k := by
          rcases Nat.eq_zero_or_pos k with h0 | h0
          · subst h0
            exact absurd (show (16 : Int) ^ 0 = 1 from rfl) (by omega)
          · exact h0
        clear hx2
        subst hpm
        have hs4 := HSW.out
        have c14 : wr.cell? ⟨b, 1, none⟩ = some (.int .i64 ((p + k : Nat) : Int)) := hs4.blk.cell 1
        have f14 := hs4.blk.frozen 1
        have hl4 := hs4.blk.lt
        have HG := Lib.hid (hs4.go (p + k - 1) (by omega))
        clear hs4
        have hcast : ((p + k : Nat) : Int) - 1 = ((p + k - 1 : Nat) : Int) := by omega
        have wq : wrap64 (((p + k : Nat) : Int) - 1) = ((p + k - 1 : Nat) : Int) := by rw [IntWalk.wrap64_in _ (by omega)]; omega
        have HEQ := Lib.hid hcast
        clear hcast
        go_wp2_with fail
        skip
        go_ret2
        have hg1 := HG.out
        rw [show ((p + k - 1 : Nat) : Int) = (p : Int) + (k : Int) - 1 by omega] at hg1
        exact ⟨rfl, hg1.1, HFR.out.trans' hg1.2⟩

end Go.Proofs.YtebddgdkndmpjaaGreatDoor
