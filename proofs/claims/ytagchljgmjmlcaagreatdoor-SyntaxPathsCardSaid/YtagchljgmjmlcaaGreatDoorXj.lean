/- Texts of the proof, one behind the other: Fd, Fe, Fh, Fi, Fj, Fn, Go. -/
import Derived.Test.YtagchljgmjmlcaaGreatDoorXg
import Derived.Test.YtagchljgmjmlcaaGreatDoorXf
import Derived.Test.YtagchljgmjmlcaaGreatDoorXe
import Derived.Test.YtagchljgmjmlcaaGreatDoorXd
import Derived.Deep.CutBlock
import Derived.Deep.RegionLawGrows
import Derived.Deep.Cut
import Derived.Deep.CutRange
import Derived.WalkKit
import Derived.WalkLawsBesides
import Derived.WalkSpells
import Derived.Deep.QuietTactic
import Derived.BigRegion
import Derived.BigQuiet
import Derived.Lib.Hide
import Derived.Outline
import Derived.Deep.AppendLies
import Derived.Deep.RegionLaw
import Derived.Deep.RegionWith
import Derived.Deep.RegionHeld3
import Derived.Deep.LoopGhost
import Derived.Deep.DeepFit
import Derived.Laws.ResultCell
import Derived.Laws.RangeAny
import Derived.Deep.MidRow
import Derived.StillTailTactics
import Derived.OpenShut
import Derived.Lib.AppendStr
import Derived.Lib.LaidTab
namespace Go.Proofs.YtagchljgmjmlcaaGreatDoor
set_option linter.unusedVariables false
open Go.RowKit Go
set_option maxRecDepth 100000
set_option maxHeartbeats 40000000

theorem wruneG_any (B b : Nat) (l : List UInt8) (r : Int) (w : World) (hr0 : 0 ≤ r) (hr1 : r ≤ 1114111) (hl : l.length ≤ 100000) (hB : B ≤ w.heap.size) (h : Bu w B b l) :
    Calls Tryz.prog 172 #[.pointer (some ⟨b, 0, none⟩), .int .i32 r] w fun e w' => (∃ k : Int, e = .returned (.tuple #[.int .i64 k, .nilIface])) ∧ Bu w' B b (l ++ Lib.encodeRune r) ∧ Fr (fun j => B ≤ j) w w' := by
 obtain ⟨p, v, hb, hp, hr, hBb⟩ := h
 have HC : Calls Tryz.prog 106 #[.pointer (some ⟨b, 0, none⟩)] w fun e w' => e = .returned (.tuple #[]) ∧ Blk w' b 171 #[.pointer (some ⟨b, 0, none⟩), v] ∧ w'.ownsRow B 5 1 v l.length (Lib.byteCells l) ∧ Fr (fun j => j = b) w w' := by
  rcases hp with rfl | rfl
  · refine (copy_fresh b v w hb).mono ?_
    rintro e w' ⟨rfl, rfl⟩
    have FS : Fr (fun j => j = b) w (w.setCell ⟨b, 0, none⟩ (.pointer (some ⟨b, 0, none⟩))) := (Fr.refl (fun j => j = b) w).setCell ⟨b, 0, none⟩ (fun _ => rfl) _
    exact ⟨rfl, hb.set_ 0 (.pointer (some ⟨b, 0, none⟩)), ownsRow_fr hr FS (fun j hj e => own_blk_ne hr hb (by decide) (by rw [hj, e])), FS⟩
  · refine (copy_used b v w hb).mono ?_
    rintro e w' ⟨rfl, rfl⟩
    exact ⟨rfl, hb, hr, Fr.refl _ _⟩
 obtain ⟨A, cc, hv⟩ := row_shape hr
 subst hv
 have HCH := Lib.hid HC
 have HA := Lib.hid (fun w1 h1 h2 => Tryz.utf8_AppendRune_plain B (.slice A l.length cc) l.length (Lib.byteCells l) r (by omega) (by omega) w1 h2 (by omega) h1)
 rw [Lib.runeCells_length, ← Lib.byteCells_encodeRune] at HA
 have hen := Lib.encodeRuneZ_length r
 have hle : (Lib.encodeRune r).length ≤ 4 := by unfold Lib.encodeRune; rw [List.length_map]; exact hen.2
 generalize Lib.encodeRune r = er at *
 clear HC hb hp hr hen
 go_enter Tryz.func172, Tryz.ntmps172
 go_wp2_with fail
 refine HCH.out.mono ?_
 rintro e w1 ⟨rfl, hb1, hr1, hf1⟩
 have c1 : w1.cell? ⟨b, 1, none⟩ = some (.slice A l.length cc) := hb1.cell 1
 have HAA := Lib.hid (HA.out w1 (Nat.le_trans hB hf1.size) hr1)
 have HB1 := Lib.hid hb1
 have HR1 := Lib.hid hr1
 have HF1 := Lib.hid (hf1.mono (T := fun j => B ≤ j) (fun j _ e => by omega))
 clear hb1 hr1 hf1
 go_wp2_with fail
 refine HAA.out.mono ?_
 rintro e w2 ⟨v', rfl, hr2, o, hgr⟩
 have hf2 : Fr (fun j => (Value.slice A l.length cc).ownBlock = some j) w1 w2 := ((Fr.refl _ w1).alloc o).trans (Fr.of_grown hgr) (fun _ _ h => h)
 obtain ⟨A2, d2, hv2⟩ := row_shape hr2
 subst hv2
 have hb2 := HB1.out.fr hf2 (own_blk_ne HR1.out HB1.out (by decide))
 have c2 : w2.cell? ⟨b, 1, none⟩ = some (.slice A l.length cc) := hb2.cell 1
 have f2 := hb2.frozen 1
 have hl2 := hb2.lt
 have FS : Fr (fun j => j = b) w2 (w2.setCell ⟨b, 1, none⟩ (.slice A2 (l.length + er.length) d2)) := (Fr.refl (fun j => j = b) w2).setCell ⟨b, 1, none⟩ (fun _ => rfl) _
 have hbc : Lib.byteCells l ++ Lib.byteCells er = Lib.byteCells (l ++ er) := by unfold Lib.byteCells; rw [List.map_append]
 rw [hbc] at hr2
 have HBU := Lib.hid (show Bu (w2.setCell ⟨b, 1, none⟩ (.slice A2 (l.length + er.length) d2)) B b (l ++ er) from ⟨.pointer (some ⟨b, 0, none⟩), .slice A2 (l.length + er.length) d2, hb2.set_ 1 (.slice A2 (l.length + er.length) d2), .inr rfl, by
  rw [List.length_append]
  exact ownsRow_fr hr2 FS (fun j hj e => own_blk_ne hr2 hb2 (by decide) (by rw [hj, e])), hBb⟩)
 have HF2 := Lib.hid ((HF1.out.trans hf2 (fun j _ e => (HR1.out.lt j e).1)).trans FS (fun j _ e => by omega))
 have c3 : (w2.setCell ⟨b, 1, none⟩ (.slice A2 (l.length + er.length) d2)).cell? ⟨b, 1, none⟩ = some (.slice A2 (l.length + er.length) d2) := (hb2.set_ 1 (.slice A2 (l.length + er.length) d2)).cell 1
 clear hb2 hr2 hf2 FS hgr hbc
 go_wp2_with fail
 go_ret2
 exact ⟨⟨_, rfl⟩, HBU.out, HF2.out⟩

theorem bstringG_any (B b : Nat) (l : List UInt8) (w : World) (hB : B ≤ w.heap.size) (h : Bu w B b l) : Calls Tryz.prog 81 #[.pointer (some ⟨b, 0, none⟩)] w fun e w' => e = .returned (.string ⟨l.toArray⟩) ∧ Fr (fun j => B ≤ j) w w' := by
 obtain ⟨p, v, hb, hp, hr, hBb⟩ := h
 have hne := own_blk_ne hr hb (by decide)
 have hr' : w.ownsRow B 5 1 v (Lib.byteCells l).length (Lib.byteCells l) := by rw [byteCells_len]; exact hr
 have hbu : Lib.IsBuilder 171 5 B b (Lib.byteCells l) w := by
  rcases hp with rfl | rfl
  · exact .inl ⟨hBb, v, hb, hr', hne⟩
  · exact .inr ⟨hBb, v, hb, hr', hne⟩
 refine (Tryz.Builder_String_any B b l w hbu hB).mono ?_
 rintro e w' ⟨rfl, hbel⟩
 exact ⟨rfl, ⟨hbel.os, hbel.tape, hbel.output, hbel.size, fun k hk hn => hbel.block k (by omega)⟩⟩

/-- A hexadecimal digit's number; below 0: it is none. -/
def hexR (c : Int) : Int := if 48 ≤ c ∧ c ≤ 57 then c - 48 else if 97 ≤ c ∧ c ≤ 102 then c - 87 else if 65 ≤ c ∧ c ≤ 70 then c - 55 else -1
theorem hexR_le (c : Int) : -1 ≤ hexR c ∧ hexR c ≤ 15 := by
 unfold hexR
 (repeat' split) <;> omega
/-- So many digits from a place on: their number, the place behind them, or of what is none. -/
def hexF (rs : List Int) : Nat → Nat → Int → Int × Nat × Bool
 | 0, i, n => (n, i, true)
 | m + 1, i, n => if hexR (peekOf rs i) < 0 then (0, i, false) else hexF rs m (i + 1) (16 * n + hexR (peekOf rs i))
def signR (x : Int) : Bool := decide (0 ≤ x ∧ x ≤ 1114111 ∧ (x < 55296 ∨ 57343 < x))
/-- A sign of so many digits. -/
def numR (rs : List Int) (m i : Nat) : Int × Nat × Bool :=
 if (hexF rs m i 0).2.2 = true then (if signR (hexF rs m i 0).1 = true then hexF rs m i 0 else (0, (hexF rs m i 0).2.1 - 1, false)) else hexF rs m i 0
theorem hex_in {rs : List Int} {i : Nat} (h : ¬ hexR (peekOf rs i) < 0) : i < rs.length := by
 unfold peekOf at h
 split at h
 · assumption
 · exact absurd (by decide) h
theorem hexF_ok (rs : List Int) : ∀ m i n, (hexF rs m i n).2.2 = true → (hexF rs m i n).2.1 = i + m ∧ (m = 0 ∨ i + m ≤ rs.length)
 | 0, i, n, _ => ⟨rfl, .inl rfl⟩
 | m + 1, i, n, h => by
  unfold hexF at h ⊢
  split at h
  · cases h
  · rename_i hx
    rw [if_neg hx]
    have hi := hex_in hx
    obtain ⟨h1, h2⟩ := hexF_ok rs m (i + 1) _ h
    exact ⟨by omega, .inr (by omega)⟩
theorem hexF_place (rs : List Int) : ∀ m i n, i ≤ rs.length → i ≤ (hexF rs m i n).2.1 ∧ (hexF rs m i n).2.1 ≤ rs.length
 | 0, i, n, h => ⟨Nat.le_refl _, h⟩
 | m + 1, i, n, h => by
  unfold hexF
  split
  · exact ⟨Nat.le_refl _, h⟩
  · rename_i hx
    have hi := hex_in hx
    have := hexF_place rs m (i + 1) (16 * n + hexR (peekOf rs i)) (by omega)
    omega
theorem hexp_any (r : Int) (w : World) (hr : -1 ≤ r) (hr2 : r ≤ 1114111) : Calls Tryz.prog 193 #[.int .i32 r] w fun e w' => e = .returned (.int .i64 (hexR r)) ∧ w = w' := by
 obtain ⟨c, hc⟩ : ∃ c, c = hexR r := ⟨_, rfl⟩
 rw [← hc]
 have HC := Lib.hid hc
 clear hc
 have w1 : IntKind.i32.wrap (r - 48) = r - 48 := IntWalk.i32_in _ (by omega)
 have w2 : IntKind.i32.wrap (r - 97) = r - 97 := IntWalk.i32_in _ (by omega)
 have w3 : IntKind.i32.wrap (r - 65) = r - 65 := IntWalk.i32_in _ (by omega)
 go_enter Tryz.func193, Tryz.ntmps193
 go_wp2_with fail
 all_goals (go_ret; refine ⟨congrArg (fun n => Ending.returned (.int .i64 n)) ?_, rfl⟩; rw [HC.out]; unfold hexR; (repeat' split) <;> omega)

theorem signR_valid (r : Int) : Lib.validRune r = signR r := by
 unfold Lib.validRune signR
 first | rfl | (simp only [Bool.decide_and, Bool.decide_or]; rfl) | (apply Bool.eq_iff_iff.2; simp; omega)
def clsX (r : Int) : Int := if signR r = true then classOf r else 6
theorem clsX_any (r : Int) (w : World) : Calls Tryz.prog 98 #[.int .i32 r] w fun e w' => e = .returned (.int .i64 (clsX r)) ∧ w = w' := by
 unfold clsX
 by_cases h : signR r = true
 · rw [if_pos h]
   exact class_of r w (by rw [signR_valid]; exact h)
 · rw [if_neg h]
   have HV := Tryz.utf8_ValidRune r w
   rw [signR_valid, (by simpa using h : signR r = false)] at HV
   clear h
   go_enter Tryz.func98, Tryz.ntmps98
   go_wp2_with fail
   refine HV.mono ?_
   rintro e w1 ⟨rfl, rfl⟩
   go_wp2_with fail
   go_ret
   exact ⟨rfl, rfl⟩
theorem clsX_six (r : Int) : (clsX r == 6) = !signR r := by
 unfold clsX classOf
 by_cases h : signR r = true
 · rw [if_pos h, h]
   (repeat' split) <;> rfl
 · rw [if_neg h, (by simpa using h : signR r = false)]
   rfl
theorem pow16 (k : Nat) (h : k ≤ 8) : (16 : Int) ^ k ≤ 4294967296 := by
 have : ∀ k : Fin 9, (16 : Int) ^ (k : Nat) ≤ 4294967296 := by decide
 exact this ⟨k, by omega⟩
theorem peek_big {rs : List Int} (hv : ∀ r, r ∈ rs → Lib.validRune r = true ∧ 0 ≤ r) (q : Nat) : -1 ≤ peekOf rs q ∧ peekOf rs q ≤ 1114111 := by
 unfold peekOf
 split
 · rename_i h
   have hm : rs.getD q 0 ∈ rs := by rw [List.getD_eq_getElem?_getD, List.getElem?_eq_getElem h]; exact List.getElem_mem h
   generalize rs.getD q 0 = x at *
   have h1 := (hv x hm).1
   rw [signR_valid] at h1
   have h2 := of_decide_eq_true (show decide (0 ≤ x ∧ x ≤ 1114111 ∧ (x < 55296 ∨ 57343 < x)) = true from h1)
   omega
 · omega
theorem hexF_zero (rs : List Int) (i : Nat) (n : Int) : hexF rs 0 i n = (n, i, true) := rfl
theorem hexF_succ (rs : List Int) (m i : Nat) (n : Int) : hexF rs (m + 1) i n = if hexR (peekOf rs i) < 0 then (0, i, false) else hexF rs m (i + 1) (16 * n + hexR (peekOf rs i)) := rfl

theorem digits_any (m : Nat) (b c p : Nat) (A : Option Addr) (rs : List Int) (w : World) (hm : m ≤ 8) (h : Sc w b A c rs p) :
    Calls Tryz.prog 171 #[.pointer (some ⟨b, 0, none⟩), .int .i64 (m : Int)] w (ScPost w b A c rs (numR rs m p).2.1 (.tuple #[.int .i32 (numR rs m p).1, .bool (numR rs m p).2.2])) := by
 have HPL := Lib.hid (place_sc b c p A rs w h)
 have HP2 := Lib.hid (fun q w1 h1 => place_sc b c q A rs w1 h1)
 have HK := Lib.hid (fun q w1 h1 => peek_sc b c q A rs w1 h1)
 have HN := Lib.hid (fun q w1 h1 => next_sc b c q A rs w1 h1)
 have HS := Lib.hid h
 have hle := h.le
 have hsm := h.small
 have HPB := Lib.hid (fun q => peek_big h.valid q)
 obtain ⟨pm, hpm⟩ : ∃ x, x = numR rs m p := ⟨_, rfl⟩
 rw [← hpm]
 have HM := Lib.hid hpm
 clear h hpm
 go_enter Tryz.func171, Tryz.ntmps171
 go_wp2_with fail
 refine HPL.out.mono ?_
 rintro e w1 ⟨rfl, rfl⟩
 go_wp2_with fail
 go_loopg [6, 7, 12] (m) (fun g a x12 x7 wr => ∃ (k : Nat) (n : Int) (l : Nat), m ≤ k + g ∧ k ≤ m ∧ p + k ≤ rs.length ∧ 0 ≤ n ∧ n < 16 ^ k ∧ hexF rs (m - k) (p + k) n = hexF rs m p 0 ∧ (0 < k → l + 1 = p + k) ∧ l ≤ rs.length ∧ a = .int .i64 n ∧ x12 = .int .i64 (l : Int) ∧ x7 = .int .i64 (k : Int) ∧ Sc wr b A c rs (p + k) ∧ Fr (fun j => j = b) w wr)
 case atStart => exact ⟨0, 0, p, by omega, Nat.zero_le _, by omega, by decide, by decide, rfl, by omega, by omega, rfl, rfl, rfl, HS.out, Fr.refl _ _⟩
 case round =>
  obtain ⟨k, n, l, hg, hk, hpk, hn0, hn1, hx, hl1, hl2, rfl, rfl, rfl, hs, hfr⟩ := hrel
  have HSW := Lib.hid hs
  have HFR := Lib.hid hfr
  have HKK := Lib.hid (HK.out (p + k) wr hs)
  have HPP := Lib.hid (fun w1 h1 => HP2.out (p + k) w1 h1)
  have HNN := Lib.hid (fun w1 h1 => HN.out (p + k) w1 h1)
  have hpb := HPB.out (p + k)
  have HX := Lib.hid hx
  have hp16 := pow16 k (by omega)
  have HB2 := Lib.hid (fun q hq w1 h1 => back_sc b c (p + k) q A rs w1 h1 hq)
  clear hs hfr hx
  by_cases hkm : k < m
  · obtain ⟨j, hj⟩ : ∃ j, m - k = j + 1 := ⟨m - k - 1, by omega⟩
    have hx2 := HX.out
    rw [hj, hexF_succ] at hx2
    have HH := Lib.hid (fun w1 => hexp_any (peekOf rs (p + k)) w1 hpb.1 hpb.2)
    by_cases hd : hexR (peekOf rs (p + k)) < 0
    · rw [if_pos hd] at hx2
      have hpm : pm = (0, p + k, false) := by
       rw [HM.out]; unfold numR; rw [← hx2]; rfl
      clear hx2
      subst hpm
      go_wp2_with fail
      refine HKK.out.mono ?_
      rintro e w2 ⟨rfl, hf2⟩
      have HF2 := Lib.hid hf2
      clear hf2
      go_wp2_with fail
      refine (HH.out w2).mono ?_
      rintro e w3 ⟨rfl, rfl⟩
      generalize hexR (peekOf rs (p + k)) = d at *
      go_wp2_with fail
      go_ret2
      exact ⟨rfl, HSW.out.frF HF2.out, HFR.out.trans HF2.out (fun _ _ h => h.elim)⟩
    · rw [if_neg hd] at hx2
      have hplt := hex_in hd
      have hdb := hexR_le (peekOf rs (p + k))
      unfold nextAt at HNN
      rw [if_pos hplt] at HNN
      have HXX := Lib.hid hx2
      clear hx2
      have HP3 : n + 1 ≤ 16 ^ k := by omega
      have HP4 : 16 * n + hexR (peekOf rs (p + k)) < 16 ^ (k + 1) := by rw [Int.pow_succ]; omega
      go_wp2_with fail
      refine HKK.out.mono ?_
      rintro e w2 ⟨rfl, hf2⟩
      have HS2 := Lib.hid (HSW.out.frF hf2)
      have HF2 := Lib.hid (HFR.out.trans hf2 (fun _ _ h => h.elim))
      clear hf2
      go_wp2_with fail
      refine (HH.out w2).mono ?_
      rintro e w3 ⟨rfl, rfl⟩
      generalize hexR (peekOf rs (p + k)) = d at *
      go_wp2_with fail
      refine (HPP.out w2 HS2.out).mono ?_
      rintro e w3 ⟨rfl, rfl⟩
      go_wp2_with fail
      refine (HNN.out w2 HS2.out).mono ?_
      rintro e w3 ⟨rfl, hs3, hf3⟩
      have HS3 := Lib.hid hs3
      have HF3 := Lib.hid (HF2.out.trans hf3 (fun _ _ h => h))
      clear hs3 hf3
      have w1 : wrap64 (16 * n) = 16 * n := IntWalk.wrap64_in _ (by omega)
      have w2 : wrap64 (16 * n + d) = 16 * n + d := IntWalk.wrap64_in _ (by omega)
      go_wp2_with fail
      go_roundg (m - (k + 1))
      case measure => omega
      case rel => exact ⟨k + 1, 16 * n + d, p + k, by omega, by omega, by omega, by omega, HP4, by rw [show m - (k + 1) = j by omega]; exact HXX.out, by omega, by omega, rfl, rfl, rfl, HS3.out, HF3.out⟩
  · have hkm2 : k = m := by omega
    subst hkm2
    have hx2 := HX.out
    rw [Nat.sub_self, hexF_zero] at hx2
    have HCL := Lib.hid (fun x w1 => clsX_any x w1)
    by_cases hbig : n ≤ 1114111
    · have w3 : IntKind.i32.wrap n = n := IntWalk.i32_in _ (by omega)
      by_cases hsg : signR n = true
      · have hpm : pm = (n, p + k, true) := by
         rw [HM.out]; unfold numR; rw [← hx2, if_pos rfl, if_pos hsg]
        have h6 : (clsX n == 6) = false := by rw [clsX_six, hsg]; rfl
        have H6 : ¬ clsX n = 6 := by simpa using h6
        clear hx2
        subst hpm
        go_wp2_with fail
        refine (HCL.out n wr).mono ?_
        rintro e w3 ⟨rfl, rfl⟩
        generalize clsX n = cl at *
        go_wp2_with fail
        go_ret2
        exact ⟨rfl, HSW.out, HFR.out⟩
      · have hpm : pm = (0, p + k - 1, false) := by
         rw [HM.out]; unfold numR; rw [← hx2, if_pos rfl, if_neg hsg]
        have h6 : (clsX n == 6) = true := by rw [clsX_six, (by simpa using hsg : signR n = false)]; rfl
        have H6 : clsX n = 6 := by simpa using h6
        have hk0 : 0 < k := by
         rcases Nat.eq_zero_or_pos k with h0 | h0
         · subst h0
           exact absurd (show signR n = true from decide_eq_true (by have : (16 : Int) ^ 0 = 1 := rfl; omega)) hsg
         · exact h0
        have hl3 := hl1 hk0
        rw [show p + k - 1 = l by omega] at hpm
        clear hx2
        subst hpm
        go_wp2_with fail
        refine (HCL.out n wr).mono ?_
        rintro e w3 ⟨rfl, rfl⟩
        rw [H6]
        go_wp2_with fail
        refine (HB2.out l hl2 _ HSW.out).mono ?_
        rintro e w4 ⟨rfl, hs4, hf4⟩
        have HS4 := Lib.hid hs4
        have HF4 := Lib.hid (HFR.out.trans hf4 (fun _ _ h => h))
        clear hs4 hf4
        go_wp2_with fail
        go_ret2
        exact ⟨rfl, HS4.out, HF4.out⟩
    · have hsg : ¬ signR n = true := fun h => by
       have := of_decide_eq_true (show decide (0 ≤ n ∧ n ≤ 1114111 ∧ (n < 55296 ∨ 57343 < n)) = true from h)
       omega
      have hpm : pm = (0, p + k - 1, false) := by
       rw [HM.out]; unfold numR; rw [← hx2, if_pos rfl, if_neg hsg]
      have hk0 : 0 < k := by
       rcases Nat.eq_zero_or_pos k with h0 | h0
       · subst h0
         exact absurd (show (16 : Int) ^ 0 = 1 from rfl) (by omega)
       · exact h0
      have hl3 := hl1 hk0
      rw [show p + k - 1 = l by omega] at hpm
      clear hx2
      subst hpm
      go_wp2_with fail
      refine (HB2.out l hl2 _ HSW.out).mono ?_
      rintro e w4 ⟨rfl, hs4, hf4⟩
      have HS4 := Lib.hid hs4
      have HF4 := Lib.hid (HFR.out.trans hf4 (fun _ _ h => h))
      clear hs4 hf4
      go_wp2_with fail
      go_ret2
      exact ⟨rfl, HS4.out, HF4.out⟩

/-- A list of signs, in bytes. -/
def encL (l : List Int) : List UInt8 := l.flatMap Lib.encodeRune
def strL (l : List Int) : ByteArray := ⟨(encL l).toArray⟩
def optS : Option (List Int) → ByteArray
 | none => ⟨#[]⟩
 | some l => strL l
theorem encL_push (l : List Int) (r : Int) : encL l ++ Lib.encodeRune r = encL (l ++ [r]) := by
 unfold encL
 rw [List.flatMap_append]
 congr 1
 exact (List.flatMap_singleton _ _).symm
theorem encodeRune_le (r : Int) : (Lib.encodeRune r).length ≤ 4 := by
 have hen := Lib.encodeRuneZ_length r
 unfold Lib.encodeRune
 rw [List.length_map]
 exact hen.2
theorem encL_len (l : List Int) : (encL l).length ≤ 4 * l.length := by
 induction l with
 | nil => exact Nat.zero_le _
 | cons r l ih =>
  have h1 := encodeRune_le r
  have e : encL (r :: l) = Lib.encodeRune r ++ encL l := by unfold encL; rw [List.flatMap_cons]
  rw [e, List.length_append, List.length_cons]
  omega
/-- An IRI's signs behind the bracket; the place behind, or of what can't stand there. -/
def iriT (rs : List Int) (i : Nat) (out : List Int) : Option (List Int) × Nat :=
 if h : i < rs.length then
  (if peekOf rs i = 10 then (none, i) else if peekOf rs i = 62 then (some out, i + 1)
   else if peekOf rs i = 92 then
    (if peekOf rs (i + 1) = 117 then (if (numR rs 4 (i + 2)).2.2 = true then iriT rs (i + 6) (out ++ [(numR rs 4 (i + 2)).1]) else (none, (numR rs 4 (i + 2)).2.1))
     else if peekOf rs (i + 1) = 85 then (if (numR rs 8 (i + 2)).2.2 = true then iriT rs (i + 10) (out ++ [(numR rs 8 (i + 2)).1]) else (none, (numR rs 8 (i + 2)).2.1))
     else (none, i + 1))
   else iriT rs (i + 1) (out ++ [peekOf rs i]))
 else (none, i)
termination_by rs.length - i
decreasing_by all_goals omega
theorem numR_ok {rs : List Int} {m i : Nat} (h : (numR rs m i).2.2 = true) : (numR rs m i).2.1 = i + m ∧ (m = 0 ∨ i + m ≤ rs.length) ∧ signR (numR rs m i).1 = true := by
 unfold numR at h ⊢
 by_cases h1 : (hexF rs m i 0).2.2 = true
 · rw [if_pos h1] at h ⊢
   by_cases h2 : signR (hexF rs m i 0).1 = true
   · rw [if_pos h2]
     have := hexF_ok rs m i 0 h1
     exact ⟨this.1, this.2, h2⟩
   · rw [if_neg h2] at h
     cases h
 · rw [if_neg h1] at h
   exact absurd h h1
theorem signR_iff (r : Int) : signR r = true ↔ (0 ≤ r ∧ r ≤ 1114111 ∧ (r < 55296 ∨ 57343 < r)) := by
 unfold signR
 exact decide_eq_true_iff
theorem iriT_end {rs : List Int} {i : Nat} (out : List Int) (h : ¬ (i < rs.length ∧ peekOf rs i ≠ 10)) : iriT rs i out = (none, i) := by
 rw [iriT]
 by_cases hi : i < rs.length
 · rw [dif_pos hi, if_pos (Classical.byContradiction fun h2 => h ⟨hi, h2⟩)]
 · rw [dif_neg hi]
theorem iriT_shut {rs : List Int} {i : Nat} (out : List Int) (h : peekOf rs i = 62) : iriT rs i out = (some out, i + 1) := by
 rw [iriT, dif_pos (peek_lt (by rw [h]; decide)), if_neg (by rw [h]; decide), if_pos h]
theorem iriT_u {rs : List Int} {i : Nat} (out : List Int) (h : peekOf rs i = 92) (h2 : peekOf rs (i + 1) = 117) : iriT rs i out = if (numR rs 4 (i + 2)).2.2 = true then iriT rs (i + 6) (out ++ [(numR rs 4 (i + 2)).1]) else (none, (numR rs 4 (i + 2)).2.1) := by
 rw [iriT, dif_pos (peek_lt (by rw [h]; decide)), if_neg (by rw [h]; decide), if_neg (by rw [h]; decide), if_pos h, if_pos h2]
theorem iriT_U {rs : List Int} {i : Nat} (out : List Int) (h : peekOf rs i = 92) (h2 : peekOf rs (i + 1) = 85) : iriT rs i out = if (numR rs 8 (i + 2)).2.2 = true then iriT rs (i + 10) (out ++ [(numR rs 8 (i + 2)).1]) else (none, (numR rs 8 (i + 2)).2.1) := by
 rw [iriT, dif_pos (peek_lt (by rw [h]; decide)), if_neg (by rw [h]; decide), if_neg (by rw [h]; decide), if_pos h, if_neg (by rw [h2]; decide), if_pos h2]
theorem iriT_no {rs : List Int} {i : Nat} (out : List Int) (h : peekOf rs i = 92) (h2 : ¬ peekOf rs (i + 1) = 117) (h3 : ¬ peekOf rs (i + 1) = 85) : iriT rs i out = (none, i + 1) := by
 rw [iriT, dif_pos (peek_lt (by rw [h]; decide)), if_neg (by rw [h]; decide), if_neg (by rw [h]; decide), if_pos h, if_neg h2, if_neg h3]
theorem iriT_go {rs : List Int} {i : Nat} (out : List Int) (hi : i < rs.length) (h1 : ¬ peekOf rs i = 10) (h2 : ¬ peekOf rs i = 62) (h3 : ¬ peekOf rs i = 92) : iriT rs i out = iriT rs (i + 1) (out ++ [peekOf rs i]) := by
 rw [iriT, dif_pos hi, if_neg h1, if_neg h2, if_neg h3]
def iriR (rs : List Int) (p : Nat) : Option (List Int) × Nat := if peekOf rs p = 60 then iriT rs (p + 1) [] else (none, p)

theorem ntiri_any (b c p : Nat) (A : Option Addr) (rs : List Int) (w : World) (h : Sc w b A c rs p) :
    Calls Tryz.prog 152 #[.pointer (some ⟨b, 0, none⟩)] w (IriPost w b A c rs (iriR rs p).2 (.tuple #[.string (optS (iriR rs p).1), .bool (iriR rs p).1.isSome])) := by
 obtain ⟨res, hres⟩ : ∃ x, x = iriR rs p := ⟨_, rfl⟩
 rw [← hres]
 have HI := Lib.hid (fun T q w1 hT hs h1 => is_sc T b c q A rs w1 hT hs h1)
 have HE := Lib.hid (fun q w1 h1 => end_sc b c q A rs w1 h1)
 have HK := Lib.hid (fun q w1 h1 => peek_sc b c q A rs w1 h1)
 have HN := Lib.hid (fun q w1 h1 => next_sc b c q A rs w1 h1)
 have HD := Lib.hid (fun m q w1 hm h1 => digits_any m b c q A rs w1 hm h1)
 have I0 := Lib.hid (is_sc ⟨#[60]⟩ b c p A rs w (ascii_of (by decide)) (by decide) h)
 have HPB := Lib.hid (fun q => peek_big h.valid q)
 rw [isAt_one] at I0
 unfold IsPost at I0
 have HS := Lib.hid h
 have hbl := h.blk.lt
 have hle := h.le
 have hsm := h.small
 have hpos := h.pos
 unfold iriR at hres
 clear h
 by_cases hp0 : peekOf rs p = 60
 · rw [if_pos hp0] at hres
   have HRES := Lib.hid hres
   rw [hp0] at I0
   simp only [show decide ((60 : Int) = ((60 : UInt8).toNat : Int)) = true from rfl, if_true] at I0
   have hplt := peek_lt (rs := rs) (p := p) (by rw [hp0]; decide)
   clear hres hp0
   go_enter Tryz.func152, Tryz.ntmps152
   go_wp2_with fail
   refine I0.out.mono ?_
   rintro e w1 ⟨rfl, hs1, hf1⟩
   rw [show p + (⟨#[60]⟩ : ByteArray).size = p + 1 from rfl] at hs1
   have HS1 := Lib.hid hs1
   have HF1 := Lib.hid hf1
   have hsz1 := hf1.size
   have BU0 := Lib.hid (show Bu (w1.alloc (.cells #[.pointer none, .slice none 0 0] 171)) w1.heap.size w1.heap.size (encL []) from ⟨_, _, Blk.new _ _ _, .inl rfl, World.ownsRow_nil _ _ _ _, Nat.le_refl _⟩)
   clear hs1 hf1
   go_wp2_with fail
   go_loopg [14] (rs.length) (fun g nv wr => ∃ (i : Nat) (out : List Int), rs.length ≤ i + g ∧ i ≤ rs.length ∧ out.length ≤ i ∧ iriT rs i out = res ∧ Sc wr b A c rs i ∧ Bu wr w1.heap.size w1.heap.size (encL out) ∧ Fr (fun j => j = b ∨ w1.heap.size ≤ j) w wr ∧ w1.heap.size < wr.heap.size)
   case atStart => exact ⟨p + 1, [], by omega, by omega, Nat.zero_le _, HRES.out.symm, HS1.out.frF ((Fr.refl _ _).alloc _), BU0.out, (HF1.out.mono (fun _ _ e => .inl e)).alloc _, by simp⟩
   case round =>
    obtain ⟨i, out, hg, hi, hol, hir, hs, hbu, hfr, hszw⟩ := hrel
    have HIR := Lib.hid hir
    have HSW := Lib.hid hs
    have HBU := Lib.hid hbu
    have HFR := Lib.hid hfr
    have HEE := Lib.hid (HE.out i wr hs)
    have HKK := Lib.hid (fun w1 h1 => HK.out i w1 h1)
    have I1 := Lib.hid (fun w1 h1 => HI.out ⟨#[62]⟩ i w1 (ascii_of (by decide)) (by decide) h1)
    have I2 := Lib.hid (fun w1 h1 => HI.out ⟨#[92]⟩ i w1 (ascii_of (by decide)) (by decide) h1)
    have I3 := Lib.hid (fun w1 h1 => HI.out ⟨#[117]⟩ (i + 1) w1 (ascii_of (by decide)) (by decide) h1)
    have I4 := Lib.hid (fun w1 h1 => HI.out ⟨#[85]⟩ (i + 1) w1 (ascii_of (by decide)) (by decide) h1)
    rw [isAt_one] at I1 I2 I3 I4
    unfold IsPost at I1 I2 I3 I4
    have hen := encL_len out
    have HW := Lib.hid (fun r w2 h0 h1 hB hu => wruneG_any w1.heap.size w1.heap.size (encL out) r w2 h0 h1 (by omega) hB hu)
    have HSTR := Lib.hid (fun w2 hB hu => bstringG_any w1.heap.size w1.heap.size (encL out) w2 hB hu)
    clear hs hbu hfr hir
    by_cases hil : i < rs.length
    · rw [decide_eq_false (by omega)] at HEE
      by_cases h10 : peekOf rs i = 10
      · have hrr := iriT_end (rs := rs) (i := i) out (fun h => h.2 h10)
        rw [HIR.out] at hrr
        subst hrr
        rw [h10] at HKK
        go_wp2_with fail
        refine (HEE.out).mono ?_
        rintro e w2 ⟨rfl, hf2⟩
        have HS2 := Lib.hid (HSW.out.frF hf2)
        have HB2 := Lib.hid (HBU.out.frF hf2)
        have HF2 := Lib.hid (HFR.out.trans hf2 (fun _ _ h => h.elim))
        have hz2 := hf2.size
        clear hf2
        go_wp2_with fail
        refine (HKK.out _ HS2.out).mono ?_
        rintro e w3 ⟨rfl, hf3⟩
        have HS3 := Lib.hid (HS2.out.frF hf3)
        have HB3 := Lib.hid (HB2.out.frF hf3)
        have HF3 := Lib.hid (HF2.out.trans hf3 (fun _ _ h => h.elim))
        have hz3 := hf3.size
        clear hf3
        go_wp2_with fail
        go_ret2
        exact ⟨rfl, HS3.out, HF3.out.mono (fun j hj h => h.elim id (fun h => absurd h (by omega)))⟩
      · have h10b : (peekOf rs i == 10) = false := by simpa using h10
        by_cases h62 : peekOf rs i = 62
        · have hrr := iriT_shut (rs := rs) (i := i) out h62
          rw [HIR.out] at hrr
          subst hrr
          rw [h62] at HKK
          rw [h62, show decide ((62 : Int) = ((62 : UInt8).toNat : Int)) = true from rfl] at I1
          simp only [if_true] at I1
          rw [show i + (⟨#[62]⟩ : ByteArray).size = i + 1 from rfl] at I1
          go_wp2_with fail
          refine (HEE.out).mono ?_
          rintro e w2 ⟨rfl, hf2⟩
          have HS2 := Lib.hid (HSW.out.frF hf2)
          have HB2 := Lib.hid (HBU.out.frF hf2)
          have HF2 := Lib.hid (HFR.out.trans hf2 (fun _ _ h => h.elim))
          have hz2 := hf2.size
          clear hf2
          go_wp2_with fail
          refine (HKK.out _ HS2.out).mono ?_
          rintro e w3 ⟨rfl, hf3⟩
          have HS3 := Lib.hid (HS2.out.frF hf3)
          have HB3 := Lib.hid (HB2.out.frF hf3)
          have HF3 := Lib.hid (HF2.out.trans hf3 (fun _ _ h => h.elim))
          have hz3 := hf3.size
          clear hf3
          go_wp2_with fail
          refine (I1.out _ HS3.out).mono ?_
          rintro e w4 ⟨rfl, hs4, hf4⟩
          have HS4 := Lib.hid hs4
          have HB4 := Lib.hid (HB3.out.fr HS3.out.blk hf4)
          have HF4 := Lib.hid (HF3.out.trans hf4 (fun _ _ h => .inl h))
          clear hs4
          have hz4 := hf4.size
          clear hf4
          go_wp2_with fail
          refine (HSTR.out _ (by omega) HB4.out).mono ?_
          rintro e w5 ⟨rfl, hf5⟩
          have HS5 := Lib.hid (HS4.out.old HS.out hsz1 hf5)
          have HF5 := Lib.hid (HF4.out.trans hf5 (fun _ _ h => .inr h))
          have hz5 := hf5.size
          clear hf5
          go_wp2_with fail
          go_ret2
          exact ⟨rfl, HS5.out, HF5.out.mono (fun j hj h => h.elim id (fun h => absurd h (by omega)))⟩
        · skip
          rw [decide_eq_false (show ¬ peekOf rs i = ((62 : UInt8).toNat : Int) from h62)] at I1
          simp only [Bool.false_eq_true, if_false] at I1
          by_cases h92 : peekOf rs i = 92
          · rw [h92] at HKK
            rw [h92, show decide ((92 : Int) = ((92 : UInt8).toNat : Int)) = true from rfl] at I2
            simp only [if_true] at I2
            rw [show i + (⟨#[92]⟩ : ByteArray).size = i + 1 from rfl] at I2
            by_cases h117 : peekOf rs (i + 1) = 117
            · skip
              rw [h117, show decide ((117 : Int) = ((117 : UInt8).toNat : Int)) = true from rfl] at I3
              simp only [if_true] at I3
              rw [show i + 1 + (⟨#[117]⟩ : ByteArray).size = i + 2 from rfl] at I3
              have hrr := iriT_u (rs := rs) (i := i) out h92 h117
              rw [HIR.out] at hrr
              have hokR := numR_ok (rs := rs) (m := 4) (i := i + 2)
              have HDD := Lib.hid (fun w1 h1 => HD.out 4 (i + 2) w1 (by decide) h1)
              generalize numR rs 4 (i + 2) = nm at *
              obtain ⟨nv1, np, nb⟩ := nm
              cases nb with
              | true =>
               obtain ⟨h1, h2, h3⟩ := hokR rfl
               have h4 := (signR_iff _).1 h3
               rw [if_pos rfl] at hrr
               dsimp only at h1 h2 h4 hrr HDD
               subst h1
               have h2b : i + 2 + 4 ≤ rs.length := h2.resolve_left (by decide)
               have HRR := Lib.hid hrr.symm
               have HWW := Lib.hid (fun w2 hB hu => HW.out nv1 w2 h4.1 h4.2.1 hB hu)
               rw [encL_push] at HWW
               clear hrr hokR h3
               go_wp2_with fail
               refine (HEE.out).mono ?_
               rintro e w2 ⟨rfl, hf2⟩
               have HS2 := Lib.hid (HSW.out.frF hf2)
               have HB2 := Lib.hid (HBU.out.frF hf2)
               have HF2 := Lib.hid (HFR.out.trans hf2 (fun _ _ h => h.elim))
               have hz2 := hf2.size
               clear hf2
               go_wp2_with fail
               refine (HKK.out _ HS2.out).mono ?_
               rintro e w3 ⟨rfl, hf3⟩
               have HS3 := Lib.hid (HS2.out.frF hf3)
               have HB3 := Lib.hid (HB2.out.frF hf3)
               have HF3 := Lib.hid (HF2.out.trans hf3 (fun _ _ h => h.elim))
               have hz3 := hf3.size
               clear hf3
               go_wp2_with fail
               refine (I1.out _ HS3.out).mono ?_
               rintro e w4 ⟨rfl, hs4, hf4⟩
               have HS4 := Lib.hid hs4
               have HB4 := Lib.hid (HB3.out.fr HS3.out.blk hf4)
               have HF4 := Lib.hid (HF3.out.trans hf4 (fun _ _ h => .inl h))
               clear hs4
               have hz4 := hf4.size
               clear hf4
               go_wp2_with fail
               refine (I2.out _ HS4.out).mono ?_
               rintro e w5 ⟨rfl, hs5, hf5⟩
               have HS5 := Lib.hid hs5
               have HB5 := Lib.hid (HB4.out.fr HS4.out.blk hf5)
               have HF5 := Lib.hid (HF4.out.trans hf5 (fun _ _ h => .inl h))
               clear hs5
               have hz5 := hf5.size
               clear hf5
               go_wp2_with fail
               refine (I3.out _ HS5.out).mono ?_
               rintro e w6 ⟨rfl, hs6, hf6⟩
               have HS6 := Lib.hid hs6
               have HB6 := Lib.hid (HB5.out.fr HS5.out.blk hf6)
               have HF6 := Lib.hid (HF5.out.trans hf6 (fun _ _ h => .inl h))
               clear hs6
               have hz6 := hf6.size
               clear hf6
               go_wp2_with fail
               refine (HDD.out _ HS6.out).mono ?_
               rintro e w7 ⟨rfl, hs7, hf7⟩
               have HS7 := Lib.hid hs7
               have HB7 := Lib.hid (HB6.out.fr HS6.out.blk hf7)
               have HF7 := Lib.hid (HF6.out.trans hf7 (fun _ _ h => .inl h))
               clear hs7
               have hz7 := hf7.size
               clear hf7
               go_wp2_with fail
               refine (HWW.out _ (by omega) HB7.out).mono ?_
               rintro e w8 ⟨⟨kk, rfl⟩, hb8, hf8⟩
               have HS8 := Lib.hid (HS7.out.old HS.out hsz1 hf8)
               have HB8 := Lib.hid hb8
               have HF8 := Lib.hid (HF7.out.trans hf8 (fun _ _ h => .inr h))
               clear hb8
               have hz8 := hf8.size
               clear hf8
               go_wp2_with fail
               go_roundg (rs.length - (i + 6))
               case measure => omega
               case rel => exact ⟨i + 6, out ++ [nv1], by omega, by omega, by rw [List.length_append]; show out.length + 1 ≤ _; omega, HRR.out, HS8.out, HB8.out, HF8.out, by omega⟩
              | false =>
               rw [if_neg Bool.false_ne_true] at hrr
               dsimp only at hrr HDD
               subst hrr
               clear hokR
               go_wp2_with fail
               refine (HEE.out).mono ?_
               rintro e w2 ⟨rfl, hf2⟩
               have HS2 := Lib.hid (HSW.out.frF hf2)
               have HB2 := Lib.hid (HBU.out.frF hf2)
               have HF2 := Lib.hid (HFR.out.trans hf2 (fun _ _ h => h.elim))
               have hz2 := hf2.size
               clear hf2
               go_wp2_with fail
               refine (HKK.out _ HS2.out).mono ?_
               rintro e w3 ⟨rfl, hf3⟩
               have HS3 := Lib.hid (HS2.out.frF hf3)
               have HB3 := Lib.hid (HB2.out.frF hf3)
               have HF3 := Lib.hid (HF2.out.trans hf3 (fun _ _ h => h.elim))
               have hz3 := hf3.size
               clear hf3
               go_wp2_with fail
               refine (I1.out _ HS3.out).mono ?_
               rintro e w4 ⟨rfl, hs4, hf4⟩
               have HS4 := Lib.hid hs4
               have HB4 := Lib.hid (HB3.out.fr HS3.out.blk hf4)
               have HF4 := Lib.hid (HF3.out.trans hf4 (fun _ _ h => .inl h))
               clear hs4
               have hz4 := hf4.size
               clear hf4
               go_wp2_with fail
               refine (I2.out _ HS4.out).mono ?_
               rintro e w5 ⟨rfl, hs5, hf5⟩
               have HS5 := Lib.hid hs5
               have HB5 := Lib.hid (HB4.out.fr HS4.out.blk hf5)
               have HF5 := Lib.hid (HF4.out.trans hf5 (fun _ _ h => .inl h))
               clear hs5
               have hz5 := hf5.size
               clear hf5
               go_wp2_with fail
               refine (I3.out _ HS5.out).mono ?_
               rintro e w6 ⟨rfl, hs6, hf6⟩
               have HS6 := Lib.hid hs6
               have HB6 := Lib.hid (HB5.out.fr HS5.out.blk hf6)
               have HF6 := Lib.hid (HF5.out.trans hf6 (fun _ _ h => .inl h))
               clear hs6
               have hz6 := hf6.size
               clear hf6
               go_wp2_with fail
               refine (HDD.out _ HS6.out).mono ?_
               rintro e w7 ⟨rfl, hs7, hf7⟩
               have HS7 := Lib.hid hs7
               have HB7 := Lib.hid (HB6.out.fr HS6.out.blk hf7)
               have HF7 := Lib.hid (HF6.out.trans hf7 (fun _ _ h => .inl h))
               clear hs7
               have hz7 := hf7.size
               clear hf7
               go_wp2_with fail
               go_ret2
               exact ⟨rfl, HS7.out, HF7.out.mono (fun j hj h => h.elim id (fun h => absurd h (by omega)))⟩
            · skip
              rw [decide_eq_false (show ¬ peekOf rs (i + 1) = ((117 : UInt8).toNat : Int) from h117)] at I3
              simp only [Bool.false_eq_true, if_false] at I3
              by_cases h85 : peekOf rs (i + 1) = 85
              · skip
                rw [h85, show decide ((85 : Int) = ((85 : UInt8).toNat : Int)) = true from rfl] at I4
                simp only [if_true] at I4
                rw [show i + 1 + (⟨#[85]⟩ : ByteArray).size = i + 2 from rfl] at I4
                have hrr := iriT_U (rs := rs) (i := i) out h92 h85
                rw [HIR.out] at hrr
                have hokR := numR_ok (rs := rs) (m := 8) (i := i + 2)
                have HDD := Lib.hid (fun w1 h1 => HD.out 8 (i + 2) w1 (by decide) h1)
                generalize numR rs 8 (i + 2) = nm at *
                obtain ⟨nv1, np, nb⟩ := nm
                cases nb with
                | true =>
                 obtain ⟨h1, h2, h3⟩ := hokR rfl
                 have h4 := (signR_iff _).1 h3
                 rw [if_pos rfl] at hrr
                 dsimp only at h1 h2 h4 hrr HDD
                 subst h1
                 have h2b : i + 2 + 8 ≤ rs.length := h2.resolve_left (by decide)
                 have HRR := Lib.hid hrr.symm
                 have HWW := Lib.hid (fun w2 hB hu => HW.out nv1 w2 h4.1 h4.2.1 hB hu)
                 rw [encL_push] at HWW
                 clear hrr hokR h3
                 go_wp2_with fail
                 refine (HEE.out).mono ?_
                 rintro e w2 ⟨rfl, hf2⟩
                 have HS2 := Lib.hid (HSW.out.frF hf2)
                 have HB2 := Lib.hid (HBU.out.frF hf2)
                 have HF2 := Lib.hid (HFR.out.trans hf2 (fun _ _ h => h.elim))
                 have hz2 := hf2.size
                 clear hf2
                 go_wp2_with fail
                 refine (HKK.out _ HS2.out).mono ?_
                 rintro e w3 ⟨rfl, hf3⟩
                 have HS3 := Lib.hid (HS2.out.frF hf3)
                 have HB3 := Lib.hid (HB2.out.frF hf3)
                 have HF3 := Lib.hid (HF2.out.trans hf3 (fun _ _ h => h.elim))
                 have hz3 := hf3.size
                 clear hf3
                 go_wp2_with fail
                 refine (I1.out _ HS3.out).mono ?_
                 rintro e w4 ⟨rfl, hs4, hf4⟩
                 have HS4 := Lib.hid hs4
                 have HB4 := Lib.hid (HB3.out.fr HS3.out.blk hf4)
                 have HF4 := Lib.hid (HF3.out.trans hf4 (fun _ _ h => .inl h))
                 clear hs4
                 have hz4 := hf4.size
                 clear hf4
                 go_wp2_with fail
                 refine (I2.out _ HS4.out).mono ?_
                 rintro e w5 ⟨rfl, hs5, hf5⟩
                 have HS5 := Lib.hid hs5
                 have HB5 := Lib.hid (HB4.out.fr HS4.out.blk hf5)
                 have HF5 := Lib.hid (HF4.out.trans hf5 (fun _ _ h => .inl h))
                 clear hs5
                 have hz5 := hf5.size
                 clear hf5
                 go_wp2_with fail
                 refine (I3.out _ HS5.out).mono ?_
                 rintro e w6 ⟨rfl, hs6, hf6⟩
                 have HS6 := Lib.hid hs6
                 have HB6 := Lib.hid (HB5.out.fr HS5.out.blk hf6)
                 have HF6 := Lib.hid (HF5.out.trans hf6 (fun _ _ h => .inl h))
                 clear hs6
                 have hz6 := hf6.size
                 clear hf6
                 go_wp2_with fail
                 refine (I4.out _ HS6.out).mono ?_
                 rintro e w7 ⟨rfl, hs7, hf7⟩
                 have HS7 := Lib.hid hs7
                 have HB7 := Lib.hid (HB6.out.fr HS6.out.blk hf7)
                 have HF7 := Lib.hid (HF6.out.trans hf7 (fun _ _ h => .inl h))
                 clear hs7
                 have hz7 := hf7.size
                 clear hf7
                 go_wp2_with fail
                 refine (HDD.out _ HS7.out).mono ?_
                 rintro e w8 ⟨rfl, hs8, hf8⟩
                 have HS8 := Lib.hid hs8
                 have HB8 := Lib.hid (HB7.out.fr HS7.out.blk hf8)
                 have HF8 := Lib.hid (HF7.out.trans hf8 (fun _ _ h => .inl h))
                 clear hs8
                 have hz8 := hf8.size
                 clear hf8
                 go_wp2_with fail
                 refine (HWW.out _ (by omega) HB8.out).mono ?_
                 rintro e w9 ⟨⟨kk, rfl⟩, hb9, hf9⟩
                 have HS9 := Lib.hid (HS8.out.old HS.out hsz1 hf9)
                 have HB9 := Lib.hid hb9
                 have HF9 := Lib.hid (HF8.out.trans hf9 (fun _ _ h => .inr h))
                 clear hb9
                 have hz9 := hf9.size
                 clear hf9
                 go_wp2_with fail
                 go_roundg (rs.length - (i + 10))
                 case measure => omega
                 case rel => exact ⟨i + 10, out ++ [nv1], by omega, by omega, by rw [List.length_append]; show out.length + 1 ≤ _; omega, HRR.out, HS9.out, HB9.out, HF9.out, by omega⟩
                | false =>
                 rw [if_neg Bool.false_ne_true] at hrr
                 dsimp only at hrr HDD
                 subst hrr
                 clear hokR
                 go_wp2_with fail
                 refine (HEE.out).mono ?_
                 rintro e w2 ⟨rfl, hf2⟩
                 have HS2 := Lib.hid (HSW.out.frF hf2)
                 have HB2 := Lib.hid (HBU.out.frF hf2)
                 have HF2 := Lib.hid (HFR.out.trans hf2 (fun _ _ h => h.elim))
                 have hz2 := hf2.size
                 clear hf2
                 go_wp2_with fail
                 refine (HKK.out _ HS2.out).mono ?_
                 rintro e w3 ⟨rfl, hf3⟩
                 have HS3 := Lib.hid (HS2.out.frF hf3)
                 have HB3 := Lib.hid (HB2.out.frF hf3)
                 have HF3 := Lib.hid (HF2.out.trans hf3 (fun _ _ h => h.elim))
                 have hz3 := hf3.size
                 clear hf3
                 go_wp2_with fail
                 refine (I1.out _ HS3.out).mono ?_
                 rintro e w4 ⟨rfl, hs4, hf4⟩
                 have HS4 := Lib.hid hs4
                 have HB4 := Lib.hid (HB3.out.fr HS3.out.blk hf4)
                 have HF4 := Lib.hid (HF3.out.trans hf4 (fun _ _ h => .inl h))
                 clear hs4
                 have hz4 := hf4.size
                 clear hf4
                 go_wp2_with fail
                 refine (I2.out _ HS4.out).mono ?_
                 rintro e w5 ⟨rfl, hs5, hf5⟩
                 have HS5 := Lib.hid hs5
                 have HB5 := Lib.hid (HB4.out.fr HS4.out.blk hf5)
                 have HF5 := Lib.hid (HF4.out.trans hf5 (fun _ _ h => .inl h))
                 clear hs5
                 have hz5 := hf5.size
                 clear hf5
                 go_wp2_with fail
                 refine (I3.out _ HS5.out).mono ?_
                 rintro e w6 ⟨rfl, hs6, hf6⟩
                 have HS6 := Lib.hid hs6
                 have HB6 := Lib.hid (HB5.out.fr HS5.out.blk hf6)
                 have HF6 := Lib.hid (HF5.out.trans hf6 (fun _ _ h => .inl h))
                 clear hs6
                 have hz6 := hf6.size
                 clear hf6
                 go_wp2_with fail
                 refine (I4.out _ HS6.out).mono ?_
                 rintro e w7 ⟨rfl, hs7, hf7⟩
                 have HS7 := Lib.hid hs7
                 have HB7 := Lib.hid (HB6.out.fr HS6.out.blk hf7)
                 have HF7 := Lib.hid (HF6.out.trans hf7 (fun _ _ h => .inl h))
                 clear hs7
                 have hz7 := hf7.size
                 clear hf7
                 go_wp2_with fail
                 refine (HDD.out _ HS7.out).mono ?_
                 rintro e w8 ⟨rfl, hs8, hf8⟩
                 have HS8 := Lib.hid hs8
                 have HB8 := Lib.hid (HB7.out.fr HS7.out.blk hf8)
                 have HF8 := Lib.hid (HF7.out.trans hf8 (fun _ _ h => .inl h))
                 clear hs8
                 have hz8 := hf8.size
                 clear hf8
                 go_wp2_with fail
                 go_ret2
                 exact ⟨rfl, HS8.out, HF8.out.mono (fun j hj h => h.elim id (fun h => absurd h (by omega)))⟩
              · skip
                rw [decide_eq_false (show ¬ peekOf rs (i + 1) = ((85 : UInt8).toNat : Int) from h85)] at I4
                simp only [Bool.false_eq_true, if_false] at I4
                have hrr := iriT_no (rs := rs) (i := i) out h92 h117 h85
                rw [HIR.out] at hrr
                subst hrr
                go_wp2_with fail
                refine (HEE.out).mono ?_
                rintro e w2 ⟨rfl, hf2⟩
                have HS2 := Lib.hid (HSW.out.frF hf2)
                have HB2 := Lib.hid (HBU.out.frF hf2)
                have HF2 := Lib.hid (HFR.out.trans hf2 (fun _ _ h => h.elim))
                have hz2 := hf2.size
                clear hf2
                go_wp2_with fail
                refine (HKK.out _ HS2.out).mono ?_
                rintro e w3 ⟨rfl, hf3⟩
                have HS3 := Lib.hid (HS2.out.frF hf3)
                have HB3 := Lib.hid (HB2.out.frF hf3)
                have HF3 := Lib.hid (HF2.out.trans hf3 (fun _ _ h => h.elim))
                have hz3 := hf3.size
                clear hf3
                go_wp2_with fail
                refine (I1.out _ HS3.out).mono ?_
                rintro e w4 ⟨rfl, hs4, hf4⟩
                have HS4 := Lib.hid hs4
                have HB4 := Lib.hid (HB3.out.fr HS3.out.blk hf4)
                have HF4 := Lib.hid (HF3.out.trans hf4 (fun _ _ h => .inl h))
                clear hs4
                have hz4 := hf4.size
                clear hf4
                go_wp2_with fail
                refine (I2.out _ HS4.out).mono ?_
                rintro e w5 ⟨rfl, hs5, hf5⟩
                have HS5 := Lib.hid hs5
                have HB5 := Lib.hid (HB4.out.fr HS4.out.blk hf5)
                have HF5 := Lib.hid (HF4.out.trans hf5 (fun _ _ h => .inl h))
                clear hs5
                have hz5 := hf5.size
                clear hf5
                go_wp2_with fail
                refine (I3.out _ HS5.out).mono ?_
                rintro e w6 ⟨rfl, hs6, hf6⟩
                have HS6 := Lib.hid hs6
                have HB6 := Lib.hid (HB5.out.fr HS5.out.blk hf6)
                have HF6 := Lib.hid (HF5.out.trans hf6 (fun _ _ h => .inl h))
                clear hs6
                have hz6 := hf6.size
                clear hf6
                go_wp2_with fail
                refine (I4.out _ HS6.out).mono ?_
                rintro e w7 ⟨rfl, hs7, hf7⟩
                have HS7 := Lib.hid hs7
                have HB7 := Lib.hid (HB6.out.fr HS6.out.blk hf7)
                have HF7 := Lib.hid (HF6.out.trans hf7 (fun _ _ h => .inl h))
                clear hs7
                have hz7 := hf7.size
                clear hf7
                go_wp2_with fail
                go_ret2
                exact ⟨rfl, HS7.out, HF7.out.mono (fun j hj h => h.elim id (fun h => absurd h (by omega)))⟩
          · skip
            rw [decide_eq_false (show ¬ peekOf rs i = ((92 : UInt8).toNat : Int) from h92)] at I2
            simp only [Bool.false_eq_true, if_false] at I2
            have HRR := Lib.hid ((iriT_go (rs := rs) (i := i) out hil h10 h62 h92).symm.trans HIR.out)
            have hpb := HPB.out i
            have hp0 : 0 ≤ peekOf rs i := by
             have := peek_ne HSW.out hil
             unfold peekOf at hpb ⊢
             rw [if_pos hil] at hpb ⊢
             omega
            have HWW := Lib.hid (fun w2 hB hu => HW.out (peekOf rs i) w2 hp0 hpb.2 hB hu)
            rw [encL_push] at HWW
            have HNN := Lib.hid (fun w1 h1 => HN.out i w1 h1)
            unfold nextAt at HNN
            rw [if_pos hil] at HNN
            generalize peekOf rs i = r at *
            go_wp2_with fail
            refine (HEE.out).mono ?_
            rintro e w2 ⟨rfl, hf2⟩
            have HS2 := Lib.hid (HSW.out.frF hf2)
            have HB2 := Lib.hid (HBU.out.frF hf2)
            have HF2 := Lib.hid (HFR.out.trans hf2 (fun _ _ h => h.elim))
            have hz2 := hf2.size
            clear hf2
            go_wp2_with fail
            refine (HKK.out _ HS2.out).mono ?_
            rintro e w3 ⟨rfl, hf3⟩
            have HS3 := Lib.hid (HS2.out.frF hf3)
            have HB3 := Lib.hid (HB2.out.frF hf3)
            have HF3 := Lib.hid (HF2.out.trans hf3 (fun _ _ h => h.elim))
            have hz3 := hf3.size
            clear hf3
            go_wp2_with fail
            refine (I1.out _ HS3.out).mono ?_
            rintro e w4 ⟨rfl, hs4, hf4⟩
            have HS4 := Lib.hid hs4
            have HB4 := Lib.hid (HB3.out.fr HS3.out.blk hf4)
            have HF4 := Lib.hid (HF3.out.trans hf4 (fun _ _ h => .inl h))
            clear hs4
            have hz4 := hf4.size
            clear hf4
            go_wp2_with fail
            refine (I2.out _ HS4.out).mono ?_
            rintro e w5 ⟨rfl, hs5, hf5⟩
            have HS5 := Lib.hid hs5
            have HB5 := Lib.hid (HB4.out.fr HS4.out.blk hf5)
            have HF5 := Lib.hid (HF4.out.trans hf5 (fun _ _ h => .inl h))
            clear hs5
            have hz5 := hf5.size
            clear hf5
            go_wp2_with fail
            refine (HNN.out _ HS5.out).mono ?_
            rintro e w6 ⟨rfl, hs6, hf6⟩
            have HS6 := Lib.hid hs6
            have HB6 := Lib.hid (HB5.out.fr HS5.out.blk hf6)
            have HF6 := Lib.hid (HF5.out.trans hf6 (fun _ _ h => .inl h))
            clear hs6
            have hz6 := hf6.size
            clear hf6
            go_wp2_with fail
            refine (HWW.out _ (by omega) HB6.out).mono ?_
            rintro e w7 ⟨⟨kk, rfl⟩, hb7, hf7⟩
            have HS7 := Lib.hid (HS6.out.old HS.out hsz1 hf7)
            have HB7 := Lib.hid hb7
            have HF7 := Lib.hid (HF6.out.trans hf7 (fun _ _ h => .inr h))
            clear hb7
            have hz7 := hf7.size
            clear hf7
            go_wp2_with fail
            go_roundg (rs.length - (i + 1))
            case measure => omega
            case rel => exact ⟨i + 1, out ++ [r], by omega, by omega, by rw [List.length_append]; show out.length + 1 ≤ _; omega, HRR.out, HS7.out, HB7.out, HF7.out, by omega⟩
    · rw [decide_eq_true (by omega)] at HEE
      have hrr := iriT_end (rs := rs) (i := i) out (fun h => hil h.1)
      rw [HIR.out] at hrr
      subst hrr
      go_wp2_with fail
      refine (HEE.out).mono ?_
      rintro e w2 ⟨rfl, hf2⟩
      have HS2 := Lib.hid (HSW.out.frF hf2)
      have HB2 := Lib.hid (HBU.out.frF hf2)
      have HF2 := Lib.hid (HFR.out.trans hf2 (fun _ _ h => h.elim))
      have hz2 := hf2.size
      clear hf2
      go_wp2_with fail
      go_ret2
      exact ⟨rfl, HS2.out, HF2.out.mono (fun j hj h => h.elim id (fun h => absurd h (by omega)))⟩
 · rw [if_neg hp0] at hres
   rw [decide_eq_false (show ¬ peekOf rs p = ((60 : UInt8).toNat : Int) from hp0)] at I0
   simp only [Bool.false_eq_true, if_false] at I0
   subst hres
   go_enter Tryz.func152, Tryz.ntmps152
   go_wp2_with fail
   refine I0.out.mono ?_
   rintro e w1 ⟨rfl, hs1, hf1⟩
   go_wp2_with fail
   go_ret2
   exact ⟨rfl, hs1, hf1⟩

/-- May a sign stand in a word? -/
def inW (ms : List Int) (r : Int) : Bool := [1, 2].contains (clsOf r) || ms.contains r
def wordE (rs ms : List Int) (p : Nat) : Nat := if h : p < rs.length ∧ inW ms (rs.getD p 0) = true then wordE rs ms (p + 1) else p
termination_by rs.length - p
decreasing_by omega
theorem wordE_step {rs ms : List Int} {p : Nat} (h : p < rs.length) (h2 : inW ms (rs.getD p 0) = true) : wordE rs ms p = wordE rs ms (p + 1) := by rw [wordE, dif_pos ⟨h, h2⟩]
theorem wordE_stop {rs ms : List Int} {p : Nat} (h : ¬ (p < rs.length ∧ inW ms (rs.getD p 0) = true)) : wordE rs ms p = p := by rw [wordE, dif_neg h]
theorem wordE_le (rs ms : List Int) : ∀ m p, rs.length - p ≤ m → p ≤ rs.length → p ≤ wordE rs ms p ∧ wordE rs ms p ≤ rs.length
 | 0, p, h, h2 => by rw [wordE_stop (by omega)]; exact ⟨Nat.le_refl _, h2⟩
 | m + 1, p, h, h2 => by
  by_cases hc : p < rs.length ∧ inW ms (rs.getD p 0) = true
  · rw [wordE_step hc.1 hc.2]
    have := wordE_le rs ms m (p + 1) (by omega) (by omega)
    omega
  · rw [wordE_stop hc]
    exact ⟨Nat.le_refl _, h2⟩
/-- The signs from a place to another. -/
def part (rs : List Int) (p q : Nat) : List Int := (rs.drop p).take (q - p)
theorem encL_append (a b : List Int) : encL (a ++ b) = encL a ++ encL b := by unfold encL; rw [List.flatMap_append]

/-- The sign behind a backslash; the place; whether one is there. -/
def escOf (r : Int) : Option Int := if r = 116 then some 9 else if r = 110 then some 10 else if r = 114 then some 13 else if r = 98 then some 8 else if r = 102 then some 12 else if r = 34 then some 34 else if r = 92 then some 92 else if r = 39 then some 39 else none
def escT (rs : List Int) (p : Nat) : Int × Nat × Bool :=
 match escOf (peekOf rs p) with
 | some v => (v, p + 1, true)
 | none => if peekOf rs p = 117 then numR rs 4 (p + 1) else if peekOf rs p = 85 then numR rs 8 (p + 1) else (0, p, false)

theorem escT_ok {rs : List Int} {p : Nat} (h : (escT rs p).2.2 = true) : p < (escT rs p).2.1 ∧ (escT rs p).2.1 ≤ rs.length ∧ 0 ≤ (escT rs p).1 ∧ (escT rs p).1 ≤ 1114111 := by
 unfold escT at h ⊢
 split at h
 · rename_i v hv
   have hb : 0 ≤ v ∧ v ≤ 1114111 ∧ 0 ≤ peekOf rs p := by
    unfold escOf at hv
    (repeat' split at hv) <;> first | (injection hv with hv; omega) | cases hv
   have := peek_lt (rs := rs) (p := p) hb.2.2
   exact ⟨by show p < p + 1; omega, by show p + 1 ≤ _; omega, hb.1, hb.2.1⟩
 · rename_i hv
   split at h
   · rename_i h1
     rw [if_pos h1]
     have hn := numR_ok h
     have := (signR_iff _).1 hn.2.2
     omega
   · rename_i h1
     rw [if_neg h1]
     split at h
     · rename_i h2
       rw [if_pos h2]
       have hn := numR_ok h
       have := (signR_iff _).1 hn.2.2
       omega
     · cases h
theorem numR_place {rs : List Int} {m i : Nat} (hi : i ≤ rs.length) : (numR rs m i).2.1 ≤ rs.length := by
 unfold numR
 have := hexF_place rs m i 0 hi
 split
 · split
   · exact this.2
   · show _ - 1 ≤ _
     omega
 · exact this.2
theorem escT_place {rs : List Int} {p : Nat} (hp : p ≤ rs.length) : (escT rs p).2.1 ≤ rs.length := by
 unfold escT
 split
 · rename_i v hv
   have hb : 0 ≤ peekOf rs p := by
    unfold escOf at hv
    (repeat' split at hv) <;> first | omega | cases hv
   have := peek_lt (rs := rs) (p := p) hb
   show p + 1 ≤ _
   omega
 · split
   · exact numR_place (peek_lt (by omega))
   · split
     · exact numR_place (peek_lt (by omega))
     · exact hp
/-- Quoted signs behind the quote; the place behind, or of what can't stand there. -/
def quotT (rs : List Int) (i : Nat) (out : List Int) : Option (List Int) × Nat :=
 if h : i < rs.length then
  (if peekOf rs i = 34 then (some out, i + 1)
   else if peekOf rs i = 92 then (if h2 : (escT rs (i + 1)).2.2 = true ∧ i < (escT rs (i + 1)).2.1 then quotT rs (escT rs (i + 1)).2.1 (out ++ [(escT rs (i + 1)).1]) else (none, (escT rs (i + 1)).2.1))
   else if peekOf rs i = 10 ∨ peekOf rs i = 13 then (none, i)
   else quotT rs (i + 1) (out ++ [peekOf rs i]))
 else (none, i)
termination_by rs.length - i
decreasing_by all_goals omega
theorem quotT_end {rs : List Int} {i : Nat} (hv : ∀ r, r ∈ rs → 0 ≤ r) (out : List Int) (h : peekOf rs i = -1 ∨ peekOf rs i = 10 ∨ peekOf rs i = 13) : quotT rs i out = (none, i) := by
 rw [quotT]
 by_cases hi : i < rs.length
 · rw [dif_pos hi, if_neg (by omega), if_neg (by omega)]
   by_cases h2 : peekOf rs i = 10 ∨ peekOf rs i = 13
   · rw [if_pos h2]
   · exact absurd (h.resolve_right h2) (fun e => by have := hv _ (show rs.getD i 0 ∈ rs by rw [List.getD_eq_getElem?_getD, List.getElem?_eq_getElem hi]; exact List.getElem_mem hi); unfold peekOf at e; rw [if_pos hi] at e; omega)
 · rw [dif_neg hi]
theorem quotT_shut {rs : List Int} {i : Nat} (out : List Int) (h : peekOf rs i = 34) : quotT rs i out = (some out, i + 1) := by
 rw [quotT, dif_pos (peek_lt (by omega)), if_pos h]
theorem quotT_ok {rs : List Int} {i : Nat} (out : List Int) (h : peekOf rs i = 92) (h2 : (escT rs (i + 1)).2.2 = true) : quotT rs i out = quotT rs (escT rs (i + 1)).2.1 (out ++ [(escT rs (i + 1)).1]) := by
 have := escT_ok h2
 rw [quotT, dif_pos (peek_lt (by omega)), if_neg (by omega), if_pos h, dif_pos ⟨h2, by omega⟩]
theorem quotT_no {rs : List Int} {i : Nat} (out : List Int) (h : peekOf rs i = 92) (h2 : (escT rs (i + 1)).2.2 = false) : quotT rs i out = (none, (escT rs (i + 1)).2.1) := by
 rw [quotT, dif_pos (peek_lt (by omega)), if_neg (by omega), if_pos h, dif_neg (fun h3 => by rw [h2] at h3; exact Bool.false_ne_true h3.1)]
theorem quotT_go {rs : List Int} {i : Nat} (out : List Int) (hi : i < rs.length) (h1 : ¬ peekOf rs i = 34) (h2 : ¬ peekOf rs i = 92) (h3 : ¬ peekOf rs i = 10) (h4 : ¬ peekOf rs i = 13) : quotT rs i out = quotT rs (i + 1) (out ++ [peekOf rs i]) := by
 rw [quotT, dif_pos hi, if_neg h1, if_neg h2, if_neg (by omega)]
def quotR (rs : List Int) (p : Nat) : Option (List Int) × Nat := if peekOf rs p = 34 then quotT rs (p + 1) [] else (none, p)

theorem sign_peek {rs : List Int} (hv : ∀ r, r ∈ rs → signR r = true) {i : Nat} (hi : i < rs.length) : signR (peekOf rs i) = true := by
 unfold peekOf
 rw [if_pos hi]
 exact hv _ (by rw [List.getD_eq_getElem?_getD, List.getElem?_eq_getElem hi]; exact List.getElem_mem hi)
theorem mem_push {P : Int → Prop} {l : List Int} {x : Int} (h : ∀ y, y ∈ l → P y) (hx : P x) : ∀ y, y ∈ l ++ [x] → P y := fun y hy => by
 rcases List.mem_append.1 hy with h1 | h1
 · exact h y h1
 · rw [List.mem_singleton.1 h1]
   exact hx
def Fits (rs : List Int) (i : Nat) (out : List Int) (r : Option (List Int) × Nat) : Prop :=
 (∀ l, r.1 = some l → l.length + i ≤ out.length + rs.length ∧ ∀ x, x ∈ l → signR x = true) ∧ r.2 ≤ rs.length
theorem Fits.no {rs : List Int} {i q : Nat} {out : List Int} (h : q ≤ rs.length) : Fits rs i out (none, q) := ⟨fun l h => (by cases h), h⟩
theorem Fits.up {rs : List Int} {i j : Nat} {out : List Int} {x : Int} {r : Option (List Int) × Nat} (h : Fits rs j (out ++ [x]) r) (hij : i < j) : Fits rs i out r := ⟨fun l hl => by
 have h1 := h.1 l hl
 rw [List.length_append] at h1
 have h2 : [x].length = 1 := rfl
 exact ⟨by omega, h1.2⟩, h.2⟩
theorem iriT_fits (rs : List Int) (hv : ∀ r, r ∈ rs → signR r = true) : ∀ m i out, rs.length - i ≤ m → i ≤ rs.length → (∀ x, x ∈ out → signR x = true) → Fits rs i out (iriT rs i out)
 | 0, i, out, hm, hi, ho => by
  rw [iriT_end out (by omega)]
  exact Fits.no hi
 | m + 1, i, out, hm, hi, ho => by
  by_cases hil : i < rs.length ∧ peekOf rs i ≠ 10
  · by_cases h62 : peekOf rs i = 62
    · rw [iriT_shut out h62]
      exact ⟨fun l hl => by injection hl with hl; rw [← hl]; exact ⟨by omega, ho⟩, hil.1⟩
    · by_cases h92 : peekOf rs i = 92
      · by_cases hu : peekOf rs (i + 1) = 117
        · rw [iriT_u out h92 hu]
          by_cases hk : (numR rs 4 (i + 2)).2.2 = true
          · rw [if_pos hk]
            have hn := numR_ok hk
            exact (iriT_fits rs hv m (i + 6) _ (by omega) (by omega) (mem_push ho hn.2.2)).up (by omega)
          · rw [if_neg hk]
            exact Fits.no (numR_place (peek_lt (by omega)))
        · by_cases hU : peekOf rs (i + 1) = 85
          · rw [iriT_U out h92 hU]
            by_cases hk : (numR rs 8 (i + 2)).2.2 = true
            · rw [if_pos hk]
              have hn := numR_ok hk
              exact (iriT_fits rs hv m (i + 10) _ (by omega) (by omega) (mem_push ho hn.2.2)).up (by omega)
            · rw [if_neg hk]
              exact Fits.no (numR_place (peek_lt (by omega)))
          · rw [iriT_no out h92 hu hU]
            exact Fits.no hil.1
      · rw [iriT_go out hil.1 hil.2 h62 h92]
        exact (iriT_fits rs hv m (i + 1) _ (by omega) hil.1 (mem_push ho (sign_peek hv hil.1))).up (by omega)
  · rw [iriT_end out hil]
    exact Fits.no hi
theorem escT_sign {rs : List Int} {p : Nat} (h : (escT rs p).2.2 = true) : signR (escT rs p).1 = true := by
 unfold escT at h ⊢
 split at h
 · rename_i v hv
   have hb : signR v = true := by
    unfold escOf at hv
    (repeat' split at hv) <;> first | (injection hv with hv; subst hv; rfl) | cases hv
   exact hb
 · split at h
   · rename_i h1
     rw [if_pos h1]
     exact (numR_ok h).2.2
   · rename_i h1
     rw [if_neg h1]
     split at h
     · rename_i h2
       rw [if_pos h2]
       exact (numR_ok h).2.2
     · cases h
theorem quotT_fits (rs : List Int) (hv : ∀ r, r ∈ rs → signR r = true) : ∀ m i out, rs.length - i ≤ m → i ≤ rs.length → (∀ x, x ∈ out → signR x = true) → Fits rs i out (quotT rs i out)
 | m, i, out, hm, hi, ho => by
  have hv0 : ∀ r, r ∈ rs → 0 ≤ r := fun r hr => ((signR_iff r).1 (hv r hr)).1
  by_cases hb : peekOf rs i = -1 ∨ peekOf rs i = 10 ∨ peekOf rs i = 13
  · rw [quotT_end hv0 out hb]
    exact Fits.no hi
  · have hil : i < rs.length := Classical.byContradiction fun h => hb (.inl (by unfold peekOf; rw [if_neg h]))
    cases m with
    | zero => exact absurd hm (by omega)
    | succ m =>
     by_cases h34 : peekOf rs i = 34
     · rw [quotT_shut out h34]
       exact ⟨fun l hl => by injection hl with hl; rw [← hl]; exact ⟨by omega, ho⟩, hil⟩
     · by_cases h92 : peekOf rs i = 92
       · cases hk : (escT rs (i + 1)).2.2 with
         | true =>
          rw [quotT_ok out h92 hk]
          have he := escT_ok hk
          exact (quotT_fits rs hv m _ _ (by omega) he.2.1 (mem_push ho (escT_sign hk))).up (by omega)
         | false =>
          rw [quotT_no out h92 hk]
          exact Fits.no (escT_place hil)
       · rw [quotT_go out hil h34 h92 (fun h => hb (.inr (.inl h))) (fun h => hb (.inr (.inr h)))]
         exact (quotT_fits rs hv m (i + 1) _ (by omega) hil (mem_push ho (sign_peek hv hil))).up (by omega)
theorem iriR_fits (rs : List Int) (hv : ∀ r, r ∈ rs → signR r = true) (p : Nat) (hp : p ≤ rs.length) : Fits rs 0 [] (iriR rs p) := by
 unfold iriR
 split
 · rename_i h
   have hl := peek_lt (rs := rs) (p := p) (by omega)
   have h1 := iriT_fits rs hv (rs.length - (p + 1)) (p + 1) [] (Nat.le_refl _) hl (fun _ h => by cases h)
   exact ⟨fun l hl => ⟨by have := (h1.1 l hl).1; omega, (h1.1 l hl).2⟩, h1.2⟩
 · exact Fits.no hp
theorem quotR_fits (rs : List Int) (hv : ∀ r, r ∈ rs → signR r = true) (p : Nat) (hp : p ≤ rs.length) : Fits rs 0 [] (quotR rs p) := by
 unfold quotR
 split
 · rename_i h
   have hl := peek_lt (rs := rs) (p := p) (by omega)
   have h1 := quotT_fits rs hv (rs.length - (p + 1)) (p + 1) [] (Nat.le_refl _) hl (fun _ h => by cases h)
   exact ⟨fun l hl => ⟨by have := (h1.1 l hl).1; omega, (h1.1 l hl).2⟩, h1.2⟩
 · exact Fits.no hp
def xLang : ByteArray := ⟨#[104, 116, 116, 112, 58, 47, 47, 119, 119, 119, 46, 119, 51, 46, 111, 114, 103, 47, 49, 57, 57, 57, 47, 48, 50, 47, 50, 50, 45, 114, 100, 102, 45, 115, 121, 110, 116, 97, 120, 45, 110, 115, 35, 108, 97, 110, 103, 83, 116, 114, 105, 110, 103]⟩
def xString : ByteArray := ⟨#[104, 116, 116, 112, 58, 47, 47, 119, 119, 119, 46, 119, 51, 46, 111, 114, 103, 47, 50, 48, 48, 49, 47, 88, 77, 76, 83, 99, 104, 101, 109, 97, 35, 115, 116, 114, 105, 110, 103]⟩
/-- What stands behind a quoted text: type, language, the place, whether it can. -/
def tailR (rs : List Int) (q : Nat) : ByteArray × ByteArray × Nat × Bool :=
 if peekOf rs q = 94 ∧ peekOf rs (q + 1) = 94 then (optS (iriR rs (q + 2)).1, ⟨#[]⟩, (iriR rs (q + 2)).2, (iriR rs (q + 2)).1.isSome)
 else if peekOf rs q = 64 then (xLang, strL (part rs (q + 1) (wordE rs [45] (q + 1))), wordE rs [45] (q + 1), true)
 else (xString, ⟨#[]⟩, q, true)
theorem size0 : (⟨#[]⟩ : ByteArray).size ≤ 16384 := by decide
theorem xLang_size : xLang.size ≤ 16384 := by decide
theorem xString_size : xString.size ≤ 16384 := by decide

/-- A term of the document's. -/
structure DT where
 kind : Int
 text : ByteArray
 type : ByteArray
 lang : ByteArray
def DT.cells (x : DT) : Array Value := #[.int .i64 x.kind, .string x.text, .string x.type, .string x.lang]
/-- A term of the document's as the program's. -/
def toTm (x : DT) : Tm := if x.kind = 0 then .bla x.text else if x.kind = 1 then .iri x.text else .lit x.text x.type x.lang

def letterB (c : Int) : Bool := decide ((97 ≤ c ∧ c ≤ 122) ∨ (65 ≤ c ∧ c ≤ 90))
def digitB (c : Int) : Bool := decide (48 ≤ c ∧ c ≤ 57)

theorem rletter_any (c : Int) (w : World) : Calls Tryz.prog 146 #[.int .u8 c] w fun e w' => e = .returned (.bool (letterB c)) ∧ w = w' := by
 by_cases h1 : 97 ≤ c
 · have h1' : decide (97 ≤ c) = true := decide_eq_true h1
   by_cases h2 : c ≤ 122
   · have h2' : decide (c ≤ 122) = true := decide_eq_true h2
     have HL := Lib.hid (show letterB c = true from decide_eq_true (by omega))
     go_enter Tryz.func146, Tryz.ntmps146
     go_wp2_with fail
     go_ret
     exact ⟨by rw [HL.out]; rfl, rfl⟩
   · have h2' : decide (c ≤ 122) = false := decide_eq_false h2
     have h3 : 65 ≤ c := by omega
     have h3' : decide (65 ≤ c) = true := decide_eq_true h3
     have h4' : decide (c ≤ 90) = false := decide_eq_false (by omega)
     have HL := Lib.hid (show letterB c = false from decide_eq_false (by omega))
     go_enter Tryz.func146, Tryz.ntmps146
     go_wp2_with fail
     go_ret
     exact ⟨by rw [HL.out]; rfl, rfl⟩
 · have h1' : decide (97 ≤ c) = false := decide_eq_false h1
   by_cases h3 : 65 ≤ c
   · have h3' : decide (65 ≤ c) = true := decide_eq_true h3
     by_cases h4 : c ≤ 90
     · have h4' : decide (c ≤ 90) = true := decide_eq_true h4
       have HL := Lib.hid (show letterB c = true from decide_eq_true (by omega))
       go_enter Tryz.func146, Tryz.ntmps146
       go_wp2_with fail
       go_ret
       exact ⟨by rw [HL.out]; rfl, rfl⟩
     · have h4' : decide (c ≤ 90) = false := decide_eq_false h4
       have HL := Lib.hid (show letterB c = false from decide_eq_false (by omega))
       go_enter Tryz.func146, Tryz.ntmps146
       go_wp2_with fail
       go_ret
       exact ⟨by rw [HL.out]; rfl, rfl⟩
   · have h3' : decide (65 ≤ c) = false := decide_eq_false h3
     have HL := Lib.hid (show letterB c = false from decide_eq_false (by omega))
     go_enter Tryz.func146, Tryz.ntmps146
     go_wp2_with fail
     go_ret
     exact ⟨by rw [HL.out]; rfl, rfl⟩

theorem digit_any (c : Int) (w : World) : Calls Tryz.prog 147 #[.int .u8 c] w fun e w' => e = .returned (.bool (digitB c)) ∧ w = w' := by
 by_cases h1 : 48 ≤ c
 · have h1' : decide (48 ≤ c) = true := decide_eq_true h1
   obtain ⟨q, hq⟩ : ∃ q, decide (c ≤ 57) = q := ⟨_, rfl⟩
   have HL := Lib.hid (show digitB c = q by rw [← hq]; unfold digitB; simp [h1])
   clear h1
   cases q with
   | true =>
    go_enter Tryz.func147, Tryz.ntmps147
    go_wp2_with fail
    go_ret
    exact ⟨by rw [HL.out]; rfl, rfl⟩
   | false =>
    go_enter Tryz.func147, Tryz.ntmps147
    go_wp2_with fail
    go_ret
    exact ⟨by rw [HL.out]; rfl, rfl⟩
 · have h1' : decide (48 ≤ c) = false := decide_eq_false h1
   have HL := Lib.hid (show digitB c = false from decide_eq_false (by omega))
   go_enter Tryz.func147, Tryz.ntmps147
   go_wp2_with fail
   go_ret
   exact ⟨by rw [HL.out]; rfl, rfl⟩

/-- A byte at a place; 0 beyond. -/
def byteAt (s : ByteArray) (i : Nat) : Int := ((s.data.toList.getD i 0).toNat : Int)
/-- May a byte stand at a place of a label, by the document? -/
def rLabelB (i : Nat) (c : Int) : Bool := letterB c || (digitB c || (!decide (i = 0) && (decide (c = 95) || decide (c = 45))))
def rLabelFrom (s : ByteArray) (i : Nat) : Bool := if h : i < s.size then rLabelB i (byteAt s i) && rLabelFrom s (i + 1) else true
termination_by s.size - i
theorem rLabelFrom_step (s : ByteArray) (i : Nat) (h : i < s.size) : rLabelFrom s i = (rLabelB i (byteAt s i) && rLabelFrom s (i + 1)) := by rw [rLabelFrom, dif_pos h]
theorem rLabelFrom_end (s : ByteArray) (i : Nat) (h : ¬ i < s.size) : rLabelFrom s i = true := by rw [rLabelFrom, dif_neg h]
def rLabel (s : ByteArray) : Bool := decide (1 ≤ s.size) && (decide (s.size ≤ 100) && rLabelFrom s 0)
theorem run_index_at {s : ByteArray} {i : Nat} (h : i < s.size) (w : World) : (Instr.index 9 (.string s) (.int .i64 (i : Int))).run Tryz.prog w = .ok (.int .u8 (byteAt s i)) w := by
 rw [run_index_string w 9 s .i64 i Tryz.underlying9, dif_pos ⟨by omega, by omega⟩]
 congr 2
 unfold byteAt
 have hl : i < s.data.toList.length := by simpa using h
 rw [List.getD_eq_getElem?_getD, List.getElem?_eq_getElem hl]
 rfl
theorem byteAt_le (s : ByteArray) (i : Nat) : 0 ≤ byteAt s i ∧ byteAt s i ≤ 255 := by
 unfold byteAt
 have := (s.data.toList.getD i 0).toNat_lt
 omega

theorem rlabel_any (s : ByteArray) (w : World) (hs : s.size ≤ 16384) : Calls Tryz.prog 116 #[.string s] w fun e w' => e = .returned (.bool (rLabel s)) ∧ w = w' := by
 have HRL := Lib.hid (show rLabel s = (decide (1 ≤ s.size) && (decide (s.size ≤ 100) && rLabelFrom s 0)) from rfl)
 generalize rLabel s = rl at *
 by_cases h1 : s.size < 1
 · have h1' : decide (s.size < 1) = true := decide_eq_true h1
   have h1e : decide ((s.size : Int) < 1) = true := decide_eq_true (by omega)
   have h1f : (s.size : Int) < 1 := by omega
   have HH := Lib.hid (show decide (1 ≤ s.size) = false from decide_eq_false (by omega))
   clear h1
   go_enter Tryz.func116, Tryz.ntmps116
   go_wp2_with fail
   go_ret
   exact ⟨by rw [HRL.out, HH.out]; rfl, rfl⟩
 · have h1e : decide ((s.size : Int) < 1) = false := decide_eq_false (by omega)
   by_cases h2 : 100 < s.size
   · have h2e : decide ((100 : Int) < (s.size : Int)) = true := decide_eq_true (by omega)
     have HH := Lib.hid (show decide (s.size ≤ 100) = false from decide_eq_false (by omega))
     go_enter Tryz.func116, Tryz.ntmps116
     go_wp2_with fail
     go_ret
     exact ⟨by rw [HRL.out, HH.out]; simp, rfl⟩
   · have h2e : decide ((100 : Int) < (s.size : Int)) = false := decide_eq_false (by omega)
     have HH := Lib.hid (show decide (1 ≤ s.size) = true ∧ decide (s.size ≤ 100) = true from ⟨decide_eq_true (by omega), decide_eq_true (by omega)⟩)
     have hs2 : (s.size : Int) ≤ 100 := by omega
     clear h1 h2
     go_enter Tryz.func116, Tryz.ntmps116
     go_wp2_with fail
     clear h1e h2e
     go_loopw [3] (fun iv wr => ∃ i : Nat, iv = .int .i64 (i : Int) ∧ i ≤ s.size ∧ wr = w ∧ rLabelFrom s i = rLabelFrom s 0) (fun iv _ => s.size - (intOf iv).toNat)
     case atStart => exact ⟨0, rfl, Nat.zero_le _, rfl, rfl⟩
     case round =>
      obtain ⟨i, rfl, hi, rfl, htx⟩ := hrel
      by_cases hlt : i < s.size
      · have hlt' : (i : Int) < (s.size : Int) := by omega
        have hix := run_index_at hlt
        rw [rLabelFrom_step s i hlt] at htx
        have hbl := byteAt_le s i
        generalize byteAt s i = c at *
        unfold rLabelB at htx
        have HLE := Lib.hid (fun w => rletter_any c w)
        have HDI := Lib.hid (fun w => digit_any c w)
        generalize letterB c = lb at *
        generalize digitB c = db at *
        have HTX := Lib.hid htx
        clear htx
        go_wp2_with fail
        refine (HLE.out _).mono ?_
        rintro e w1 ⟨rfl, rfl⟩
        cases lb with
        | true =>
         go_wp2_with fail
         go_roundw
         case rel => exact ⟨i + 1, by go_num, by omega, by simp, by have h := HTX.out; simpa using h⟩
         case measure => simp [intOf]; omega
        | false =>
         go_wp2_with fail
         refine (HDI.out _).mono ?_
         rintro e w1 ⟨rfl, rfl⟩
         cases db with
         | true =>
          go_wp2_with fail
          go_roundw
          case rel => exact ⟨i + 1, by go_num, by omega, by simp, by have h := HTX.out; simpa using h⟩
          case measure => simp [intOf]; omega
         | false =>
          by_cases h0 : i = 0
          · subst h0
            go_wp2_with fail
            go_ret
            exact ⟨by rw [HRL.out, ← HTX.out]; simp, rfl⟩
          · have h0' : ((i : Int) == 0) = false := by simp [h0]
            have H0 := Lib.hid h0
            clear h0
            by_cases h5 : c = 95
            · have h5' : (c != 95) = false := by simp [h5]
              have H5 := Lib.hid h5
              clear h5
              go_wp2_with fail
              go_roundw
              case rel => exact ⟨i + 1, by go_num, by omega, by simp, by have h := HTX.out; simpa [H0.out, H5.out] using h⟩
              case measure => simp [intOf]; omega
            · have h5' : (c != 95) = true := by simp [h5]
              have H5 := Lib.hid h5
              clear h5
              by_cases h6 : c = 45
              · have h6' : (c != 45) = false := by simp [h6]
                have H6 := Lib.hid h6
                clear h6
                go_wp2_with fail
                go_roundw
                case rel => exact ⟨i + 1, by go_num, by omega, by simp, by have h := HTX.out; simpa [H0.out, H6.out] using h⟩
                case measure => simp [intOf]; omega
              · have h6' : (c != 45) = true := by simp [h6]
                have H6 := Lib.hid h6
                clear h6
                go_wp2_with fail
                go_ret
                exact ⟨by rw [HRL.out, ← HTX.out]; simp [H5.out, H6.out], rfl⟩
      · have hge : (s.size : Int) ≤ (i : Int) := by omega
        rw [rLabelFrom_end s i hlt] at htx
        have HTX := Lib.hid htx
        clear htx hlt
        go_wp2_with fail
        go_ret
        exact ⟨by rw [HRL.out, ← HTX.out, HH.out.1, HH.out.2]; rfl, rfl⟩

/-- What the document asks of a language's bytes from a place on: in part 'part', behind 'long' of its signs. -/
def rLangFrom (s : ByteArray) (i part long : Nat) : Bool :=
 if h : i < s.size then
  (if byteAt s i = 45 then !decide (long = 0) && rLangFrom s (i + 1) (part + 1) 0
   else (letterB (byteAt s i) || (!decide (part = 0) && digitB (byteAt s i))) && (decide (long < 8) && rLangFrom s (i + 1) part (long + 1)))
 else decide (0 < long)
termination_by s.size - i
theorem rLangFrom_step (s : ByteArray) (i part long : Nat) (h : i < s.size) : rLangFrom s i part long = (if byteAt s i = 45 then !decide (long = 0) && rLangFrom s (i + 1) (part + 1) 0
     else (letterB (byteAt s i) || (!decide (part = 0) && digitB (byteAt s i))) && (decide (long < 8) && rLangFrom s (i + 1) part (long + 1))) := by rw [rLangFrom, dif_pos h]
theorem rLangFrom_end (s : ByteArray) (i part long : Nat) (h : ¬ i < s.size) : rLangFrom s i part long = decide (0 < long) := by rw [rLangFrom, dif_neg h]
def rLang (s : ByteArray) : Bool := decide (1 ≤ s.size) && (decide (s.size ≤ 40) && rLangFrom s 0 0 0)

theorem rlang_any (s : ByteArray) (w : World) (hs : s.size ≤ 16384) : Calls Tryz.prog 118 #[.string s] w fun e w' => e = .returned (.bool (rLang s)) ∧ w = w' := by
 have HRL := Lib.hid (show rLang s = (decide (1 ≤ s.size) && (decide (s.size ≤ 40) && rLangFrom s 0 0 0)) from rfl)
 generalize rLang s = rl at *
 by_cases h1 : s.size < 1
 · have h1e : decide ((s.size : Int) < 1) = true := decide_eq_true (by omega)
   have h1' : decide (s.size < 1) = true := decide_eq_true h1
   have h1f : (s.size : Int) < 1 := by omega
   have HH := Lib.hid (show decide (1 ≤ s.size) = false from decide_eq_false (by omega))
   clear h1
   go_enter Tryz.func118, Tryz.ntmps118
   go_wp2_with fail
   go_ret
   exact ⟨by rw [HRL.out, HH.out]; rfl, rfl⟩
 · have h1e : decide ((s.size : Int) < 1) = false := decide_eq_false (by omega)
   by_cases h2 : 40 < s.size
   · have h2e : decide ((40 : Int) < (s.size : Int)) = true := decide_eq_true (by omega)
     have HH := Lib.hid (show decide (s.size ≤ 40) = false from decide_eq_false (by omega))
     go_enter Tryz.func118, Tryz.ntmps118
     go_wp2_with fail
     go_ret
     exact ⟨by rw [HRL.out, HH.out]; simp, rfl⟩
   · have h2e : decide ((40 : Int) < (s.size : Int)) = false := decide_eq_false (by omega)
     have HH := Lib.hid (show decide (1 ≤ s.size) = true ∧ decide (s.size ≤ 40) = true from ⟨decide_eq_true (by omega), decide_eq_true (by omega)⟩)
     have hs2 : (s.size : Int) ≤ 40 := by omega
     clear h1 h2
     go_enter Tryz.func118, Tryz.ntmps118
     go_wp2_with fail
     clear h1e h2e
     go_loopw [3, 4, 5] (fun pv lv iv wr => ∃ i part long : Nat, pv = .int .i64 (part : Int) ∧ lv = .int .i64 (long : Int) ∧ iv = .int .i64 (i : Int) ∧ i ≤ s.size ∧ part ≤ i ∧ long ≤ 8 ∧ wr = w ∧ rLangFrom s i part long = rLangFrom s 0 0 0) (fun _ _ iv _ => s.size - (intOf iv).toNat)
     case atStart => exact ⟨0, 0, 0, rfl, rfl, rfl, Nat.zero_le _, Nat.le_refl _, by omega, rfl, rfl⟩
     case round =>
      obtain ⟨i, part, long, rfl, rfl, rfl, hi, hpi, hl8, rfl, htx⟩ := hrel
      by_cases hlt : i < s.size
      · have hlt' : (i : Int) < (s.size : Int) := by omega
        have hix := run_index_at hlt
        rw [rLangFrom_step s i part long hlt] at htx
        have hbl := byteAt_le s i
        generalize byteAt s i = c at *
        have HLE := Lib.hid (fun w => rletter_any c w)
        have HDI := Lib.hid (fun w => digit_any c w)
        generalize letterB c = lb at *
        generalize digitB c = db at *
        by_cases h45 : c = 45
        · have h45' : (c == 45) = true := by simp [h45]
          rw [if_pos h45] at htx
          have HTX := Lib.hid htx
          clear h45 htx
          by_cases hl0 : long = 0
          · subst hl0
            go_wp2_with fail
            go_ret
            exact ⟨by rw [HRL.out, ← HTX.out]; simp, rfl⟩
          · have hl0' : ((long : Int) == 0) = false := by simp [hl0]
            have HL0 := Lib.hid hl0
            clear hl0
            go_wp2_with fail
            go_roundw
            case rel => exact ⟨i + 1, part + 1, 0, by go_num, rfl, by go_num, by omega, by omega, by omega, by simp, by have h := HTX.out; simpa [HL0.out] using h⟩
            case measure => simp [intOf]; omega
        · have h45' : (c == 45) = false := by simp [h45]
          rw [if_neg h45] at htx
          have HTX := Lib.hid htx
          clear h45 htx
          cases lb with
          | true =>
           by_cases h8 : 8 ≤ long
           · have h8' : (8 : Int) < (long : Int) + 1 := by omega
             have H8 := Lib.hid (show decide (long < 8) = false from decide_eq_false (by omega))
             go_wp2_with fail
             refine (HLE.out _).mono ?_
             rintro e w1 ⟨rfl, rfl⟩
             go_wp2_with fail
             go_ret
             exact ⟨by rw [HRL.out, ← HTX.out, H8.out]; simp, rfl⟩
           · have h8' : (long : Int) + 1 ≤ 8 := by omega
             have H8 := Lib.hid (show decide (long < 8) = true from decide_eq_true (by omega))
             have h8e : ¬ (8 : Int) < (long : Int) + 1 := by omega
             go_wp2_with fail
             refine (HLE.out _).mono ?_
             rintro e w1 ⟨rfl, rfl⟩
             go_wp2_with fail
             go_roundw
             case rel => exact ⟨i + 1, part, long + 1, rfl, by go_num, by go_num, by omega, by omega, by omega, by simp, by have h := HTX.out; rw [H8.out] at h; simpa using h⟩
             case measure => simp [intOf]; omega
          | false =>
           by_cases hp0 : part = 0
           · subst hp0
             go_wp2_with fail
             refine (HLE.out _).mono ?_
             rintro e w1 ⟨rfl, rfl⟩
             go_wp2_with fail
             go_ret
             exact ⟨by rw [HRL.out, ← HTX.out]; simp, rfl⟩
           · have hp0' : ((part : Int) == 0) = false := by simp [hp0]
             have HP0 := Lib.hid hp0
             clear hp0
             cases db with
             | false =>
              go_wp2_with fail
              refine (HLE.out _).mono ?_
              rintro e w1 ⟨rfl, rfl⟩
              go_wp2_with fail
              refine (HDI.out _).mono ?_
              rintro e w1 ⟨rfl, rfl⟩
              go_wp2_with fail
              go_ret
              exact ⟨by rw [HRL.out, ← HTX.out]; simp, rfl⟩
             | true =>
              by_cases h8 : 8 ≤ long
              · have h8' : (8 : Int) < (long : Int) + 1 := by omega
                have H8 := Lib.hid (show decide (long < 8) = false from decide_eq_false (by omega))
                go_wp2_with fail
                refine (HLE.out _).mono ?_
                rintro e w1 ⟨rfl, rfl⟩
                go_wp2_with fail
                refine (HDI.out _).mono ?_
                rintro e w1 ⟨rfl, rfl⟩
                go_wp2_with fail
                go_ret
                exact ⟨by rw [HRL.out, ← HTX.out, H8.out]; simp, rfl⟩
              · have h8' : (long : Int) + 1 ≤ 8 := by omega
                have H8 := Lib.hid (show decide (long < 8) = true from decide_eq_true (by omega))
                have h8e : ¬ (8 : Int) < (long : Int) + 1 := by omega
                go_wp2_with fail
                refine (HLE.out _).mono ?_
                rintro e w1 ⟨rfl, rfl⟩
                go_wp2_with fail
                refine (HDI.out _).mono ?_
                rintro e w1 ⟨rfl, rfl⟩
                go_wp2_with fail
                go_roundw
                case rel => exact ⟨i + 1, part, long + 1, rfl, by go_num, by go_num, by omega, by omega, by omega, by simp, by have h := HTX.out; rw [H8.out] at h; simpa [HP0.out] using h⟩
                case measure => simp [intOf]; omega
      · have hge : (s.size : Int) ≤ (i : Int) := by omega
        rw [rLangFrom_end s i part long hlt] at htx
        have HTX := Lib.hid htx
        clear htx hlt
        by_cases hl0 : long = 0
        · subst hl0
          go_wp2_with fail
          go_ret
          exact ⟨by rw [HRL.out, ← HTX.out, HH.out.1, HH.out.2]; rfl, rfl⟩
        · have hl1 : (0 : Int) < (long : Int) := by omega
          have hl2 : decide (0 < long) = true := decide_eq_true (by omega)
          have HL2 := Lib.hid hl2
          clear hl0
          go_wp2_with fail
          go_ret
          exact ⟨by rw [HRL.out, ← HTX.out, HH.out.1, HH.out.2, HL2.out]; rfl, rfl⟩

end Go.Proofs.YtagchljgmjmlcaaGreatDoor
