/- Whether a text is a language's: walked. -/
import Derived.Test.YtebddgdkndmpjaaGreatDoorGf
import Derived.Deep.CutBlock
import Derived.Deep.RegionLawGrows
import Derived.Deep.Cut
import Derived.Deep.CutRange
import Derived.WalkKit
import Derived.WalkLawsBesides
import Derived.WalkSpells
import Derived.Deep.QuietTactic
import Derived.BigRegion
import Derived.BigQuiet
import Derived.Lib.Hide
import Derived.Outline
import Derived.Deep.AppendLies
import Derived.Deep.RegionLaw
import Derived.Deep.RegionWith
import Derived.Deep.RegionHeld3
import Derived.Deep.LoopGhost
import Derived.Deep.DeepFit
import Derived.Laws.ResultCell
import Derived.Laws.RangeAny
import Derived.Deep.MidRow
import Derived.StillTailTactics
import Derived.OpenShut
namespace Go.Proofs.YtebddgdkndmpjaaGreatDoor
set_option linter.unusedVariables false
open Go.RowKit Go

theorem split_any (s : ByteArray) (w : World) (hs : s.size ≤ 40) : Calls Tryz.prog 420 #[.string s, .string ⟨#[45]⟩] w (SplitPost s w) := by
  go_enter Tryz.func420, Tryz.ntmps420
  go_wp2_with fail
  refine (gensplit_any s w hs).mono ?_
  rintro e w1 ⟨A, n, c, rfl, h⟩
  go_wp2_with fail
  go_ret
  exact ⟨A, n, c, rfl, h⟩

theorem row_le {w : World} {B e size n c : Nat} {A : Option Addr} {xs : List Value} (h : w.ownsRow B e size (.slice A n c) n xs) : n ≤ c := by
  rcases h.2 with ⟨h1, h2⟩ | ⟨g, cap, cur, h1, _, _, h2, _⟩
  · omega
  · injection h1 with _ _ h3
    omega
theorem row_form {w : World} {B e size n c : Nat} {A : Option Addr} {xs : List Value} (h : w.ownsRow B e size (.slice A n c) n xs) (hn : 0 < n) : ∃ g, A = some ⟨g, 0, none⟩ ∧ B ≤ g ∧ g < w.heap.size ∧ n ≤ c := by
  obtain ⟨g, cap, hv, hb, hl⟩ := World.ownsRow.form h hn
  injection hv with h1 _ _
  exact ⟨g, h1, hb, hl, row_le h⟩

/-- May a sign stand in part k of a language? -/
def langSign (k : Nat) (r : Int) : Bool := plainOf r && (!decide (k = 0) || (classOf r == 1))
def partFrom (k : Nat) (s : ByteArray) (p : Nat) : Bool :=
  if h : p < s.size then langSign k ((Utf8.decode s p).1 : Int) && partFrom k s (p + (Utf8.decode s p).2) else true
termination_by s.size - p
decreasing_by have := width_pos s p h; omega
theorem partFrom_step (k : Nat) (s : ByteArray) (p : Nat) (h : p < s.size) : partFrom k s p = (langSign k ((Utf8.decode s p).1 : Int) && partFrom k s (p + (Utf8.decode s p).2)) := by
  rw [partFrom, dif_pos h]
theorem partFrom_end (k : Nat) (s : ByteArray) (p : Nat) (h : ¬ p < s.size) : partFrom k s p = true := by
  rw [partFrom, dif_neg h]
def langPart (k : Nat) (t : ByteArray) : Bool := !t.toList.isEmpty && (!decide (8 < t.size) && partFrom k t 0)
def langAll : Nat → List ByteArray → Bool
  | _, [] => true
  | k, t :: ts => langPart k t && langAll (k + 1) ts
def langOf (s : ByteArray) : Bool := !decide (40 < s.size) && langAll 0 (splitOf s)

set_option maxRecDepth 100000 in
set_option maxHeartbeats 4000000 in
theorem lang_any (s : ByteArray) (w : World) (hs : s.size ≤ 4096) : Calls Tryz.prog 417 #[.string s] w (IsB (langOf s) w) := by
  have HLO := Lib.hid (show langOf s = (!decide (40 < s.size) && langAll 0 (splitOf s)) from rfl)
  generalize langOf s = lo at *
  have hs1 : (s.size : Int) ≤ 4096 := by omega
  by_cases hl : 40 < s.size
  · have hl' : decide (40 < s.size) = true := decide_eq_true hl
    have hl2 : decide ((40 : Int) < (s.size : Int)) = true := decide_eq_true (by omega)
    go_enter Tryz.func417, Tryz.ntmps417
    have HH := Lib.hid hl'
    go_wp2_with fail
    go_ret
    exact IsB.of (Fr.refl _ _) (by rw [HLO.out, HH.out]; rfl)
  · have hl2 : decide ((40 : Int) < (s.size : Int)) = false := decide_eq_false (by omega)
    rw [show decide (40 < s.size) = false from decide_eq_false (by omega), Bool.not_false, Bool.true_and] at HLO
    have hs40 : s.size ≤ 40 := by omega
    clear hl
    go_enter Tryz.func417, Tryz.ntmps417
    go_wp2_with fail
    refine (split_any s w hs40).mono ?_
    rintro e w1 ⟨A, n, c, rfl, hrow, hts, hn, hf1⟩
    generalize splitOf s = ts at *
    have HROW := Lib.hid hrow
    have HTS := Lib.hid hts
    have HF1 := Lib.hid hf1
    have hsz1 := hf1.size
    clear hrow hts hf1 hs1 hl2 hs40
    go_wp2_with fail
    go_loopw [13] (fun iv wr => ∃ k : Nat, iv = .int .i64 (k : Int) ∧ k ≤ n ∧ Fr (fun j => w1.heap.size ≤ j) w1 wr ∧ langAll k (ts.drop k) = lo) (fun iv _ => n - (intOf iv).toNat)
    case atStart => exact ⟨0, rfl, Nat.zero_le _, Fr.refl _ _, by rw [List.drop_zero]; exact HLO.out.symm⟩
    case round =>
      obtain ⟨k, rfl, hk, hf, hla⟩ := hrel
      have hfe : Fr (fun _ => False) w wr := HF1.out.trans' (hf.shut (Nat.le_refl _))
      have HFE := Lib.hid hfe
      clear hfe
      by_cases hlt : k < n
      · have hlt' : (k : Int) < (n : Int) := by omega
        obtain ⟨g, hg, -, hgl, hgc⟩ := row_form HROW.out (by omega)
        subst hg
        have hrow := ownsRow_fr HROW.out hf (fun j hj e => by have := (World.ownsRow.lt HROW.out j hj).2; omega)
        have hlen : ts.length = n := by have := hrow.1; simpa using this
        have hck : wr.cell? ⟨g, k, none⟩ = some (.string (ts.getD k ⟨#[]⟩)) := by
          rw [World.ownsRow.cellAt hrow k (by omega), List.getElem?_map, List.getD_eq_getElem?_getD]
          rw [List.getElem?_eq_getElem (by omega)]
          rfl
        have hdr : langAll k (ts.drop k) = (langPart k (ts.getD k ⟨#[]⟩) && langAll (k + 1) (ts.drop (k + 1))) := by
          rw [List.drop_eq_getElem_cons (by omega), List.getD_eq_getElem?_getD, List.getElem?_eq_getElem (by omega)]
          rfl
        rw [hdr] at hla
        have htk : (ts.getD k ⟨#[]⟩).size ≤ 40 := by
          rw [List.getD_eq_getElem?_getD, List.getElem?_eq_getElem (by omega)]
          exact HTS.out _ (List.getElem_mem _)
        generalize ts.getD k ⟨#[]⟩ = t at *
        have ht1 : (t.size : Int) ≤ 40 := by omega
        have HF := Lib.hid hf
        have hszr := hf.size
        unfold langPart at hla
        have HLA := Lib.hid hla
        clear hrow hf hlen hla hdr
        obtain ⟨wo, rfl⟩ : ∃ wo, wo = wr := ⟨wr, rfl⟩
        by_cases h1 : t.toList = []
        · have h1' : t.toList.isEmpty = true := by rw [h1]; rfl
          have h1e : (t.toList == []) = true := by rw [h1]; rfl
          have H1 := Lib.hid h1'
          clear h1
          go_wp2_with fail
          go_ret
          exact IsB.of HFE.out (by rw [← HLA.out, H1.out]; rfl)
        · have h1' : t.toList.isEmpty = false := by
            cases ht : t.toList with
            | nil => exact absurd ht h1
            | cons a l => rfl
          have h1e : (t.toList == []) = false := by
            cases ht : t.toList with
            | nil => exact absurd ht h1
            | cons a l => rfl
          have H1 := Lib.hid h1'
          by_cases h2 : 8 < t.size
          · have h2' : decide (8 < t.size) = true := decide_eq_true h2
            have h2e : decide ((8 : Int) < (t.size : Int)) = true := decide_eq_true (by omega)
            have H2 := Lib.hid h2'
            clear h2
            go_wp2_with fail
            go_ret
            exact IsB.of HFE.out (by rw [← HLA.out, H2.out]; simp)
          · have h2' : decide (8 < t.size) = false := decide_eq_false h2
            have h2e : decide ((8 : Int) < (t.size : Int)) = false := decide_eq_false (by omega)
            have H2 := Lib.hid h2'
            clear h2
            go_wp2_with fail
            go_loopg [] (t.size) (fun g wi => ∃ (p : Nat), t.size ≤ p + g ∧ ItAt wi wo.heap.size t p ∧ Fr (fun j => wo.heap.size ≤ j) wo wi ∧ partFrom k t p = partFrom k t 0)
            case atStart => exact ⟨0, by omega, ItAt.new wo t 0, (Fr.refl _ _).alloc _, rfl⟩
            case round =>
              obtain ⟨p, hg, hit, hfi, htx⟩ := hrel
              clear hck
              by_cases hp : p < t.size
              · have hnx := run_next_it hit hp
                have hwd := width_pos t p hp
                have hit2 := hit.set (p + (Utf8.decode t p).2)
                have hfi2 : Fr (fun j => wo.heap.size ≤ j) wo (World.itSet wr wo.heap.size t (p + (Utf8.decode t p).2)) := hfi.trans (hit.frS _) (fun i hi e => by omega)
                rw [partFrom_step k t p hp] at htx
                have hvr := decode_valid t p
                have HIT := Lib.hid hit2
                have HFI0 := Lib.hid hfi2
                generalize World.itSet wr wo.heap.size t (p + (Utf8.decode t p).2) = w3 at *
                generalize (Utf8.decode t p).2 = wd at *
                generalize (Utf8.decode t p).1 = r at *
                have HPL := Lib.hid (fun w => plain_any r w hvr)
                have HCL := Lib.hid (fun w => class_any r w hvr)
                unfold langSign at htx
                generalize plainOf (r : Int) = pl at *
                generalize classOf (r : Int) = c5 at *
                have HTX := Lib.hid htx
                clear hit hfi hit2 hfi2 htx hvr
                go_wp2_with fail
                refine (HPL.out w3).mono ?_
                rintro e w4 ⟨rfl, rfl⟩
                have HFI := HFI0
                have HIT4 := HIT
                clear HIT HFI0
                cases pl with
                | false =>
                  go_wp2_with fail
                  go_ret
                  exact IsB.of (HFE.out.trans' (HFI.out.shut (Nat.le_refl _))) (by rw [← HLA.out, ← HTX.out]; simp)
                | true =>
                  by_cases h0 : k = 0
                  · subst h0
                    go_wp2_with fail
                    refine (HCL.out w3).mono ?_
                    rintro e w5 ⟨rfl, rfl⟩
                    by_cases hc : c5 = 1
                    · have hc' : (c5 != 1) = false := by simp [hc]
                      have HC5 := Lib.hid hc
                      clear hc
                      go_wp2_with fail
                      go_roundg (t.size - (p + wd))
                      case measure => omega
                      case rel => exact ⟨p + wd, by omega, HIT4.out, HFI.out, by have h := HTX.out; simpa [HC5.out] using h⟩
                    · have hc' : (c5 != 1) = true := by simp [hc]
                      have HC5 := Lib.hid hc
                      clear hc
                      go_wp2_with fail
                      go_ret
                      exact IsB.of (HFE.out.trans' (HFI.out.shut (Nat.le_refl _))) (by rw [← HLA.out, ← HTX.out]; simp [HC5.out])
                  · have h0' : ((k : Int) == 0) = false := by simp [h0]
                    have HK0 := Lib.hid h0
                    clear h0
                    go_wp2_with fail
                    go_roundg (t.size - (p + wd))
                    case measure => omega
                    case rel => exact ⟨p + wd, by omega, HIT4.out, HFI.out, by have h := HTX.out; simpa [HK0.out] using h⟩
              · have hnx := run_next_it_end hit hp
                rw [partFrom_end k t p hp] at htx
                have HTX := Lib.hid htx
                have HFI := Lib.hid hfi
                clear hit hfi htx
                go_wp2_with fail
                go_roundw
                case rel => exact ⟨k + 1, by go_num, by omega, HF.out.trans HFI.out (fun i hi e => by omega), by rw [← HLA.out, ← HTX.out, H1.out, H2.out]; simp⟩
                case measure => simp [intOf]; omega
      · have hge : (n : Int) ≤ (k : Int) := by omega
        have hlen : ts.length = n := by have := HROW.out.1; simpa using this
        rw [List.drop_eq_nil_of_le (by omega)] at hla
        have HLA := Lib.hid hla
        clear hf hla hlen
        go_wp2_with fail
        go_ret
        exact IsB.of HFE.out HLA.out.symm

end Go.Proofs.YtebddgdkndmpjaaGreatDoor
