/- The law on as many values as there is room for: walked. -/
import Derived.Test.YtebddgdkndmpjaaGreatDoorAs
import Derived.Deep.CutBlock
import Derived.Deep.RegionLawGrows
import Derived.Deep.Cut
import Derived.Deep.CutRange
import Derived.WalkKit
import Derived.WalkLawsBesides
import Derived.WalkSpells
import Derived.Deep.QuietTactic
import Derived.BigRegion
import Derived.BigQuiet
import Derived.Lib.Hide
import Derived.Outline
import Derived.Deep.AppendLies
import Derived.Deep.RegionLaw
import Derived.Deep.RegionWith
import Derived.Deep.RegionHeld3
import Derived.Deep.LoopGhost
import Derived.Deep.DeepFit
import Derived.Laws.ResultCell
import Derived.Laws.RangeAny
import Derived.Deep.MidRow
import Derived.StillTailTactics
import Derived.OpenShut
namespace Go.Proofs.YtebddgdkndmpjaaGreatDoor
set_option linter.unusedVariables false
open Go.RowKit Go

theorem infoZ46 : (Tryz.prog.info? 46).map (fun i => (i.zero, i.size, i.bytes)) = some (some (.agg #[.int .i64 0, .string ⟨#[]⟩, .nilIface, .string ⟨#[]⟩, .nilIface, .string ⟨#[]⟩, .nilIface, .int .i64 0, .string ⟨#[]⟩, .slice none 0 0, .string ⟨#[]⟩, .string ⟨#[]⟩, .nilIface, .slice none 0 0, .string ⟨#[]⟩, .string ⟨#[]⟩, .slice none 0 0]), 17, 280) := by kernel_rfl
theorem let_ext9 : ∀ k, k < 9 → (⟨#[97, 98, 99, 100, 101, 102, 103, 104, 105]⟩ : ByteArray).extract k (k + 1) = letters.getD k ByteArray.empty := by decide +kernel

set_option maxRecDepth 100000 in
set_option maxHeartbeats 4000000 in
theorem dlen_any (B b r : Nat) (vt : Value) (ts : List Tm) (room : Int) (w : World) (hd : IsDict w B b r vt ts room) : Calls Tryz.prog 36 #[.pointer (some ⟨b, 0, none⟩)] w fun e w' => e = .returned (.int .i64 (ts.length : Int)) ∧ w = w' := by
  obtain ⟨A, c, hv⟩ := row_shape hd.row
  subst hv
  have c0 : w.cell? ⟨b, 0, none⟩ = some (.slice A ts.length c) := hd.blk.cell 0
  generalize ts.length = n at *
  clear hd
  go_enter Tryz.func36, Tryz.ntmps36
  go_wp2_with fail
  go_ret
  exact ⟨rfl, rfl⟩

theorem items_next {w0 w4 w6 : World} {gb k c cap g : Nat} {A : Option Addr} {news : List Value} {o : Obj} (hnews : lits (k + 1) = lits k ++ news) (hf4 : Fr (fun j => gb ≤ j) w0 w4) (hg4 : Blk w4 gb 27 #[.slice A k c]) (hi4 : ItemsAt w4 (gb + 1) (.slice A k c) k)
    (hown6 : w6.ownsRow (gb + 1) 46 17 (.slice (some ⟨g, 0, none⟩) (k + 1) cap) (k + 1) (lits k ++ news)) (hgr6 : (w4.alloc o).grownBy w6 (Value.slice A k c).ownBlock) :
    Blk (w6.setCell ⟨gb, 0, none⟩ (.slice (some ⟨g, 0, none⟩) (k + 1) cap)) gb 27 #[.slice (some ⟨g, 0, none⟩) (k + 1) cap] ∧ ItemsAt (w6.setCell ⟨gb, 0, none⟩ (.slice (some ⟨g, 0, none⟩) (k + 1) cap)) (gb + 1) (.slice (some ⟨g, 0, none⟩) (k + 1) cap) (k + 1) ∧
      Fr (fun j => gb ≤ j) w0 (w6.setCell ⟨gb, 0, none⟩ (.slice (some ⟨g, 0, none⟩) (k + 1) cap)) := by
  have F6 := Fr.of_grown hgr6
  have hg6 := (hg4.alloc o).fr F6 (own_blk_ne hi4 hg4 (by decide))
  have FS : Fr (fun j => j = gb) w6 (w6.setCell ⟨gb, 0, none⟩ (.slice (some ⟨g, 0, none⟩) (k + 1) cap)) := (Fr.refl (fun j => j = gb) w6).setCell ⟨gb, 0, none⟩ (fun _ => rfl) _
  refine ⟨hg6.set_ 0 (.slice (some ⟨g, 0, none⟩) (k + 1) cap), ?_, ((hf4.alloc o).trans F6 (fun j _ h => by have := (hi4.lt j h).1; omega)).trans FS (fun j _ h => by omega)⟩
  unfold ItemsAt
  rw [hnews]
  exact ownsRow_fr hown6 FS (fun j hj h => own_blk_ne hown6 hg6 (by decide) (by rw [hj, h]))

set_option maxRecDepth 100000 in
set_option maxHeartbeats 40000000 in
theorem fullsLaw_any (x y : Int) (w : World) (hx0 : 0 ≤ x) (hx : x ≤ 255) (hy0 : 0 ≤ y) (hy : y ≤ 255) : Calls Tryz.prog 7 #[.int .u8 x, .int .u8 y] w (IsB true w) := by
  have HA := Lib.hid (fun w => awake31_any w)
  obtain ⟨i46, hi46, hz460, hz461, hz462⟩ := info_parts infoZ46
  have hyy : 0 ≤ y % 9 ∧ y % 9 ≤ 8 := by omega
  have hxx : 0 ≤ x % 6 ∧ x % 6 ≤ 5 := by omega
  go_enter Tryz.func7, Tryz.ntmps7
  go_wp2_with fail
  refine (HA.out _).mono ?_
  rintro e w1 ⟨rfl, hf1⟩
  go_wp2_with fail
  generalize y % 9 = ny at *
  generalize x % 6 = rr at *
  obtain ⟨n, rfl⟩ := Int.eq_ofNat_of_zero_le hyy.1
  have hn : n ≤ 8 := by omega
  obtain ⟨room, hroom⟩ : ∃ room, room = 1 + rr := ⟨_, rfl⟩
  rw [← hroom]
  have hr1 : 1 ≤ room := by omega
  have hr6 : room ≤ 6 := by omega
  clear hyy hxx hx0 hx hy0 hy hroom
  refine (dnew_any room w1 (by omega) (by omega)).mono ?_
  rintro e w2 ⟨rfl, hd2, hf2⟩
  have HD2 := Lib.hid hd2
  have HF2 := Lib.hid (hf1.trans' hf2)
  have HS := Lib.hid (fun w => snew_any 1 w (by decide) (by decide))
  have hsz1 := hf1.size
  have hsz2 := hf2.size
  have hlt2 := hd2.blk.lt
  clear hd2 hf1 hf2
  go_wp2_with fail
  refine (HS.out _).mono ?_
  rintro e w3 ⟨rfl, hf3⟩
  have HD3 := Lib.hid (HD2.out.frF (hf3.alloc (.cells #[.slice none 0 0] 27)))
  have HF3 := Lib.hid ((HF2.out.trans' hf3).alloc (.cells #[.slice none 0 0] 27))
  have HG3 := Lib.hid (Blk.new w3 27 #[.slice none 0 0])
  have hsz3 := hf3.size
  have HI := Lib.hid (fun i hi w => int_small i hi w)
  clear hf3
  go_wp2_with fail
  go_loopw [38] (fun iv wr => ∃ (k : Nat) (A : Option Addr) (c : Nat), iv = .int .i64 (k : Int) ∧ k ≤ n ∧ Blk wr w3.heap.size 27 #[.slice A k c] ∧ ItemsAt wr (w3.heap.size + 1) (.slice A k c) k ∧ Fr (fun j => w3.heap.size ≤ j) (w3.alloc (.cells #[.slice none 0 0] 27)) wr) (fun iv _ => n - (intOf iv).toNat)
  case atStart => exact ⟨0, none, 0, rfl, Nat.zero_le _, HG3.out, World.ownsRow_nil _ _ _ _, Fr.refl _ _⟩
  case round =>
    obtain ⟨k, A, c, rfl, hk, hg, hi, hf⟩ := hrel
    have HGB := Lib.hid hg
    have HIT := Lib.hid hi
    have HF := Lib.hid hf
    have hszr := hf.size
    rw [show (w3.alloc (.cells #[.slice none 0 0] 27)).heap.size = w3.heap.size + 1 by simp] at hszr
    have hgl := hg.lt
    have g0 : wr.cell? ⟨w3.heap.size, 0, none⟩ = some (.slice A k c) := hg.cell 0
    clear hg hi hf
    by_cases hlt : k < n
    · have hlt' : (k : Int) < (n : Int) := by omega
      have HIN := Lib.hid (fun w => HI.out k (by omega) w)
      have HEX := Lib.hid (let_ext9 k (by omega))
      have HST := Lib.hid (lits_step k)
      unfold litItem smallTm Tm.val at HST
      rw [← HEX.out] at HST
      generalize (⟨(Lib.decDigits k).toArray⟩ : ByteArray) = dj at *
      generalize xInt = xi at *
      have hk9 : k + 1 ≤ 9 := by omega
      have hk9' : (k : Int) + 1 ≤ 9 := by omega
      have hw1 : IntKind.i64.wrap ((k : Int) + 1) = (k : Int) + 1 := IntWalk.i64_in _ (by omega)
      have hwn : ((k : Int) + 1).toNat = k + 1 := by omega
      have hw0 : 0 ≤ (k : Int) + 1 := by omega
      have hwk : (k : Int) ≤ (k : Int) + 1 := by omega
      go_wp2_with fail
      go_region_law (first
        | (go_simp; go_at_call 24; refine (HIN.out _).mono ?_; rintro e w4 ⟨rfl, hf4⟩; have F4 : Fr (fun _ => False) wr w4 := Fr.trans' (by repeat' (first | exact Fr.refl _ _ | refine Fr.drew ?_)) hf4; have hg4 := HGB.out.fr F4 (fun h => h); have hi4 := HIT.out.fr F4 (fun _ _ h => h); have g4 : w4.cell? ⟨w3.heap.size, 0, none⟩ = some (.slice A k c) := hg4.cell 0; have hl4 := hg4.lt; have hs4 := F4.size)
        | (refine step_append_lies _ (by rfl) _ _ 25 (by rfl) (w3.heap.size + 1) 46 i46 _ 17 280 Tryz.underlying25 hi46 hz460 hz461 hz462 rfl (by decide) (.slice A k c) k (lits k) (by rfl) (World.ownsRow.alloc hi4 _) _ 1 1 [.int .i64 2, .string ⟨#[]⟩, .nilIface, .string ⟨#[]⟩, .nilIface, .string ⟨#[]⟩, .nilIface, .int .i64 0, .string ⟨#[]⟩, .slice none 0 0, .string ⟨#[]⟩, .string ⟨#[]⟩, .iface 78 (.agg #[.string dj, .string xi, .string ⟨#[]⟩]), .slice none 0 0, .string ((⟨#[97, 98, 99, 100, 101, 102, 103, 104, 105]⟩ : ByteArray).extract k (k + 1)), .string ⟨#[]⟩, .slice none 0 0] (by rfl) rfl (World.news_of_block (heap_alloc_new w4 _)) (by intro u hu; simp only [List.mem_cons, List.not_mem_nil, or_false] at hu; rcases hu with rfl | rfl | rfl | rfl | rfl | rfl | rfl | rfl | rfl | rfl | rfl | rfl | rfl | rfl | rfl | rfl | rfl <;> rfl) (by decide) (by unfold maxLen; omega) (by omega) (by first | omega | (simp; omega)) _ rfl ?_; intro g cap w6 hown6 hgr6 hor6 hlt6; have F6 := Fr.of_grown hgr6; have hg6 := (hg4.alloc _).fr F6 (own_blk_ne hi4 hg4 (by decide)); have HNX := Lib.hid (items_next HST.out (HF.out.trans F4 (fun _ _ h => h.elim)) hg4 hi4 hown6 hgr6); have g6 := hg6.cell 0; have f6 := hg6.frozen 0; have hl6 := hg6.lt))
      all_goals
        clear hg6 hown6 hgr6 hor6 F6 hg4 hi4 hf4 F4
        go_wp2_with fail
        go_roundw
        case rel => exact ⟨k + 1, _, _, by go_num, by omega, HNX.out.1, HNX.out.2.1, HNX.out.2.2⟩
        case measure => simp only [intOf]; omega
    · have hlt' : ¬ (k : Int) < (n : Int) := by omega
      have hke : k = n := by omega
      subst hke
      have HDR := Lib.hid (HD3.out.fr HF.out (fun h => by omega) (fun h => by omega) (fun j hj h => by have := (HD3.out.row.lt j hj).2; cases hj))
      have HEV := Lib.hid (evalN (w1.heap.size + 1) w1.heap.size w1.heap.size (w3.heap.size + 1) k c (some ⟨w2.heap.size, 0, none⟩) A (.slice none 0 0) room wr (by omega) (by omega) HDR.out (by omega) HIT.out)
      have HFR := Lib.hid ((HF3.out.mono (T := fun j => w.heap.size ≤ j) (fun _ _ h => h.elim)).trans HF.out (fun j _ h => by omega))
      go_wp2_with fail
      refine HEV.out.mono ?_
      rintro e w5 ⟨vt5, l5, hd5, hkp5, hcase⟩
      have HF5 := Lib.hid (HFR.out.trans' (hkp5.fr (n := w.heap.size) (by omega)))
      have HD5 := Lib.hid hd5
      clear hd5 hkp5 g0
      rcases hcase with ⟨V, vc, A5, c5, vals5, rfl, hkr, hV5, hs5, hr5, rfl⟩ | ⟨rfl, hrk⟩
      · have hkr' : ¬ (k : Int) > room := by omega
        have hf6 : Fr (fun _ => False) w5 (w5.alloc (.cells #[.slice V k vc, .slice A5 1 c5] 63)) := (Fr.refl _ w5).alloc _
        have HT6 := Lib.hid (Blk.new w5 63 #[.slice V k vc, .slice A5 1 c5])
        have HR6 := Lib.hid (hr5.frF hf6)
        have HG := Lib.hid (tabGood_any vc k _ _ V (letters.take k) (.slice A5 1 c5) vals5 [ramp k] (w5.alloc (.cells #[.slice V k vc, .slice A5 1 c5] 63)) (by omega) (by simp) (fun i hi => by
            have hi0 : i = 0 := by simp at hi; omega
            subst hi0
            exact ramp_len k) (fun i hi => by
            have hi0 : i = 0 := by simp at hi; omega
            subst hi0
            exact fun q hq => by rw [show ([ramp k] : List (List Int)).getD 0 [] = ramp k from rfl, ramp_get k q hq]; omega) HR6.out
          (fun j hj => by rw [let_take k _ (by omega) (by omega), let_take k _ (by omega) (by omega), let_up _ (by omega) _ (by omega)]; exact decide_eq_true (by omega)) (ownsRow_fr hs5 hf6 (fun _ _ h => h)))
        have HF6 := Lib.hid (HF5.out.trans hf6 (fun _ _ h => h.elim))
        have HD6 := Lib.hid (HD5.out.frF hf6)
        clear hs5 hr5 hf6
        go_wp2_with fail
        refine HG.out.mono ?_
        rintro e w7 ⟨rfl, hf7⟩
        have hT7 := HT6.out.fr hf7 (fun h => h)
        have t0 : w7.cell? ⟨w5.heap.size, 0, none⟩ = some (.slice V k vc) := hT7.cell 0
        have t1 : w7.cell? ⟨w5.heap.size, 1, none⟩ = some (.slice A5 1 c5) := hT7.cell 1
        have htl := hT7.lt
        have hr7 := HR6.out.frF hf7
        have hown := hr7.own
        rw [show ([ramp k] : List (List Int)).length = 1 from rfl] at hown
        obtain ⟨ga, rfl, _, _, _⟩ := row_form hown (by decide)
        have hlv : vals5.length = 1 := by have := hown.1; simpa using this
        have hck : w7.cell? ⟨ga, 0, none⟩ = some (vals5.getD 0 undef) := by
          rw [World.ownsRow.cellAt hown 0 (by decide), List.getD_eq_getElem?_getD, List.getElem?_eq_getElem (by omega)]; rfl
        have hek := hr7.each 0 (by simp)
        rw [show ([ramp k] : List (List Int)).getD 0 [] = ramp k from rfl] at hek
        obtain ⟨R9, rc9, hvk⟩ := row_shape hek
        rw [hvk] at hck hek
        rw [ramp_len] at hck hek
        have HEK := Lib.hid hek
        have HF7 := Lib.hid (HF6.out.trans hf7 (fun _ _ h => h.elim))
        have HD7 := Lib.hid (HD6.out.frF hf7)
        clear hT7 hr7 hown hek hf7 hvk
        go_wp2_with fail
        obtain ⟨wo, hwo⟩ : ∃ wo, wo = wr := ⟨wr, rfl⟩
        go_loopw [101] (fun iv wy => ∃ j : Nat, iv = .int .i64 (j : Int) ∧ j ≤ k ∧ Fr (fun _ => False) w7 wy) (fun iv _ => k - (intOf iv).toNat)
        case atStart => exact ⟨0, rfl, Nat.zero_le _, Fr.refl _ _⟩
        case round =>
          obtain ⟨j, rfl, hjk, hfj⟩ := hrel
          have HFJ := Lib.hid hfj
          have HDJ := Lib.hid (HD7.out.frF hfj)
          have hij := ownsRow_fr HEK.out hfj (fun _ _ h => h)
          clear hfj
          by_cases hlt3 : j < k
          · have hlt3' : (j : Int) < (k : Int) := by omega
            obtain ⟨gR, rfl, _, _, _⟩ := row_form (n := k) (by rw [ramp_len] at hij; exact hij) (by omega)
            have ci := int_cell (n := k) (xs := ramp k) (by unfold IntRow; exact hij) j (by rw [ramp_len]; exact hlt3)
            rw [ramp_get k j hlt3] at ci
            have HE := Lib.hid (term_any w1.heap.size (w1.heap.size + 1) w1.heap.size vt5 (smalls k) room (j : Int) _ HDJ.out (by rw [smalls_len]; omega))
            rw [smalls_term, if_pos ⟨by omega, by omega⟩, Int.toNat_natCast] at HE
            simp only [termV, termE] at HE
            have HSM := Lib.hid (fun w => same_any (smallTm j) (smallTm j) w)
            rw [show sameB (smallTm j) (smallTm j) = true from sameB_iff.2 rfl] at HSM
            have HIN := Lib.hid (fun w => HI.out j (by omega) w)
            unfold smallTm Tm.val at HE HSM
            generalize (⟨(Lib.decDigits j).toArray⟩ : ByteArray) = dj at *
            generalize xInt = xi at *
            clear hij
            go_wp2_with fail
            refine HE.out.mono ?_
            rintro e w8 ⟨rfl, rfl⟩
            go_wp2_with fail
            refine (HIN.out _).mono ?_
            rintro e w9 ⟨rfl, hf9⟩
            have HF9 := Lib.hid (HFJ.out.trans' hf9)
            clear hf9
            go_wp2_with fail
            refine (HSM.out _).mono ?_
            rintro e w10 ⟨rfl, rfl⟩
            go_wp2_with fail
            go_roundw
            case rel => exact ⟨j + 1, by go_num, by omega, HF9.out⟩
            case measure => simp only [intOf]; omega
          · have hjk3 : j = k := by omega
            subst hjk3
            have hlt3' : ¬ (j : Int) < (j : Int) := by omega
            have HL := Lib.hid (dlen_any w1.heap.size (w1.heap.size + 1) w1.heap.size vt5 (smalls j) room _ HDJ.out)
            rw [smalls_len] at HL
            clear hij
            go_wp2_with fail
            refine HL.out.mono ?_
            rintro e w8 ⟨rfl, rfl⟩
            go_wp2_with fail
            go_ret
            exact ⟨rfl, (HF7.out.trans HFJ.out (fun _ _ h => h.elim)).shut (Nat.le_refl _)⟩
      · have hrk' : (k : Int) > room := hrk
        have HF6 := Lib.hid ((HF5.out.alloc (.cells #[.slice none 0 0, .slice none 0 0] 63)).shut (Nat.le_refl _))
        go_wp2_with fail
        go_ret
        exact ⟨rfl, HF6.out⟩

end Go.Proofs.YtebddgdkndmpjaaGreatDoor
