/- The law on what vars stand for by a row: walked. -/
import Derived.Test.YtebddgdkndmpjaaGreatDoorAd
import Derived.Deep.CutBlock
import Derived.Deep.RegionLawGrows
import Derived.Deep.Cut
import Derived.Deep.CutRange
import Derived.WalkKit
import Derived.WalkLawsBesides
import Derived.WalkSpells
import Derived.Deep.QuietTactic
import Derived.BigRegion
import Derived.BigQuiet
import Derived.Lib.Hide
import Derived.Outline
import Derived.Deep.AppendLies
import Derived.Deep.RegionLaw
import Derived.Deep.RegionWith
import Derived.Deep.RegionHeld3
import Derived.Deep.LoopGhost
import Derived.Deep.DeepFit
import Derived.Laws.ResultCell
import Derived.Laws.RangeAny
import Derived.Deep.MidRow
import Derived.StillTailTactics
import Derived.OpenShut
namespace Go.Proofs.YtebddgdkndmpjaaGreatDoor
set_option linter.unusedVariables false
open Go.RowKit Go

/-- Bytes that came in. -/
def IsBytes (w : World) (a : Option Addr) (n c : Nat) (xs : List Int) : Prop :=
  (a = none ∧ n = 0 ∧ c = 0 ∧ xs = []) ∨ ∃ p : Addr, a = some p ∧ n ≤ c ∧ xs.length = n ∧ ∀ i, i < n → p.spot = none ∧ w.cell? ⟨p.block, p.off + i, none⟩ = some (.int .u8 (xs.getD i 0)) ∧ 0 ≤ xs.getD i 0 ∧ xs.getD i 0 ≤ 255
theorem IsBytes.len {w : World} {a : Option Addr} {n c : Nat} {xs : List Int} (h : IsBytes w a n c xs) : xs.length = n := by
  rcases h with ⟨_, rfl, _, rfl⟩ | ⟨p, _, _, h, _⟩
  · rfl
  · exact h
theorem IsBytes.fr {w w' : World} {a : Option Addr} {n c : Nat} {xs : List Int} (h : IsBytes w a n c xs) (hf : Fr (fun j => w.heap.size ≤ j) w w') : IsBytes w' a n c xs := by
  rcases h with h | ⟨p, h1, h2, h3, h4⟩
  · exact .inl h
  · exact .inr ⟨p, h1, h2, h3, fun i hi => ⟨(h4 i hi).1, cell_frS hf (fun hle => by
      have h := (h4 i hi).2.1
      have hn : w.heap[p.block]? = none := Array.getElem?_eq_none hle
      unfold World.cell? at h
      simp [hn] at h) (h4 i hi).2.1, (h4 i hi).2.2⟩⟩

theorem let_ext : ∀ k, k < 8 → (⟨#[97, 98, 99, 100, 101, 102, 103, 104]⟩ : ByteArray).extract k (k + 1) = letters.getD k ByteArray.empty := by decide +kernel
/-- The numbers that bytes stand for, each at most 9, or none. -/
def envRow (xs : List Int) : List Int := xs.map fun x => x % 11 - 1

set_option maxRecDepth 100000 in
set_option maxHeartbeats 8000000 in
theorem envsLaw_any (a : Option Addr) (n c : Nat) (xs : List Int) (w : World) (hx : IsBytes w a n c xs) (hn : n ≤ maxLen) : Calls Tryz.prog 8 #[.slice a n c] w (IsB true w) := by
  have HA := Lib.hid (fun w => awake31_any w)
  have HX := Lib.hid hx
  obtain ⟨i9, hi9, hz90, hz91, hz92⟩ := info_parts info9
  obtain ⟨i3, hi3, hz30, hz31, hz32⟩ := info_parts info3
  have hn63 : n ≤ 9223372036854775807 := hn
  clear hx hn
  by_cases h8 : n ≤ 8
  · have h8' : decide ((n : Int) > 8) = false := decide_eq_false (by omega)
    have HD := Lib.hid (fun w => dnew_any 100 w (by decide) (by decide))
    have HI := Lib.hid (fun i hi w => int_small i hi w)
    have HP := Lib.hid (fun w B b r vt (k : Nat) (hk : k < 10) hd hB => put_any w B b r vt (smalls k) 100 (smallTm k) hd (small_short k hk) (by rw [smalls_len]; omega) hB)
    go_enter Tryz.func8, Tryz.ntmps8
    go_wp2_with fail
    refine (HA.out _).mono ?_
    rintro e w1 ⟨rfl, hf1⟩
    go_wp2_with fail
    refine (HD.out _).mono ?_
    rintro e w2 ⟨rfl, hd2, hf2⟩
    have HD2 := Lib.hid hd2
    have HF2 := Lib.hid ((hf1.trans' hf2).mono (T := fun j => w.heap.size ≤ j) (fun _ _ h => h.elim))
    have hsz1 := hf1.size
    have hsz2 := hf2.size
    have hlt2 := hd2.blk.lt
    clear hd2 hf1 hf2
    go_wp2_with fail
    go_loopw [32] (fun iv wr => ∃ (k : Nat) (vt : Value), iv = .int .i64 (k : Int) ∧ k ≤ 10 ∧ IsDict wr w1.heap.size (w1.heap.size + 1) w1.heap.size vt (smalls k) 100 ∧ Fr (fun j => w.heap.size ≤ j) w wr ∧ w1.heap.size + 2 ≤ wr.heap.size) (fun iv _ => 10 - (intOf iv).toNat)
    case atStart => exact ⟨0, .slice none 0 0, rfl, Nat.zero_le _, HD2.out, HF2.out, by omega⟩
    case round =>
      obtain ⟨k, vt, rfl, hk, hd, hf, hsz⟩ := hrel
      have HD3 := Lib.hid hd
      have HF3 := Lib.hid hf
      have hszw := hf.size
      clear hd hf
      by_cases hlt : k < 10
      · have hlt' : (k : Int) < 10 := by omega
        obtain ⟨hp1, hp2, hp3⟩ := smalls_put k 100 hlt (by omega)
        go_wp2_with fail
        refine (HI.out k (by omega) _).mono ?_
        rintro e w3 ⟨rfl, hf3⟩
        have HD4 := Lib.hid (HD3.out.frF hf3)
        have hsz3 := hf3.size
        have HF4 := Lib.hid (HF3.out.trans hf3 (fun _ _ h => h.elim))
        clear hf3
        have HPU := Lib.hid (HP.out w3 w1.heap.size (w1.heap.size + 1) w1.heap.size vt k hlt HD4.out (by omega))
        rw [hp1, hp2, hp3] at HPU
        go_wp2_with fail
        refine HPU.out.mono ?_
        rintro e w4 ⟨vt4, rfl, hd4, hf4, _⟩
        have HD5 := Lib.hid hd4
        have HF5 := Lib.hid (HF4.out.trans hf4 (fun j _ h => h.elim (fun h => by omega) (fun h => h.elim (fun h => by omega) (fun h => by have := (HD4.out.row.lt j h).1; omega))))
        have hsz4 := hf4.size
        clear hd4 hf4
        go_wp2_with fail
        go_roundw
        case rel => exact ⟨k + 1, vt4, by go_num, hlt, HD5.out, HF5.out, by omega⟩
        case measure => simp only [intOf]; omega
      · have hlt' : ¬ (k : Int) < 10 := by omega
        have hk10 : k = 10 := by omega
        subst hk10
        go_wp2_with fail
        obtain ⟨wo, rfl⟩ : ∃ wo, wo = wr := ⟨wr, rfl⟩
        go_loopw [8, 9, 53] (fun sv rv iv wq => ∃ (k : Nat) (A : Option Addr) (c1 : Nat) (R : Option Addr) (c2 : Nat), sv = .slice A k c1 ∧ rv = .slice R k c2 ∧ iv = .int .i64 (k : Int) ∧ k ≤ n ∧ (k = 0 → A = none ∧ c1 = 0) ∧ wq.ownsRow w.heap.size 9 1 (.slice A k c1) k ((letters.take k).map .string) ∧ IntRow wq w.heap.size (.slice R k c2) (envRow (xs.take k)) ∧ IsDict wq w1.heap.size (w1.heap.size + 1) w1.heap.size vt (smalls 10) 100 ∧ Fr (fun j => w.heap.size ≤ j) w wq) (fun _ _ iv _ => n - (intOf iv).toNat)
        case atStart => exact ⟨0, none, 0, none, 0, rfl, rfl, rfl, Nat.zero_le _, fun _ => ⟨rfl, rfl⟩, World.ownsRow_nil _ _ _ _, World.ownsRow_nil _ _ _ _, HD3.out, HF3.out⟩
        case round =>
          obtain ⟨k, A, c1, R, c2, rfl, rfl, rfl, hk2, hk0, ho1, ho2, hd2, hf2⟩ := hrel
          have HO1 := Lib.hid ho1
          have HO2 := Lib.hid ho2
          have HD6 := Lib.hid hd2
          have HF6 := Lib.hid hf2
          have HK0 := Lib.hid hk0
          have hszq := hf2.size
          have hxq := HX.out.fr hf2
          clear ho1 ho2 hd2 hf2 hk0
          by_cases hlt2 : k < n
          · have hlt2' : (k : Int) < (n : Int) := by omega
            rcases hxq with ⟨_, h0, _⟩ | ⟨p, rfl, hnc, hxl, hall⟩
            · omega
            obtain ⟨hsp, hcell, hb0, hb1⟩ := hall k hlt2
            obtain ⟨pb, po, ps⟩ := p
            simp only at hsp hcell
            subst hsp
            generalize hyy : xs.getD k 0 = y at *
            clear hall
            have hlenk : (envRow (xs.take k)).length = k := by unfold envRow; rw [List.length_map, List.length_take]; omega
            have hrk := HO2.out
            unfold IntRow at hrk
            rw [hlenk] at hrk
            have HRK := Lib.hid hrk
            clear hrk hlenk
            go_wp2_with (first
              | (at_builtin; refine wpList_append_own _ rfl _ _ 28 rfl w.heap.size 9 i9 _ 1 16 Tryz.underlying28 hi9 hz90 hz91 hz92 rfl (by decide) (.slice A k c1) k ((letters.take k).map .string) (by rfl) (HO1.out.alloc _) ⟨wr.heap.size, 0, none⟩ 1 1 [.string ((⟨#[97, 98, 99, 100, 101, 102, 103, 104]⟩ : ByteArray).extract k (k + 1))] (by rfl) rfl (World.news_of_block (heap_alloc_new wr _)) (by intro u hu; rw [List.mem_singleton] at hu; rw [hu]; rfl) (by unfold maxLen; omega) (by omega) (by simp; omega) ?_; intro v7 w7 hown7 hgr7 _; obtain ⟨A7, c7, hv7⟩ := row_shape hown7; subst hv7; have HOWN7 := Lib.hid hown7; have F7 := Lib.hid (show Fr (fun j => (Value.slice A k c1).ownBlock = some j) wr w7 from ((Fr.refl _ wr).alloc _).trans (Fr.of_grown hgr7) (fun _ _ h => h)); clear hown7 hgr7)
              | (at_builtin; refine wpList_append_own _ rfl _ _ 48 rfl w.heap.size 3 i3 _ 1 8 Tryz.underlying48 hi3 hz30 hz31 hz32 rfl (by decide) (.slice R k c2) k ((envRow (xs.take k)).map (.int .i64)) (by rfl) ((ownsRow_fr HRK.out F7.out (fun j hj h => row_row_ne HO1.out HRK.out (by decide) h hj)).alloc _) ⟨w7.heap.size, 0, none⟩ 1 1 [.int .i64 (y % 11 - 1)] (by rfl) rfl (World.news_of_block (heap_alloc_new w7 _)) (by intro u hu; rw [List.mem_singleton] at hu; rw [hu]; rfl) (by unfold maxLen; omega) (by omega) (by have := F7.out.size; simp; omega) ?_; intro v8 w8 hown8 hgr8 _; obtain ⟨A8, c8, hv8⟩ := row_shape hown8; subst hv8; have HOWN8 := Lib.hid hown8; have F8 := Lib.hid (show Fr (fun j => (Value.slice R k c2).ownBlock = some j) w7 w8 from ((Fr.refl _ w7).alloc _).trans (Fr.of_grown hgr8) (fun _ _ h => h)); clear hown8 hgr8))
            have hR7 := ownsRow_fr HRK.out F7.out (fun j hj h => row_row_ne HO1.out HRK.out (by decide) h hj)
            have hD7 := HD6.out.fr F7.out (fun h => own_blk_ne HO1.out HD6.out.blk (by decide) h) (fun h => HD6.out.map.ne_row HO1.out h) (fun j hj h => row_row_ne HO1.out HD6.out.row (by decide) h hj)
            have hD8 := hD7.fr F8.out (fun h => own_blk_ne hR7 hD7.blk (by decide) h) (fun h => hD7.map.ne_row hR7 h) (fun j hj h => row_row_ne hR7 hD7.row (by decide) h hj)
            have hA8 := ownsRow_fr HOWN7.out F8.out (fun j hj h => row_row_ne hR7 HOWN7.out (by decide) h hj)
            have hF8 : Fr (fun j => w.heap.size ≤ j) w w8 := (HF6.out.trans F7.out (fun j _ h => (HO1.out.lt j h).1)).trans F8.out (fun j _ h => (hR7.lt j h).1)
            have e1 : (letters.take (k + 1)).map Value.string = (letters.take k).map Value.string ++ [.string ((⟨#[97, 98, 99, 100, 101, 102, 103, 104]⟩ : ByteArray).extract k (k + 1))] := by
              rw [let_step k (by omega), List.map_append, let_ext k (by omega)]
              rfl
            have e2 : envRow (xs.take (k + 1)) = envRow (xs.take k) ++ [y % 11 - 1] := by
              unfold envRow
              rw [List.take_add_one, List.map_append, List.getElem?_eq_getElem (by omega)]
              rw [List.getD_eq_getElem?_getD, List.getElem?_eq_getElem (by omega)] at hyy
              simp only [Option.getD_some] at hyy
              simp [hyy]
            have hI8 : IntRow w8 w.heap.size (.slice A8 (k + 1) c8) (envRow (xs.take (k + 1))) := by
              unfold IntRow
              rw [e2, List.length_append, List.map_append, show (envRow (xs.take k)).length = k by unfold envRow; rw [List.length_map, List.length_take]; omega]
              exact HOWN8.out
            have NEXT := Lib.hid (show ∃ (k' : Nat) (A : Option Addr) (c1 : Nat) (R : Option Addr) (c2 : Nat), Value.slice A7 (k + 1) c7 = .slice A k' c1 ∧ Value.slice A8 (k + 1) c8 = .slice R k' c2 ∧ Value.int .i64 ((k : Int) + 1) = .int .i64 (k' : Int) ∧ k' ≤ n ∧ (k' = 0 → A = none ∧ c1 = 0) ∧ w8.ownsRow w.heap.size 9 1 (.slice A k' c1) k' ((letters.take k').map .string) ∧ IntRow w8 w.heap.size (.slice R k' c2) (envRow (xs.take k')) ∧ IsDict w8 w1.heap.size (w1.heap.size + 1) w1.heap.size vt (smalls 10) 100 ∧ Fr (fun j => w.heap.size ≤ j) w w8 from
              ⟨k + 1, A7, c7, A8, c8, rfl, rfl, by go_num, hlt2, fun h => by omega, by rw [e1]; exact hA8, hI8, hD8, hF8⟩)
            clear hR7 hD7 hD8 hA8 hF8 e1 e2 hI8
            go_wp2_with fail
            go_roundw
            case rel => exact NEXT.out
            case measure => simp only [intOf]; omega
          · have hkn : n = k := by omega
            subst hkn
            have hlt2' : ¬ (n : Int) < (n : Int) := by omega
            go_wp2_with fail
            have hxn := HX.out.len
            rw [List.take_of_length_le (by omega)] at HO2
            have hR0 := HO2.out
            unfold IntRow at hR0
            have hlenr : (envRow xs).length = n := by unfold envRow; rw [List.length_map]; exact hxn
            rw [hlenr] at hR0
            have hown : (wr.alloc (.cells #[.slice R n c2] 48)).ownsRow w.heap.size 48 1 (.slice (some ⟨wr.heap.size, 0, none⟩) 1 1) 1 [.slice R n c2] := World.ownsRow_lit wr #[.slice R n c2] 1 (by omega) (by decide) rfl
            have hrows : RowsAt (wr.alloc (.cells #[.slice R n c2] 48)) w.heap.size (.slice (some ⟨wr.heap.size, 0, none⟩) 1 1) [.slice R n c2] [envRow xs] := ⟨hown, fun i hi => by
              have hi0 : i = 0 := by simp at hi; omega
              subst hi0
              exact HO2.out.fr ((Fr.refl (fun _ => False) wr).alloc _) (fun _ _ h => h)⟩
            have hmin : ∀ k, k < n → -1 ≤ (envRow xs).getD k 0 ∧ (envRow xs).getD k 0 ≤ 9 := fun k hk => by
              unfold envRow
              rw [List.getD_eq_getElem?_getD, List.getElem?_map, List.getElem?_eq_getElem (by omega)]
              simp only [Option.map_some, Option.getD_some]
              omega
            have HOF := Lib.hid (of_any n c1 w.heap.size A _ _ (letters.take n) [envRow xs] _ (by omega) HK0.out (let_len n (by omega))
              (fun j hj => by rw [let_take n _ (by omega) (by omega), let_take n _ (by omega) (by omega), let_up _ (by omega) _ (by omega)]; exact decide_eq_false (by omega))
              (fun j hj => by rw [let_take n _ (by omega) (by omega), let_take n _ (by omega) (by omega), let_eq _ (by omega) _ (by omega)]; exact decide_eq_false (by omega))
              (fun k hk j hj he => by
                rw [let_take n _ (by omega) (by omega), let_take n _ (by omega) (by omega)] at he
                have h := let_eq j (by omega) k (by omega)
                rw [he] at h
                simp at h
                omega)
              (fun i hi => by
                have hi0 : i = 0 := by simp at hi; omega
                subst hi0
                exact hlenr)
              (fun i hi => by
                have hi0 : i = 0 := by simp at hi; omega
                subst hi0
                exact fun k hk => (hmin k hk).1)
              (by simp) (HO1.out.alloc _) hrows)
            have HMIN := Lib.hid hmin
            have HLENR := Lib.hid hlenr
            have HF9 := Lib.hid (HF6.out.alloc (.cells #[.slice R n c2] 48))
            have HD9 := Lib.hid (HD6.out.frF ((Fr.refl (fun _ => False) wr).alloc (.cells #[.slice R n c2] 48)))
            have HV9 := Lib.hid (HO1.out.alloc (.cells #[.slice R n c2] 48))
            have HI9 := Lib.hid (HO2.out.fr ((Fr.refl (fun _ => False) wr).alloc (.cells #[.slice R n c2] 48)) (fun _ _ h => h))
            clear hown hrows hR0 hmin hlenr
            refine HOF.out.mono ?_
            rintro e w9 ⟨tv, rfl, ⟨V, vc, vr, vals, rfl, hv9, hr9⟩, hf9⟩
            obtain ⟨A9, c9, hv9s⟩ := row_shape hr9.own
            subst hv9s
            rw [show ([envRow xs] : List (List Int)).length = 1 from rfl]
            have hBw : w.heap.size ≤ (wr.alloc (.cells #[.slice R n c2] 48)).heap.size := HF9.out.size
            have hf10 : Fr (fun _ => False) w9 (w9.alloc (.cells #[.slice V n vc, .slice A9 1 c9] 63)) := (Fr.refl _ w9).alloc _
            have HT10 := Lib.hid (Blk.new w9 63 #[.slice V n vc, .slice A9 1 c9])
            have HS10 := Lib.hid ((ownsRow_base hv9 hBw).alloc (.cells #[.slice V n vc, .slice A9 1 c9] 63))
            have HR10 := Lib.hid ((hr9.base hBw).frF hf10)
            have HD10 := Lib.hid ((HD9.out.frF hf9).frF hf10)
            have HV10 := Lib.hid (ownsRow_fr (ownsRow_fr HV9.out hf9 (fun _ _ h => h)) hf10 (fun _ _ h => h))
            have HI10 := Lib.hid ((HI9.out.fr hf9 (fun _ _ h => h)).fr hf10 (fun _ _ h => h))
            have HF10 := Lib.hid ((HF9.out.trans hf9 (fun _ _ h => h.elim)).trans hf10 (fun _ _ h => h.elim))
            have HG := Lib.hid (tabGood_any vc n w.heap.size w.heap.size V (letters.take n) (.slice A9 1 c9) vals [envRow xs] _ (by omega) (by simp) (fun i hi => by
                have hi0 : i = 0 := by simp at hi; omega
                subst hi0
                exact HLENR.out) (fun i hi => by
                have hi0 : i = 0 := by simp at hi; omega
                subst hi0
                exact fun k hk => (HMIN.out k hk).1) HR10.out
              (fun j hj => by rw [let_take n _ (by omega) (by omega), let_take n _ (by omega) (by omega), let_up _ (by omega) _ (by omega)]; exact decide_eq_true (by omega)) HS10.out)
            have hltt : w9.heap.size < (w9.alloc (.cells #[.slice V n vc, .slice A9 1 c9] 63)).heap.size := by simp
            clear hv9 hr9 hf9 hf10 hBw
            go_wp2_with fail
            refine HG.out.mono ?_
            rintro e w11 ⟨rfl, hf11⟩
            have hT11 := HT10.out.fr hf11 (fun h => h)
            have t0 : w11.cell? ⟨w9.heap.size, 0, none⟩ = some (.slice V n vc) := hT11.cell 0
            have t1 : w11.cell? ⟨w9.heap.size, 1, none⟩ = some (.slice A9 1 c9) := hT11.cell 1
            have hr11 := HR10.out.frF hf11
            have hown := hr11.own
            rw [show ([envRow xs] : List (List Int)).length = 1 from rfl] at hown
            obtain ⟨ga, rfl, _, _, _⟩ := row_form hown (by decide)
            have hlv : vals.length = 1 := by have := hown.1; simpa using this
            have hck : w11.cell? ⟨ga, 0, none⟩ = some (vals.getD 0 undef) := by
              rw [World.ownsRow.cellAt hown 0 (by decide), List.getD_eq_getElem?_getD, List.getElem?_eq_getElem (by omega)]; rfl
            have hek := hr11.each 0 (by simp)
            rw [show ([envRow xs] : List (List Int)).getD 0 [] = envRow xs from rfl] at hek
            obtain ⟨R9, rc9, hvk⟩ := row_shape hek
            rw [hvk] at hck hek
            rw [HLENR.out] at hck hek
            have HEK := Lib.hid hek
            have HF11 := Lib.hid hf11
            have hlt11 := hT11.lt
            have HEN := Lib.hid (fun w => env_any (some ⟨w1.heap.size + 1, 0, none⟩) V (some ⟨ga, 0, none⟩) R9 n vc 1 c9 n rc9 w)
            clear hT11 hr11 hown hek hf11 hvk
            go_wp2_with fail
            go_region_held3 (fun wy => wy.cell? ⟨w9.heap.size, 0, none⟩ = some (.slice V n vc) ∧ wy.cell? ⟨w9.heap.size, 1, none⟩ = some (.slice (some ⟨ga, 0, none⟩) 1 c9) ∧ wy.cell? ⟨ga, 0, none⟩ = some (.slice R9 n rc9))
              (first | exact ⟨t0, t1, hck⟩ | (have F := ((((Fr.refl (fun _ => False) w11).alloc (.cells #[.pointer (some ⟨w1.heap.size + 1, 0, none⟩)] 60)).alloc (.cells #[.slice V n vc, .slice (some ⟨ga, 0, none⟩) 1 c9] 63)).alloc (.cells #[.slice R9 n rc9] 48)).drew; exact ⟨cell_fr F t0, cell_fr F t1, cell_fr F hck⟩))
              ((go_at_call 37; refine (HEN.out _).mono ?_; rintro e w12 ⟨rfl, rfl⟩))
            have F12 := ((((Fr.refl (fun _ => False) w11).alloc (.cells #[.pointer (some ⟨w1.heap.size + 1, 0, none⟩)] 60)).alloc (.cells #[.slice V n vc, .slice (some ⟨ga, 0, none⟩) 1 c9] 63)).alloc (.cells #[.slice R9 n rc9] 48)).drew
            have B60 := (((Blk.new w11 60 #[.pointer (some ⟨w1.heap.size + 1, 0, none⟩)]).alloc (.cells #[.slice V n vc, .slice (some ⟨ga, 0, none⟩) 1 c9] 63)).alloc (.cells #[.slice R9 n rc9] 48)).drew
            have hz1 : (w11.alloc (.cells #[.pointer (some ⟨w1.heap.size + 1, 0, none⟩)] 60)).heap.size = w11.heap.size + 1 := by simp
            have hz2 : ((w11.alloc (.cells #[.pointer (some ⟨w1.heap.size + 1, 0, none⟩)] 60)).alloc (.cells #[.slice V n vc, .slice (some ⟨ga, 0, none⟩) 1 c9] 63)).heap.size = w11.heap.size + 1 + 1 := by simp
            have B63 := ((Blk.new (w11.alloc (.cells #[.pointer (some ⟨w1.heap.size + 1, 0, none⟩)] 60)) 63 #[.slice V n vc, .slice (some ⟨ga, 0, none⟩) 1 c9]).alloc (.cells #[.slice R9 n rc9] 48)).drew
            have B48 := (Blk.new ((w11.alloc (.cells #[.pointer (some ⟨w1.heap.size + 1, 0, none⟩)] 60)).alloc (.cells #[.slice V n vc, .slice (some ⟨ga, 0, none⟩) 1 c9] 63)) 48 #[.slice R9 n rc9]).drew
            rw [hz1] at B63
            rw [hz2] at B48
            have FZ := HF11.out.trans' F12
            generalize (((w11.alloc (.cells #[.pointer (some ⟨w1.heap.size + 1, 0, none⟩)] 60)).alloc (.cells #[.slice V n vc, .slice (some ⟨ga, 0, none⟩) 1 c9] 63)).alloc (.cells #[.slice R9 n rc9] 48)).drew = wz at *
            have HFZ := Lib.hid (HF10.out.trans FZ (fun _ _ h => h.elim))
            have HBZ := Lib.hid (And.intro B60 (And.intro B63 B48))
            have HVZ := Lib.hid (ownsRow_fr HV10.out FZ (fun _ _ h => h))
            have HIZ := Lib.hid (HI10.out.fr FZ (fun _ _ h => h))
            have HSZ := Lib.hid (ownsRow_fr HS10.out FZ (fun _ _ h => h))
            have HDZ := Lib.hid (HD10.out.frF FZ)
            have HRZ := Lib.hid (HEK.out.fr F12 (fun _ _ h => h))
            clear F12 B60 B63 B48 hz1 hz2 FZ
            go_wp2_with fail
            go_loopw [95] (fun iv wy => ∃ k : Nat, iv = .int .i64 (k : Int) ∧ k ≤ n ∧ Fr (fun _ => False) wz wy) (fun iv _ => n - (intOf iv).toNat)
            case atStart => exact ⟨0, rfl, Nat.zero_le _, Fr.refl _ _⟩
            case round =>
              obtain ⟨k, rfl, hkn, hfk⟩ := hrel
              have HFK := Lib.hid hfk
              clear hfk
              by_cases hlt3 : k < n
              · have hlt3' : (k : Int) < (n : Int) := by omega
                have hv3 := ownsRow_fr HVZ.out HFK.out (fun _ _ h => h)
                have hi3 := HIZ.out.fr HFK.out (fun _ _ h => h)
                obtain ⟨gA, rfl, _, _, _⟩ := row_form hv3 (by omega)
                have cs := str_cell hv3 k hlt3
                rw [let_take n k hlt3 (by omega)] at cs
                have hi4 := hi3
                unfold IntRow at hi4
                rw [HLENR.out] at hi4
                obtain ⟨gR, rfl, _, _, _⟩ := row_form hi4 (by omega)
                have ci := int_cell hi3 k (by rw [HLENR.out]; exact hlt3)
                have hzm := HMIN.out k hlt3
                have HE := Lib.hid (env1_any w11.heap.size (w11.heap.size + 1) (w11.heap.size + 1 + 1) n vc 1 c9 rc9 w.heap.size w.heap.size w1.heap.size (w1.heap.size + 1) w1.heap.size k V (some ⟨ga, 0, none⟩) R9 vt (smalls 10) 100 (letters.take n) (letters.getD k ByteArray.empty) true (envRow xs) wr (by omega) (isVar_let n k hlt3 (by omega)) HLENR.out (ownsRow_fr HSZ.out HFK.out (fun _ _ h => h)) (HRZ.out.fr HFK.out (fun _ _ h => h)) (HDZ.out.frF HFK.out) (by rw [smalls_len]; omega) (HBZ.out.1.fr HFK.out (fun h => h)) (HBZ.out.2.1.fr HFK.out (fun h => h)) (HBZ.out.2.2.fr HFK.out (fun h => h)))
                rw [show valN k true (envRow xs) = (envRow xs).getD k 0 from rfl, smalls_term] at HE
                generalize (envRow xs).getD k 0 = z at *
                generalize letters.getD k ByteArray.empty = st at *
                clear hv3 hi3 hi4
                by_cases hz : 0 ≤ z
                · obtain ⟨j, rfl⟩ := Int.eq_ofNat_of_zero_le hz
                  have hj : j < 10 := by omega
                  rw [if_pos ⟨hz, by omega⟩, Int.toNat_natCast] at HE
                  simp only [termV, Option.isSome] at HE
                  have HSM := Lib.hid (fun w => same_any (smallTm j) (smallTm j) w)
                  rw [show sameB (smallTm j) (smallTm j) = true from sameB_iff.2 rfl] at HSM
                  have HIN := Lib.hid (fun w => HI.out j (by omega) w)
                  have hge : ((j : Int) ≥ 0) := hz
                  unfold smallTm Tm.val at HE HSM
                  generalize (⟨(Lib.decDigits j).toArray⟩ : ByteArray) = dj at *
                  generalize xInt = xi at *
                  go_wp2_with fail
                  refine HE.out.mono ?_
                  rintro e w13 ⟨rfl, hf13⟩
                  have ci2 := cell_fr hf13 ci
                  have HF13 := Lib.hid (HFK.out.trans' hf13)
                  clear hf13
                  go_wp2_with fail
                  refine (HIN.out _).mono ?_
                  rintro e w14 ⟨rfl, hf14⟩
                  have HF14 := Lib.hid (HF13.out.trans' hf14)
                  clear hf14
                  go_wp2_with fail
                  refine (HSM.out _).mono ?_
                  rintro e w15 ⟨rfl, rfl⟩
                  go_wp2_with fail
                  go_roundw
                  case rel => exact ⟨k + 1, by go_num, hlt3, HF14.out⟩
                  case measure => simp only [intOf]; omega
                · have hz1 : z = -1 := by omega
                  subst hz1
                  rw [if_neg (by omega)] at HE
                  simp only [termV, Option.isSome] at HE
                  go_wp2_with fail
                  refine HE.out.mono ?_
                  rintro e w13 ⟨rfl, hf13⟩
                  have ci2 := cell_fr hf13 ci
                  have HF13 := Lib.hid (HFK.out.trans' hf13)
                  clear hf13
                  go_wp2_with fail
                  go_roundw
                  case rel => exact ⟨k + 1, by go_num, hlt3, HF13.out⟩
                  case measure => simp only [intOf]; omega
              · have hkn3 : n = k := by omega
                subst hkn3
                have hlt3' : ¬ (n : Int) < (n : Int) := by omega
                have HE := Lib.hid (env1_any w11.heap.size (w11.heap.size + 1) (w11.heap.size + 1 + 1) n vc 1 c9 rc9 w.heap.size w.heap.size w1.heap.size (w1.heap.size + 1) w1.heap.size n V (some ⟨ga, 0, none⟩) R9 vt (smalls 10) 100 (letters.take n) ⟨#[122, 122]⟩ false (envRow xs) wr (by omega) (isVar_zz n (by omega)) HLENR.out (ownsRow_fr HSZ.out HFK.out (fun _ _ h => h)) (HRZ.out.fr HFK.out (fun _ _ h => h)) (HDZ.out.frF HFK.out) (by rw [smalls_len]; omega) (HBZ.out.1.fr HFK.out (fun h => h)) (HBZ.out.2.1.fr HFK.out (fun h => h)) (HBZ.out.2.2.fr HFK.out (fun h => h)))
                rw [show valN n false (envRow xs) = -1 from rfl, smalls_term, if_neg (by omega)] at HE
                simp only [termV, Option.isSome] at HE
                go_wp2_with fail
                refine HE.out.mono ?_
                rintro e w13 ⟨rfl, hf13⟩
                have HF13 := Lib.hid ((HFZ.out.trans (HFK.out.trans' hf13) (fun _ _ h => h.elim)).shut (Nat.le_refl _))
                clear hf13
                go_wp2_with fail
                go_ret
                exact ⟨rfl, HF13.out⟩
  · have h8' : decide ((n : Int) > 8) = true := decide_eq_true (by omega)
    go_enter Tryz.func8, Tryz.ntmps8
    go_wp2_with fail
    refine (HA.out _).mono ?_
    rintro e w1 ⟨rfl, hf1⟩
    go_wp2_with fail
    refine (HA.out _).mono ?_
    rintro e w2 ⟨rfl, hf2⟩
    go_wp2_with fail
    go_ret
    exact ⟨rfl, hf1.trans' hf2⟩

end Go.Proofs.YtebddgdkndmpjaaGreatDoor
