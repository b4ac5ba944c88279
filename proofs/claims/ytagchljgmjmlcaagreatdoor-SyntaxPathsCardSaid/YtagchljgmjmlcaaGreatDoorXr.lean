/- Texts of the proof, one behind the other: Ro, Rq, Rc, Rr, Rs. -/
import Derived.Test.YtagchljgmjmlcaaGreatDoorXq
import Derived.Test.YtagchljgmjmlcaaGreatDoorXo
import Derived.Deep.CutBlock
import Derived.Deep.RegionLawGrows
import Derived.Deep.Cut
import Derived.Deep.CutRange
import Derived.WalkKit
import Derived.WalkLawsBesides
import Derived.WalkSpells
import Derived.Deep.QuietTactic
import Derived.BigRegion
import Derived.BigQuiet
import Derived.Lib.Hide
import Derived.Outline
import Derived.Deep.AppendLies
import Derived.Deep.RegionLaw
import Derived.Deep.RegionWith
import Derived.Deep.RegionHeld3
import Derived.Deep.LoopGhost
import Derived.Deep.DeepFit
import Derived.Laws.ResultCell
import Derived.Laws.RangeAny
import Derived.Deep.MidRow
import Derived.StillTailTactics
import Derived.OpenShut
import Derived.Great.Walk
namespace Go.Proofs.YtagchljgmjmlcaaGreatDoor
set_option linter.unusedVariables false
open Go.RowKit Go
set_option maxRecDepth 100000
set_option maxHeartbeats 40000000

theorem rexpr_neg (lv : Int) (v : Value) (w : World) : Calls Tryz.prog 93 #[v, .int .i64 (-1), .int .i64 lv] w fun e w' => e = .returned (.tuple #[.agg Z42, .int .i64 (-1), .int .i64 0]) ∧ Fr (fun _ => False) w w' := by
 have f0 : Fr (fun _ => False) w (w.alloc (.cells #[.string ⟨#[]⟩, .string ⟨#[]⟩, .bool false, .int .i64 0, .string ⟨#[]⟩, .string ⟨#[]⟩, .string ⟨#[]⟩, .slice none 0 0] 42)) := (Fr.refl _ _).alloc _
 have HB := Lib.hid (show Blk (w.alloc (.cells #[.string ⟨#[]⟩, .string ⟨#[]⟩, .bool false, .int .i64 0, .string ⟨#[]⟩, .string ⟨#[]⟩, .string ⟨#[]⟩, .slice none 0 0] 42)) w.heap.size 42 Z42 from Blk.new w 42 #[.string ⟨#[]⟩, .string ⟨#[]⟩, .bool false, .int .i64 0, .string ⟨#[]⟩, .string ⟨#[]⟩, .string ⟨#[]⟩, .slice none 0 0])
 have HF := Lib.hid f0
 clear f0
 go_enter Tryz.func93, Tryz.ntmps93
 go_wp2_with (((with_reducible change wpList _ _ _ (Oper.mk _ (.store 42 _ _) _ _ _ _ :: _) _ _); refine wpList_store_blk rfl 42 _ _ rfl _ _ rfl rfl 42 _ HB.out (by rfl) (by exact inf42) (by exact one42 _ _ _ _ _ _ _ _ _ _) ?_))
 rintro w5 hb5 hf5
 have HFF := Lib.hid ((HF.out.up.andX hf5 (Nat.le_refl _)).shut (Nat.le_refl _))
 go_wp2_with fail
 exact bodyPost_ret (v := .tuple #[.agg Z42, .int .i64 (-1), .int .i64 0]) (results_e3 rfl _ _ w.heap.size 42 _ (0, 0) _ rfl hb5 Tryz.underlying42 rfl inf42 _ _ rfl rfl) rfl ⟨rfl, HFF.out⟩

theorem rexpr_5 (g c p : Nat) (rs : List Int) (w : World) (hp : p ≤ rs.length) (h : Ls w g c rs)
    (HS : ∀ (w1 : World), Ls w1 g c rs → Calls Tryz.prog 121 #[.slice (some ⟨g, 0, none⟩) rs.length c, .int .i64 (p : Int)] w1 (ExprPost rs p w1)) :
    Calls Tryz.prog 93 #[.slice (some ⟨g, 0, none⟩) rs.length c, .int .i64 (p : Int), .int .i64 5] w (ExprPost rs p w) := by
 have f0 : Fr (fun _ => False) w (w.alloc (.cells #[.string ⟨#[]⟩, .string ⟨#[]⟩, .bool false, .int .i64 0, .string ⟨#[]⟩, .string ⟨#[]⟩, .string ⟨#[]⟩, .slice none 0 0] 42)) := (Fr.refl _ _).alloc _
 have HB := Lib.hid (show Blk (w.alloc (.cells #[.string ⟨#[]⟩, .string ⟨#[]⟩, .bool false, .int .i64 0, .string ⟨#[]⟩, .string ⟨#[]⟩, .string ⟨#[]⟩, .slice none 0 0] 42)) w.heap.size 42 Z42 from Blk.new w 42 #[.string ⟨#[]⟩, .string ⟨#[]⟩, .bool false, .int .i64 0, .string ⟨#[]⟩, .string ⟨#[]⟩, .string ⟨#[]⟩, .slice none 0 0])
 have HF := Lib.hid f0
 have HSS := Lib.hid (HS _ (h.frF f0))
 have hp0 : ¬ ((p : Int) < 0) := by omega
 clear f0 HS h
 go_enter Tryz.func93, Tryz.ntmps93
 go_wp2_with fail
 refine HSS.out.mono ?_
 rintro e w2 ⟨cs, E, d, rfl, hN, hBe, hf2⟩
 have HB2 := Lib.hid (HB.out.fr hf2 (fun h => h))
 have HF2 := Lib.hid (HF.out.trans' hf2).up
 have HBE := Lib.hid hBe
 clear hf2 hBe
 go_wp2_with (((with_reducible change wpList _ _ _ (Oper.mk _ (.store 42 _ _) _ _ _ _ :: _) _ _); refine wpList_store_blk rfl 42 _ _ rfl _ _ rfl rfl 42 _ HB2.out (hN.sz) (inf42c hN) (hN.one) ?_))
 rintro w5 hb5 hf5
 have HFF := Lib.hid ((HF2.out.andX hf5 (Nat.le_refl _)).shut (Nat.le_refl _))
 go_wp2_with fail
 exact bodyPost_ret (v := .tuple #[.agg cs, .int .i64 E, .int .i64 d]) (results_e3 rfl _ _ w.heap.size 42 _ (0, 0) _ rfl hb5 Tryz.underlying42 rfl (inf42c hN) _ _ rfl rfl) rfl ⟨_, _, _, rfl, hN, HBE.out, HFF.out⟩

theorem rexpr_lv (lv : Nat) (hlv : lv < 5) (g c p : Nat) (rs : List Int) (w : World) (hl : rs.length ≤ 8100) (hv : ∀ r, r ∈ rs → signR r = true) (hp : p ≤ rs.length) (h : Ls w g c rs)
    (HE : ∀ (q : Nat) (w1 : World), p ≤ q → q ≤ rs.length → Ls w1 g c rs → Calls Tryz.prog 93 #[.slice (some ⟨g, 0, none⟩) rs.length c, .int .i64 (q : Int), .int .i64 ((lv : Int) + 1)] w1 (ExprPost rs q w1)) :
    Calls Tryz.prog 93 #[.slice (some ⟨g, 0, none⟩) rs.length c, .int .i64 (p : Int), .int .i64 (lv : Int)] w (ExprPost rs p w) := by
 have f0 : Fr (fun _ => False) w (w.alloc (.cells #[.string ⟨#[]⟩, .string ⟨#[]⟩, .bool false, .int .i64 0, .string ⟨#[]⟩, .string ⟨#[]⟩, .string ⟨#[]⟩, .slice none 0 0] 42)) := (Fr.refl _ _).alloc _
 have HB := Lib.hid (show Blk (w.alloc (.cells #[.string ⟨#[]⟩, .string ⟨#[]⟩, .bool false, .int .i64 0, .string ⟨#[]⟩, .string ⟨#[]⟩, .string ⟨#[]⟩, .slice none 0 0] 42)) w.heap.size 42 Z42 from Blk.new w 42 #[.string ⟨#[]⟩, .string ⟨#[]⟩, .bool false, .int .i64 0, .string ⟨#[]⟩, .string ⟨#[]⟩, .string ⟨#[]⟩, .slice none 0 0])
 have HF := Lib.hid f0
 have HLS := Lib.hid h
 have HEE := Lib.hid HE
 have HBT := Lib.hid (fun q w1 (hq : q ≤ rs.length) h1 => rbet_any lv hlv g c q rs w1 hl hv hq h1)
 unfold BetPost at HBT
 have hp0 : ¬ ((p : Int) < 0) := by omega
 have h50 : ((lv : Int) == 5) = false := by simp; omega
 have hl0 : (0 : Int) ≤ (lv : Int) := by omega
 have hl4 : (lv : Int) ≤ 4 := by omega
 clear f0 HE h hv
 go_enter Tryz.func93, Tryz.ntmps93
 go_wp2_with fail
 refine (HEE.out p _ (Nat.le_refl _) hp (HLS.out.up HF.out.up)).mono ?_
 rintro e w2 ⟨cs, E, d, rfl, hN, hBe, hf2⟩
 generalize w.alloc (.cells #[.string ⟨#[]⟩, .string ⟨#[]⟩, .bool false, .int .i64 0, .string ⟨#[]⟩, .string ⟨#[]⟩, .string ⟨#[]⟩, .slice none 0 0] 42) = w0 at *
 have HB2 := Lib.hid ((HB.out.fr hf2 (fun h => h)).alloc (.cells #[.string ⟨#[]⟩, .string ⟨#[]⟩, .bool false, .int .i64 0, .string ⟨#[]⟩, .string ⟨#[]⟩, .string ⟨#[]⟩, .slice none 0 0] 42))
 have HF2 := Lib.hid ((HF.out.trans' hf2).up.alloc (.cells #[.string ⟨#[]⟩, .string ⟨#[]⟩, .bool false, .int .i64 0, .string ⟨#[]⟩, .string ⟨#[]⟩, .string ⟨#[]⟩, .slice none 0 0] 42))
 have hz2 := (HB.out.fr hf2 (fun h => h)).lt
 have HZ2 := Lib.hid (show Blk (w2.alloc (.cells #[.string ⟨#[]⟩, .string ⟨#[]⟩, .bool false, .int .i64 0, .string ⟨#[]⟩, .string ⟨#[]⟩, .string ⟨#[]⟩, .slice none 0 0] 42)) w2.heap.size 42 Z42 from Blk.new w2 42 #[.string ⟨#[]⟩, .string ⟨#[]⟩, .bool false, .int .i64 0, .string ⟨#[]⟩, .string ⟨#[]⟩, .string ⟨#[]⟩, .slice none 0 0])
 have HBE := Lib.hid hBe
 clear hf2 hBe
 go_wp2_with (((with_reducible change wpList _ _ _ (Oper.mk _ (.store 42 _ _) _ _ _ _ :: _) _ _); refine wpList_store_blk rfl 42 _ _ rfl _ _ rfl rfl 42 _ HZ2.out (hN.sz) (inf42c hN) (hN.one) ?_))
 rintro w3 hb3 hf3
 have HB3 := Lib.hid (HB2.out.oth hf3 (by omega))
 have HF3 := Lib.hid (HF2.out.andX hf3 (by omega))
 have hxw : w.heap.size < w2.heap.size := hz2
 clear hf3 HZ2 HF2 HB2 HB HF
 go_wp2_with fail
 go_loopg [10, 11] (rs.length + 1) (fun gk a b wr => ∃ (cs : Array Value) (E d : Int), a = .int .i64 E ∧ b = .int .i64 d ∧ CellsN 8 cs ∧ Beh rs p E ∧ (∀ q : Nat, E = (q : Int) → rs.length + 1 ≤ q + gk) ∧ Blk wr w2.heap.size 42 cs ∧ Blk wr w.heap.size 42 Z42 ∧ Fr (fun j => w.heap.size ≤ j) w wr)
 case atStart => exact ⟨cs, E, d, rfl, rfl, hN, HBE.out, fun q _ => by omega, hb3, HB3.out, HF3.out⟩
 case round =>
  clear hb3 HB3 HF3 HBE hN
  obtain ⟨cs, E, d, rfl, rfl, hN, hBe, hms, hbx, hbw, hfr⟩ := hrel
  have HBX := Lib.hid hbx
  have HBW := Lib.hid hbw
  have HFR := Lib.hid hfr
  have hxl := hbx.lt
  have hwl := hbw.lt
  have HMS := Lib.hid hms
  have HBE := Lib.hid hBe
  clear hbx hbw hfr hms
  rcases hBe with rfl | ⟨q, rfl, hq1, hq2⟩
  · clear HBT HEE
    go_wp2_with (first | ((with_reducible change wpList _ _ _ (Oper.mk _ (.load 42 _) _ _ _ _ :: _) _ _); refine wpList_load_blk rfl 42 _ rfl _ rfl 42 _ HBX.out _ Tryz.underlying42 rfl (inf42c hN) ?_) | ((with_reducible change wpList _ _ _ (Oper.mk _ (.store 42 _ _) _ _ _ _ :: _) _ _); refine wpList_store_blk rfl 42 _ _ rfl _ _ rfl rfl 42 _ HBW.out (hN.sz) (inf42c hN) (hN.one) ?_))
    rintro w9 hb9 hf9
    have HFF := Lib.hid ((HFR.out.andX hf9 (Nat.le_refl _)).shut (Nat.le_refl _))
    go_wp2_with fail
    exact bodyPost_ret (v := .tuple #[.agg _, .int .i64 (-1), .int .i64 d]) (results_e3 rfl _ _ w.heap.size 42 _ (0, 0) _ rfl hb9 Tryz.underlying42 rfl (inf42c hN) _ _ rfl rfl) rfl ⟨_, _, _, rfl, hN, HBE.out, HFF.out⟩
  · have hq0 : (0 : Int) ≤ (q : Int) := by omega
    have hgk := HMS.out q rfl
    have HB := Lib.hid (HBT.out q _ hq2 (HLS.out.up HFR.out))
    go_wp2_with fail
    refine HB.out.mono ?_
    rintro e w4 ⟨s, E1, rfl, hB1, hf4⟩
    have HBX4 := Lib.hid (HBX.out.fr hf4 (fun h => h))
    have HBW4 := Lib.hid (HBW.out.fr hf4 (fun h => h))
    have HFR4 := Lib.hid (HFR.out.andF hf4)
    have hxl4 := HBX4.out.lt
    clear hf4 HB
    rcases hB1 with rfl | ⟨q2, rfl, h21, h22⟩
    · clear HBT HEE
      go_wp2_with (first | ((with_reducible change wpList _ _ _ (Oper.mk _ (.load 42 _) _ _ _ _ :: _) _ _); refine wpList_load_blk rfl 42 _ rfl _ rfl 42 _ HBX4.out _ Tryz.underlying42 rfl (inf42c hN) ?_) | ((with_reducible change wpList _ _ _ (Oper.mk _ (.store 42 _ _) _ _ _ _ :: _) _ _); refine wpList_store_blk rfl 42 _ _ rfl _ _ rfl rfl 42 _ HBW4.out (hN.sz) (inf42c hN) (hN.one) ?_))
      rintro w9 hb9 hf9
      have HFF := Lib.hid ((HFR4.out.andX hf9 (Nat.le_refl _)).shut (Nat.le_refl _))
      go_wp2_with fail
      exact bodyPost_ret (v := .tuple #[.agg _, .int .i64 q, .int .i64 d]) (results_e3 rfl _ _ w.heap.size 42 _ (0, 0) _ rfl hb9 Tryz.underlying42 rfl (inf42c hN) _ _ rfl rfl) rfl ⟨_, _, _, rfl, hN, HBE.out, HFF.out⟩
    · have hq20 : (0 : Int) ≤ (q2 : Int) := by omega
      have HC := Lib.hid (HEE.out q2 _ (by omega) h22 (HLS.out.up HFR4.out))
      clear HBT HEE
      go_wp2_with fail
      refine HC.out.mono ?_
      rintro e w5 ⟨cs2, E2, d2, rfl, hN2, hB2, hf5⟩
      have HBX5 := Lib.hid ((HBX4.out.fr hf5 (fun h => h)).alloc (.cells #[.string ⟨#[]⟩, .string ⟨#[]⟩, .bool false, .int .i64 0, .string ⟨#[]⟩, .string ⟨#[]⟩, .string ⟨#[]⟩, .slice none 0 0] 42))
      have HBW5 := Lib.hid ((HBW4.out.fr hf5 (fun h => h)).alloc (.cells #[.string ⟨#[]⟩, .string ⟨#[]⟩, .bool false, .int .i64 0, .string ⟨#[]⟩, .string ⟨#[]⟩, .string ⟨#[]⟩, .slice none 0 0] 42))
      have HFR5 := Lib.hid ((HFR4.out.andF hf5).alloc (.cells #[.string ⟨#[]⟩, .string ⟨#[]⟩, .bool false, .int .i64 0, .string ⟨#[]⟩, .string ⟨#[]⟩, .string ⟨#[]⟩, .slice none 0 0] 42))
      have HY5 := Lib.hid (show Blk (w5.alloc (.cells #[.string ⟨#[]⟩, .string ⟨#[]⟩, .bool false, .int .i64 0, .string ⟨#[]⟩, .string ⟨#[]⟩, .string ⟨#[]⟩, .slice none 0 0] 42)) w5.heap.size 42 Z42 from Blk.new w5 42 #[.string ⟨#[]⟩, .string ⟨#[]⟩, .bool false, .int .i64 0, .string ⟨#[]⟩, .string ⟨#[]⟩, .string ⟨#[]⟩, .slice none 0 0])
      have hxl5 := (HBX4.out.fr hf5 (fun h => h)).lt
      clear hf5 HC
      go_wp2_with (((with_reducible change wpList _ _ _ (Oper.mk _ (.store 42 _ _) _ _ _ _ :: _) _ _); refine wpList_store_blk rfl 42 _ _ rfl _ _ rfl rfl 42 _ HY5.out (hN2.sz) (inf42c hN2) (hN2.one) ?_))
      rintro w6 hy6 hf6
      have HY6 := Lib.hid (hy6.alloc (.cells #[.string ⟨#[]⟩, .string ⟨#[]⟩, .bool false, .int .i64 0, .string ⟨#[]⟩, .string ⟨#[]⟩, .string ⟨#[]⟩, .slice none 0 0] 42))
      have hbx6 := (HBX5.out.oth hf6 (by omega))
      have HBX6 := Lib.hid hbx6
      have HBX6a := Lib.hid (hbx6.alloc (.cells #[.string ⟨#[]⟩, .string ⟨#[]⟩, .bool false, .int .i64 0, .string ⟨#[]⟩, .string ⟨#[]⟩, .string ⟨#[]⟩, .slice none 0 0] 42))
      have HBW6 := Lib.hid ((HBW5.out.oth hf6 (by omega)).alloc (.cells #[.string ⟨#[]⟩, .string ⟨#[]⟩, .bool false, .int .i64 0, .string ⟨#[]⟩, .string ⟨#[]⟩, .string ⟨#[]⟩, .slice none 0 0] 42))
      have HFR6 := Lib.hid ((HFR5.out.andX hf6 (by omega)).alloc (.cells #[.string ⟨#[]⟩, .string ⟨#[]⟩, .bool false, .int .i64 0, .string ⟨#[]⟩, .string ⟨#[]⟩, .string ⟨#[]⟩, .slice none 0 0] 42))
      have HV6 := Lib.hid (show Blk (w6.alloc (.cells #[.string ⟨#[]⟩, .string ⟨#[]⟩, .bool false, .int .i64 0, .string ⟨#[]⟩, .string ⟨#[]⟩, .string ⟨#[]⟩, .slice none 0 0] 42)) w6.heap.size 42 Z42 from Blk.new w6 42 #[.string ⟨#[]⟩, .string ⟨#[]⟩, .bool false, .int .i64 0, .string ⟨#[]⟩, .string ⟨#[]⟩, .string ⟨#[]⟩, .slice none 0 0])
      have hyl6 := hy6.lt
      have hxl6 := hbx6.lt
      clear hf6 hy6 hbx6
      go_wp2_with (first | ((with_reducible change wpList _ _ _ (Oper.mk _ (.load 42 _) _ _ _ _ :: _) _ _); refine wpList_load_blk rfl 42 _ rfl _ rfl 42 _ HBX6.out _ Tryz.underlying42 rfl (inf42c hN) ?_) | ((with_reducible change wpList _ _ _ (Oper.mk _ (.store 42 _ _) _ _ _ _ :: _) _ _); refine wpList_store_blk rfl 42 _ _ rfl _ _ rfl rfl 42 _ HV6.out (hN.sz) (inf42c hN) (hN.one) ?_))
      rintro w7 hv7 hf7
      have hbx7 := HBX6a.out.oth hf7 (by omega)
      have HY7 := Lib.hid (HY6.out.oth hf7 (by omega))
      have HV7 := Lib.hid hv7
      have HBX7 := Lib.hid (hbx7.alloc (.cells (cs.toList ++ cs2.toList).toArray 42))
      have HBW7 := Lib.hid ((HBW6.out.oth hf7 (by omega)).alloc (.cells (cs.toList ++ cs2.toList).toArray 42))
      have HFR7 := Lib.hid ((HFR6.out.andX hf7 (by omega)).alloc (.cells (cs.toList ++ cs2.toList).toArray 42))
      have hxl7 := hbx7.lt
      clear hf7 hv7 hbx7
      go_wp2_with (first | ((with_reducible change wpList _ _ _ (Oper.mk _ (.load 42 _) _ _ _ _ :: _) _ _); refine wpList_load_blk rfl 42 _ rfl _ rfl 42 _ HV7.out _ Tryz.underlying42 rfl (inf42c hN) ?_) | ((with_reducible change wpList _ _ _ (Oper.mk _ (.load 42 _) _ _ _ _ :: _) _ _); refine wpList_load_blk rfl 42 _ rfl _ rfl 42 _ HY7.out _ Tryz.underlying42 rfl (inf42c hN2) ?_) | ((with_reducible change wpList _ _ _ (Oper.mk _ (.buildSlice 40 2 _) _ _ _ _ :: _) _ _); refine wpList_lit2 rfl 40 42 _ _ rfl cs cs2 rfl rfl Tryz.underlying40 (inf42c hN) (by rw [hN.sz, hN2.sz]) zer42 (by rw [hN.sz]; decide) (by rw [hN.sz]; decide) ?_; rintro _ rfl) | ((with_reducible change wpList _ _ _ (Oper.mk _ (.store 42 _ _) _ _ _ _ :: _) _ _); refine wpList_store_blk rfl 42 _ _ rfl _ _ rfl rfl 42 _ HBX7.out (by rw [hN.sz]; rfl) (by exact inf42) (by exact one42 _ _ _ _ _ _ _ _ _ _) ?_))
      rintro w8 hx8 hf8
      have HBW8 := Lib.hid (HBW7.out.oth hf8 (by omega))
      have HFR8 := Lib.hid (HFR7.out.andX hf8 (by omega))
      have HX8 := Lib.hid hx8
      have hxl8 := hx8.lt
      have HBE2 := Lib.hid (hB2.up (p := p) (by omega))
      clear hf8 hx8
      by_cases hl2 : lv = 2
      · subst hl2
        have hN8 := CellsN.mk (n := 8) (cs := #[.string s, .string ⟨#[]⟩, .bool false, .int .i64 0, .string ⟨#[]⟩, .string ⟨#[]⟩, .string ⟨#[]⟩, .slice (some ⟨w7.heap.size, 0, none⟩) 2 2]) rfl (one42 _ _ _ _ _ _ _ _ _ _)
        go_wp2_with (first | ((with_reducible change wpList _ _ _ (Oper.mk _ (.load 42 _) _ _ _ _ :: _) _ _); refine wpList_load_blk rfl 42 _ rfl _ rfl 42 _ HX8.out _ Tryz.underlying42 rfl (inf42c hN8) ?_) | ((with_reducible change wpList _ _ _ (Oper.mk _ (.store 42 _ _) _ _ _ _ :: _) _ _); refine wpList_store_blk rfl 42 _ _ rfl _ _ rfl rfl 42 _ HBW8.out (hN8.sz) (inf42c hN8) (hN8.one) ?_))
        rintro w9 hb9 hf9
        have HFF := Lib.hid ((HFR8.out.andX hf9 (Nat.le_refl _)).shut (Nat.le_refl _))
        go_wp2_with fail
        exact bodyPost_ret (v := .tuple #[.agg _, .int .i64 E2, .int .i64 _]) (results_e3 rfl _ _ w.heap.size 42 _ (0, 0) _ rfl hb9 Tryz.underlying42 rfl (inf42c hN8) _ _ rfl rfl) rfl ⟨_, _, _, rfl, hN8, HBE2.out, HFF.out⟩
      · have b2 : ((lv : Int) == 2) = false := by simp; omega
        go_wp2_with fail
        go_roundg (rs.length - q2)
        case measure => omega
        case rel => exact ⟨_, _, _, rfl, rfl, CellsN.mk rfl (one42 _ _ _ _ _ _ _ _ _ _), HBE2.out, fun q3 h3 => by
         subst h3
         rcases hB2 with h | ⟨q4, h, h5, h6⟩
         · omega
         · omega, HX8.out, HBW8.out, HFR8.out⟩

theorem rexpr_all (g c : Nat) (rs : List Int) (hl : rs.length ≤ 8100) (hw : wt rs ≤ 8100) (hv : ∀ r, r ∈ rs → signR r = true) : ∀ n : Nat,
    (∀ (p : Nat) (w : World), rs.length - p < n → p ≤ rs.length → Ls w g c rs → Calls Tryz.prog 121 #[.slice (some ⟨g, 0, none⟩) rs.length c, .int .i64 (p : Int)] w (ExprPost rs p w)) ∧
    (∀ (k : Nat), k ≤ 5 → ∀ (p : Nat) (w : World), rs.length - p < n → p ≤ rs.length → Ls w g c rs → Calls Tryz.prog 93 #[.slice (some ⟨g, 0, none⟩) rs.length c, .int .i64 (p : Int), .int .i64 ((5 - k : Nat) : Int)] w (ExprPost rs p w))
 | 0 => ⟨fun p w h => absurd h (by omega), fun k hk p w h => absurd h (by omega)⟩
 | n + 1 => by
  have IH := rexpr_all g c rs hl hw hv n
  have hsign : ∀ (p : Nat) (w : World), rs.length - p < n + 1 → p ≤ rs.length → Ls w g c rs → Calls Tryz.prog 121 #[.slice (some ⟨g, 0, none⟩) rs.length c, .int .i64 (p : Int)] w (ExprPost rs p w) := fun p w h1 h2 h3 =>
   rsign_walk g c p rs w hl hw hv h2 h3 (fun q w1 h4 h5 h6 => IH.1 q w1 (by omega) h5 h6) (fun q w1 h4 h5 h6 => IH.2 5 (Nat.le_refl _) q w1 (by omega) h5 h6)
  refine ⟨hsign, ?_⟩
  intro k
  induction k with
  | zero => exact fun hk p w h1 h2 h3 => rexpr_5 g c p rs w h2 h3 (fun w1 h4 => hsign p w1 h1 h2 h4)
  | succ k ih =>
   intro hk p w h1 h2 h3
   refine rexpr_lv (5 - (k + 1)) (by omega) g c p rs w hl hv h2 h3 (fun q w1 h4 h5 h6 => ?_)
   rw [show ((5 - (k + 1) : Nat) : Int) + 1 = ((5 - k : Nat) : Int) by omega]
   exact ih (by omega) q w1 (by omega) h5 h6
theorem rexpr_beh (g c p : Nat) (rs : List Int) (w : World) (E : Int) (hl : rs.length ≤ 8100) (hw : wt rs ≤ 8100) (hv : ∀ r, r ∈ rs → signR r = true) (hE : Beh rs p E) (h : Ls w g c rs) :
    Calls Tryz.prog 93 #[.slice (some ⟨g, 0, none⟩) rs.length c, .int .i64 E, .int .i64 0] w (ExprPost rs p w) := by
 rcases hE with rfl | ⟨q, rfl, h1, h2⟩
 · exact (rexpr_neg 0 _ w).mono (fun e w' h => ⟨Z42, -1, 0, h.1, ⟨rfl, one42 _ _ _ _ _ _ _ _ _ _⟩, .inl rfl, h.2⟩)
 · refine ((rexpr_all g c rs hl hw hv (rs.length + 1)).2 5 (Nat.le_refl _) q w (by omega) h2 h).mono (fun e w' h => ?_)
   obtain ⟨cs, E, d, rfl, hN, hB, hf⟩ := h
   exact ⟨cs, E, d, rfl, hN, hB.up (by omega), hf⟩

/-- Cells laid over others, from a place on. -/
def over (cs : Array Value) (off : Nat) (l : Array Value) : Array Value := l.zipIdx.foldl (fun cs (x : Value × Nat) => cs.setIfInBounds (off + x.2) x.1) cs
theorem over_eq (cs : Array Value) (off : Nat) (l : Array Value) : over cs off l = (l.toList.zipIdx 0).foldl (fun cs (x : Value × Nat) => cs.setIfInBounds (off + x.2) x.1) cs := by
 unfold over
 rw [← Array.foldl_toList, Array.toList_zipIdx]
theorem over_size (cs : Array Value) (off : Nat) (l : Array Value) : (over cs off l).size = cs.size := by
 rw [over_eq]
 exact (Great.foldl_set off l.toList 0 cs).1
theorem over_get (cs : Array Value) (off : Nat) (l : Array Value) (k : Nat) (h : off + l.size ≤ cs.size) : (over cs off l)[k]? = if off ≤ k ∧ k < off + l.size then l[k - off]? else cs[k]? := by
 rw [over_eq, (Great.foldl_set off l.toList 0 cs).2 k]
 simp only [Nat.add_zero, Array.length_toList, Array.getElem?_toList]
 by_cases hk : off ≤ k ∧ k < off + l.size
 · rw [if_pos hk, if_pos (by omega)]
 · rw [if_neg hk, if_neg (by omega)]
theorem CellsN.over {n m off : Nat} {cs l : Array Value} (h : CellsN n cs) (hl : CellsN m l) (hb : off + m ≤ n) : CellsN n (over cs off l) := by
 refine ⟨(over_size _ _ _).trans h.sz, ?_⟩
 rw [Array.all_eq_true_iff_forall_mem]
 intro v hv
 obtain ⟨i, hi, rfl⟩ := Array.mem_iff_getElem.1 hv
 have h1 := over_get cs off l i (by rw [hl.sz, h.sz]; exact hb)
 rw [Array.getElem?_eq_getElem hi] at h1
 have hc := Array.all_eq_true_iff_forall_mem.1 h.one
 have hd := Array.all_eq_true_iff_forall_mem.1 hl.one
 by_cases hk : off ≤ i ∧ i < off + l.size
 · rw [if_pos hk, Array.getElem?_eq_getElem (by omega)] at h1
   injection h1 with h1
   rw [h1]
   exact hd _ (Array.getElem_mem _)
 · rw [if_neg hk] at h1
   rw [over_size] at hi
   rw [Array.getElem?_eq_getElem hi] at h1
   injection h1 with h1
   rw [h1]
   exact hc _ (Array.getElem_mem _)
/-- A part of some cells. -/
def sub (cs : Array Value) (off n : Nat) : List Value := (cs.toList.drop off).take n
theorem sub_get (cs : Array Value) (off n k : Nat) : (sub cs off n)[k]? = if k < n then cs[off + k]? else none := by
 unfold sub
 rw [List.getElem?_take]
 split
 · rw [List.getElem?_drop, Array.getElem?_toList]
 · rfl
theorem sub_over (cs l : Array Value) (off : Nat) (h : off + l.size ≤ cs.size) : sub (over cs off l) off l.size = l.toList := by
 apply List.ext_getElem?
 intro k
 rw [sub_get, Array.getElem?_toList]
 split
 · rw [over_get _ _ _ _ h, if_pos (by omega), show off + k - off = k by omega]
 · rw [Array.getElem?_eq_none (by omega)]
theorem sub_far (cs l : Array Value) (off o n : Nat) (h : off + l.size ≤ cs.size) (ha : o + n ≤ off ∨ off + l.size ≤ o) : sub (over cs off l) o n = sub cs o n := by
 apply List.ext_getElem?
 intro k
 rw [sub_get, sub_get]
 split
 · rw [over_get _ _ _ _ h, if_neg (by omega)]
 · rfl
theorem CellsN.out_ {n m off : Nat} {cs l : Array Value} (h : CellsN n cs) (hl : CellsN m l) (k : Nat) (hb : off + m ≤ n) (hk : k < off ∨ off + m ≤ k) : (Go.Proofs.YtagchljgmjmlcaaGreatDoor.over cs off l)[k]? = cs[k]? := by
 have h1 := h.sz
 have h2 := hl.sz
 rw [over_get _ _ _ _ (by omega), if_neg (by omega)]
theorem CellsN.in_ {n m off : Nat} {cs l : Array Value} (h : CellsN n cs) (hl : CellsN m l) (k : Nat) (hb : off + m ≤ n) (hk : off ≤ k) (hk2 : k < off + m) : (Go.Proofs.YtagchljgmjmlcaaGreatDoor.over cs off l)[k]? = l[k - off]? := by
 have h1 := h.sz
 have h2 := hl.sz
 rw [over_get _ _ _ _ (by omega), if_pos (by omega)]
theorem CellsN.subIn {n m off : Nat} {cs l : Array Value} (h : CellsN n cs) (hl : CellsN m l) (hb : off + m ≤ n) : sub (Go.Proofs.YtagchljgmjmlcaaGreatDoor.over cs off l) off m = l.toList := by
 have h1 := h.sz
 have h2 := hl.sz
 rw [← h2]
 exact sub_over cs l off (by omega)
theorem CellsN.subOut {n m off : Nat} {cs l : Array Value} (h : CellsN n cs) (hl : CellsN m l) (o k : Nat) (hb : off + m ≤ n) (ha : o + k ≤ off ∨ off + m ≤ o) : sub (Go.Proofs.YtagchljgmjmlcaaGreatDoor.over cs off l) o k = sub cs o k := by
 have h1 := h.sz
 have h2 := hl.sz
 exact sub_far cs l off o k (by omega) (by omega)
theorem setCells_over (g : Nat) (t : TypeId) (off : Nat) : ∀ (l : List Value) (s : Nat) (cs : Array Value) (w : World), Blk w g t cs →
    Blk (w.setCells g (off + s) l) g t ((l.zipIdx s).foldl (fun cs (x : Value × Nat) => cs.setIfInBounds (off + x.2) x.1) cs) ∧ Fr (fun j => j = g) w (w.setCells g (off + s) l)
 | [], s, cs, w, h => ⟨h, Fr.refl _ _⟩
 | v :: l, s, cs, w, h => by
  have ih := setCells_over g t off l (s + 1) _ _ (h.set_ (off + s) v)
  rw [World.setCells, List.zipIdx_cons, List.foldl_cons]
  exact ⟨ih.1, ((Fr.refl (fun j => j = g) w).setCell ⟨g, off + s, none⟩ (fun _ => rfl) v).trans' ih.2⟩
theorem Blk.setOver {w : World} {g : Nat} {t : TypeId} {cs l : Array Value} (h : Blk w g t cs) (off : Nat) : Blk (w.setCells g off l.toList) g t (over cs off l) ∧ Fr (fun j => j = g) w (w.setCells g off l.toList) := by
 have h1 := setCells_over g t off l.toList 0 cs w h
 rw [over_eq]
 exact h1
theorem Blk.therePart {w : World} {g : Nat} {t : TypeId} {cs : Array Value} (h : Blk w g t cs) {k n : Nat} (hn : k + n ≤ cs.size) : w.there g k n := fun j hj => by
 refine ⟨?_, h.frozen (k + j)⟩
 rw [h.cell (k + j), Array.getElem?_eq_getElem (by omega)]
 rfl
theorem fill_over (places : Array (Nat × Nat)) (i off size : Nat) (cs : Array Value) (v : Value) (rest : List (Nat × Value)) (hp : places[i]? = some (off, size)) (hv : v.cells.size = size) (hb : off + size ≤ cs.size) :
    Instr.fill (places[·]?) cs ((i, v) :: rest) = Instr.fill (places[·]?) (over cs off v.cells) rest := by
 rw [Instr.fill]
 simp only [hp]
 rw [if_neg (by simp [hv]; omega)]
 rfl
section
variable {ops : Array Oper} {rest : List Oper} {op : Oper} {a : Act} {w : World} {Q : Exit → Act → World → Prop}
theorem wpList_store_over (hgd : op.guard = none) (ty : TypeId) (x y : Operand) (ho : op.op = .store ty x y) (b o : Nat) (cells : Array Value) (hx : a.eval x = .pointer (some ⟨b, o, none⟩)) (hy : a.eval y = .agg cells) (t : TypeId) (cs : Array Value) (hb : Blk w b t cs) (hsz : o + cells.size ≤ cs.size) (hi : (Tryz.prog.info? ty).map (·.size) = some cells.size) (h1 : cells.all (·.oneCell') = true)
    (h : Hid (∀ w' z, Hid (z = over cs o cells) → Blk w' b t z → Fr (fun j => j = b) w w' → wpList Tryz.prog ops Q rest (a.put op.dst undef) w')) : wpList Tryz.prog ops Q (op :: rest) a w :=
 wpList_store_mid hgd ty x y ho b o cells hx hy (hb.therePart hsz) hi h1 (h.out _ _ (Lib.hid rfl) (hb.setOver o).1 (hb.setOver o).2)
theorem run_alloc_to (ty : TypeId) (z : Value) (hz : (Tryz.prog.info? ty).bind (·.zero) = some z) (op : Oper) (ho : op.op = .alloc ty) (ρ : Operand → Value) (w : World) :
    (execOp ρ op).run Tryz.prog w = .ok (.value (.pointer (some ⟨w.heap.size, 0, none⟩))) (w.alloc (.cells z.cells ty)) := by
 cases hi : Tryz.prog.info? ty with
 | none => simp [hi] at hz
 | some i =>
  simp only [hi, Option.bind_some] at hz
  unfold execOp
  simp [ho, Instr.alloc, zeroValue, typeInfo, hi, hz, newVar, newRow]
theorem wpList_alloc_blk (hgd : op.guard = none) (ty : TypeId) (ho : op.op = .alloc ty) (Z : Array Value) (hz : (Tryz.prog.info? ty).bind (·.zero) = some (.agg Z))
    (h : Hid (∀ w' z, Hid (z = Z) → Hid (Blk w' w.heap.size ty z) → Hid (Fr (fun _ => False) w w') → w.heap.size < w'.heap.size → wpList Tryz.prog ops Q rest (a.put op.dst (.pointer (some ⟨w.heap.size, 0, none⟩))) w')) : wpList Tryz.prog ops Q (op :: rest) a w :=
 Great.wpList_runTo hgd op.dst rfl _ _ (run_alloc_to ty (.agg Z) hz op ho a.eval w) (h.out _ Z (Lib.hid rfl) (Lib.hid (Blk.new w ty Z)) (Lib.hid ((Fr.refl _ _).alloc _)) (by simp))
theorem wpList_build_to (hgd : op.guard = none) (t : TypeId) (parts : Array (Nat × Operand)) (ho : op.op = .build t parts) (l : List (Nat × Value)) (hl : (parts.map fun (i, x) => (i, a.eval x)).toList = l) (C : Array Value) (hf : Tryz.prog.built t l = some C)
    (h : Hid (∀ z, Hid (z = C) → wpList Tryz.prog ops Q rest (a.put op.dst (.agg z)) w)) : wpList Tryz.prog ops Q (op :: rest) a w :=
 Go.wpList_buildTo hgd t parts ho op.dst rfl C (by rw [hl]; exact hf) (h.out C (Lib.hid rfl))
theorem wpList_store_blkH (hgd : op.guard = none) (ty : TypeId) (x y : Operand) (ho : op.op = .store ty x y) (b : Nat) (cells : Array Value) (hx : a.eval x = .pointer (some ⟨b, 0, none⟩)) (hy : a.eval y = .agg cells) (t : TypeId) (old : Array Value) (hb : Blk w b t old) (hsz : cells.size = old.size) (hi : (Tryz.prog.info? ty).map (·.size) = some cells.size) (h1 : cells.all (·.oneCell') = true)
    (h : Hid (∀ w', Blk w' b t cells → Fr (fun j => j = b) w w' → wpList Tryz.prog ops Q rest (a.put op.dst undef) w')) : wpList Tryz.prog ops Q (op :: rest) a w :=
 wpList_store_blk hgd ty x y ho b cells hx hy t old hb hsz hi h1 h.out
end

theorem IriP.parts {rs : List Int} {p e : Nat} {i : ByteArray} (h : IriP rs p e i) : peekOf rs (skip rs [0] p) = 60 ∧ ∃ l, iriR rs (skip rs [0] p) = (some l, e) ∧ i = strL l := by
 have h1 := h.1
 unfold docR at h1
 split at h1
 · rename_i h60
   cases hi : iriR rs (skip rs [0] p) with
   | mk io ip =>
    rw [hi] at h1
    cases io with
    | none => cases h1
    | some l =>
     injection h1 with h2 h3
     injection h2 with h2
     injection h2 with _ h2 _ _
     exact ⟨h60, l, by simp only at h3; rw [h3], h2.symm⟩
 · split at h1
   · split at h1
     · injection h1 with h1 _
       injection h1 with h1
       injection h1 with h1
       cases h1
     · cases h1
   · split at h1
     · cases hq : quotR rs (skip rs [0] p) with
       | mk qo qp =>
        rw [hq] at h1
        cases qo with
        | none => cases h1
        | some l =>
         dsimp only at h1
         split at h1
         · injection h1 with h1 _
           injection h1 with h1
           injection h1 with h1
           cases h1
         · cases h1
     · cases h1
theorem VarP.fn {rs : List Int} {p f e f' e' : Nat} (h : VarP rs p f e) (h' : VarP rs p f' e') : f = f' ∧ e = e' := by
 have e1 : f = f' := h.from_.trans h'.from_.symm
 refine ⟨e1, ?_⟩
 rw [h.end_, h'.end_, e1]
theorem IriP.fn {rs : List Int} {p e e' : Nat} {i i' : ByteArray} (h : IriP rs p e i) (h' : IriP rs p e' i') : e = e' ∧ i = i' := by
 have h1 := h.1.symm.trans h'.1
 injection h1 with a b
 injection a with a
 injection a with _ a
 exact ⟨b, a⟩
/-- A place tells what stands there. -/
def Det (P : Nat → PT → Nat → Nat → Prop) : Prop := ∀ p t e d t' e' d', P p t e d → P p t' e' d' → t = t' ∧ e = e' ∧ d = d'
section
variable {rs : List Int} {x : UInt8} {k : Int} {P One : Nat → PT → Nat → Nat → Prop} {F : Nat → Prop}
theorem AtomP.fn (hP : Det P) : Det (AtomP rs P) := by
 intro p t e d t' e' d' h h'
 cases h with
 | paren t e d h1 h2 h3 =>
  cases h' with
  | paren t2 e2 d2 k1 k2 k3 =>
   obtain ⟨rfl, rfl, rfl⟩ := hP _ _ _ _ _ _ _ h2 k2
   exact ⟨rfl, rfl, rfl⟩
  | back _ _ k1 _ _ => rw [h1] at k1; cases k1
  | step _ _ k1 _ _ => rw [h1] at k1; cases k1
 | back _ _ h1 h2 h3 =>
  cases h' with
  | paren _ _ _ k1 _ _ => rw [h1] at k1; cases k1
  | back _ _ k1 k2 k3 =>
   obtain ⟨rfl, rfl⟩ := h3.fn k3
   exact ⟨rfl, rfl, rfl⟩
  | step _ _ k1 k2 _ => rw [h2] at k2; cases k2
 | step _ _ h1 h2 h3 =>
  cases h' with
  | paren _ _ _ k1 _ _ => rw [h1] at k1; cases k1
  | back _ _ k1 k2 _ => rw [h2] at k2; cases k2
  | step _ _ k1 k2 k3 =>
   obtain ⟨rfl, rfl⟩ := h3.fn k3
   exact ⟨rfl, rfl, rfl⟩
theorem StepP.atom {p e d : Nat} {t : PT} (h : StepP rs P p t e d) : ∃ t e d, AtomP rs P p t e d := by
 cases h with
 | plain _ _ _ h1 h2 => exact ⟨_, _, _, h1⟩
 | often _ _ _ h1 h2 => exact ⟨_, _, _, h1⟩
theorem StepP.fn (hP : Det P) : Det (StepP rs P) := by
 intro p t e d t' e' d' h h'
 cases h with
 | plain _ _ _ h1 h2 =>
  cases h' with
  | plain _ _ _ k1 k2 => exact AtomP.fn hP _ _ _ _ _ _ _ h1 k1
  | often _ _ _ k1 k2 =>
   obtain ⟨rfl, rfl, rfl⟩ := AtomP.fn hP _ _ _ _ _ _ _ h1 k1
   exact absurd h2 k2
 | often _ _ _ h1 h2 =>
  cases h' with
  | plain _ _ _ k1 k2 =>
   obtain ⟨rfl, rfl, rfl⟩ := AtomP.fn hP _ _ _ _ _ _ _ h1 k1
   exact absurd k2 h2
  | often _ _ _ k1 k2 =>
   obtain ⟨rfl, rfl, rfl⟩ := AtomP.fn hP _ _ _ _ _ _ _ h1 k1
   exact ⟨rfl, rfl, rfl⟩
theorem RunP.fn (hP : Det One) {p e d : Nat} {ts : List PT} (h : RunP rs x One p ts e d) : ∀ {ts' : List PT} {e' d' : Nat}, RunP rs x One p ts' e' d' → ts.length = ts'.length → ts = ts' ∧ e = e' ∧ d = d' := by
 induction h with
 | one t e d h =>
  intro ts' e' d' h' hl
  cases h' with
  | one t2 _ _ k =>
   obtain ⟨rfl, rfl, rfl⟩ := hP _ _ _ _ _ _ _ h k
   exact ⟨rfl, rfl, rfl⟩
  | more ts2 t2 e2 d2 _ d3 k k1 k2 =>
   have := k.pos
   simp at hl
   subst hl
   exact absurd this (by decide)
 | more ts t e d e1 d1 h h1 h2 ih =>
  intro ts' e' d' h' hl
  cases h' with
  | one t2 _ _ k =>
   have := h.pos
   simp at hl
   subst hl
   exact absurd this (by decide)
  | more ts2 t2 e2 d2 _ d3 k k1 k2 =>
   obtain ⟨rfl, rfl, rfl⟩ := ih k (by simpa using hl)
   obtain ⟨rfl, rfl, rfl⟩ := hP _ _ _ _ _ _ _ h2 k2
   exact ⟨rfl, rfl, rfl⟩
theorem RunP.cut {p e d : Nat} {ts : List PT} (h : RunP rs x One p ts e d) : ∀ m, 1 ≤ m → m ≤ ts.length → ∃ us f k, us.length = m ∧ RunP rs x One p us f k ∧ (m < ts.length → markAt rs f (mk1 x) = true ∧ ∃ t e1 d1, One (markTo rs f (mk1 x)) t e1 d1) := by
 induction h with
 | one t e d h =>
  intro m h1 h2
  obtain rfl : m = 1 := by simp at h2; omega
  exact ⟨[t], e, d, rfl, .one _ _ _ _ h, fun h => absurd h (by simp)⟩
 | more ts t e d e1 d1 h h1 h2 ih =>
  intro m hm hl
  rw [List.length_append, List.length_singleton] at hl
  by_cases c1 : m = ts.length + 1
  · exact ⟨ts ++ [t], e1, max d d1, by simp [c1], .more _ _ _ _ _ _ _ h h1 h2, fun h => absurd h (by simp; omega)⟩
  · by_cases c2 : m = ts.length
    · exact ⟨ts, e, d, c2.symm, h, fun _ => ⟨h1, t, e1, d1, h2⟩⟩
    · obtain ⟨us, f, k, i1, i2, i3⟩ := ih m hm (by omega)
      exact ⟨us, f, k, i1, i2, fun _ => i3 (by omega)⟩
theorem RunP.first {p e d : Nat} {ts : List PT} (h : RunP rs x One p ts e d) : ∃ t e d, One p t e d := by
 induction h with
 | one t e d h => exact ⟨_, _, _, h⟩
 | more _ _ _ _ _ _ _ _ _ ih => exact ih
theorem RunP.ends (hP : Det One) {p e d e' d' : Nat} {ts ts' : List PT} (h : RunP rs x One p ts e d) (h' : RunP rs x One p ts' e' d') (hm : markAt rs e (mk1 x) = false) (hm' : markAt rs e' (mk1 x) = false) : ts = ts' ∧ e = e' ∧ d = d' := by
 refine h.fn hP h' ?_
 rcases Nat.lt_trichotomy ts.length ts'.length with c | c | c
 · obtain ⟨us, f, k, i1, i2, i3⟩ := h'.cut ts.length h.pos (by omega)
   obtain ⟨-, rfl, -⟩ := h.fn hP i2 i1.symm
   rw [(i3 c).1] at hm
   cases hm
 · exact c
 · obtain ⟨us, f, k, i1, i2, i3⟩ := h.cut ts'.length h'.pos (by omega)
   obtain ⟨-, rfl, -⟩ := h'.fn hP i2 i1.symm
   rw [(i3 c).1] at hm'
   cases hm'
theorem SepP.run {p e d : Nat} {t : PT} (h : SepP rs x k One p t e d) : ∃ ts d', RunP rs x One p ts e d' ∧ markAt rs e (mk1 x) = false ∧ ((ts = [t] ∧ d = d') ∨ (2 ≤ ts.length ∧ t = .node k ts ∧ d = d' + 1)) := by
 cases h with
 | one _ _ _ h h2 => exact ⟨_, _, h, h2, .inl ⟨rfl, rfl⟩⟩
 | many ts _ _ h h1 h2 => exact ⟨ts, _, h, h2, .inr ⟨h1, rfl, rfl⟩⟩
theorem SepP.fn (hP : Det One) : Det (SepP rs x k One) := by
 intro p t e d t' e' d' h h'
 obtain ⟨ts, d1, h1, h2, h3⟩ := h.run
 obtain ⟨us, d2, k1, k2, k3⟩ := h'.run
 obtain ⟨rfl, rfl, rfl⟩ := h1.ends hP k1 h2 k2
 rcases h3 with ⟨h3, rfl⟩ | ⟨h3, rfl, rfl⟩
 · rcases k3 with ⟨k3, rfl⟩ | ⟨k3, rfl, rfl⟩
   · rw [h3] at k3
     injection k3 with k3 _
     exact ⟨k3, rfl, rfl⟩
   · rw [h3] at k3
     exact absurd k3 (by simp)
 · rcases k3 with ⟨k3, rfl⟩ | ⟨k3, rfl, rfl⟩
   · rw [k3] at h3
     exact absurd h3 (by simp)
   · exact ⟨rfl, rfl, rfl⟩
theorem NoSep.not (hP : Det One) (hF : ∀ p t e d, F p → ¬ One p t e d) {p e d : Nat} {t : PT} (h : NoSep rs x One F p) (hs : SepP rs x k One p t e d) : False := by
 obtain ⟨ts, d', h1, h2, -⟩ := hs.run
 cases h with
 | one h =>
  obtain ⟨t, e, d, h3⟩ := h1.first
  exact hF _ _ _ _ h h3
 | more ts0 e0 d0 k k1 k2 =>
  rcases Nat.lt_trichotomy ts.length ts0.length with c | c | c
  · obtain ⟨us, f, j, i1, i2, i3⟩ := k.cut ts.length h1.pos (by omega)
    obtain ⟨-, rfl, -⟩ := h1.fn hP i2 i1.symm
    rw [(i3 c).1] at h2
    cases h2
  · obtain ⟨-, rfl, -⟩ := h1.fn hP k c
    rw [k1] at h2
    cases h2
  · obtain ⟨us, f, j, i1, i2, i3⟩ := h1.cut ts0.length k.pos (by omega)
    obtain ⟨-, rfl, -⟩ := k.fn hP i2 i1.symm
    obtain ⟨t, e1, d1, h3⟩ := (i3 c).2
    exact hF _ _ _ _ k2 h3
theorem NoAtom.not (hP : Det P) (hF : ∀ p t e d, F p → ¬ P p t e d) {p e d : Nat} {t : PT} (h : NoAtom rs P F p) (ha : AtomP rs P p t e d) : False := by
 cases ha with
 | paren t e d h1 h2 h3 =>
  cases h with
  | paren k1 k2 => exact hF _ _ _ _ k2 h2
  | open_ t2 e2 d2 k1 k2 k3 =>
   obtain ⟨-, rfl, -⟩ := hP _ _ _ _ _ _ _ h2 k2
   rw [h3] at k3
   cases k3
  | back k1 _ _ => rw [h1] at k1; cases k1
  | step k1 _ _ => rw [h1] at k1; cases k1
 | back _ _ h1 h2 h3 =>
  cases h with
  | paren k1 k2 => rw [h1] at k1; cases k1
  | open_ _ _ _ k1 _ _ => rw [h1] at k1; cases k1
  | back _ _ k3 => exact k3 _ _ h3
  | step _ k2 _ => rw [h2] at k2; cases k2
 | step _ _ h1 h2 h3 =>
  cases h with
  | paren k1 k2 => rw [h1] at k1; cases k1
  | open_ _ _ _ k1 _ _ => rw [h1] at k1; cases k1
  | back _ k2 _ => rw [h2] at k2; cases k2
  | step _ _ k3 => exact k3 _ _ h3
end
theorem PathP.det (rs : List Int) : ∀ n, Det (PathP rs n)
 | 0 => fun _ _ _ _ _ _ _ h => h.elim
 | n + 1 => SepP.fn (SepP.fn (StepP.fn (PathP.det rs n)))
theorem PathP.fn {rs : List Int} {n p e d e' d' : Nat} {t t' : PT} (h : PathP rs n p t e d) (h' : PathP rs n p t' e' d') : t = t' ∧ e = e' ∧ d = d' := PathP.det rs n _ _ _ _ _ _ _ h h'
theorem NoPath.no (rs : List Int) : ∀ n p t e d, NoPath rs n p → ¬ PathP rs n p t e d
 | 0 => fun _ _ _ _ h => h.elim
 | n + 1 => fun p t e d h hp => NoSep.not (SepP.fn (StepP.fn (PathP.det rs n))) (fun p t e d h hs => NoSep.not (StepP.fn (PathP.det rs n)) (fun p t e d h hs => by
     obtain ⟨_, _, _, ha⟩ := hs.atom
     exact NoAtom.not (PathP.det rs n) (fun p t e d => NoPath.no rs n p t e d) h ha) h hs) h hp
theorem NoPath.not {rs : List Int} {n p e d : Nat} {t : PT} (h : NoPath rs n p) (hp : PathP rs n p t e d) : False := NoPath.no rs n _ _ _ _ h hp
theorem mark_ne {rs : List Int} {p : Nat} {x y : UInt8} (h : peekOf rs (skip rs [0] p) = (x.toNat : Int)) (hn : ¬ (x.toNat : Int) = (y.toNat : Int)) : markAt rs p ⟨#[y]⟩ = false := by
 unfold markAt
 rw [isAt_one, h]
 exact decide_eq_false hn
theorem AtomP.no63 {rs : List Int} {P : Nat → PT → Nat → Nat → Prop} {p e d : Nat} {t : PT} (h : AtomP rs P p t e d) : markAt rs p ⟨#[63]⟩ = false := by
 cases h with
 | paren _ _ _ h1 _ _ => exact mark_ne (x := 40) (mark_one h1) (by decide)
 | back _ _ _ h2 _ => exact mark_ne (x := 94) (mark_one h2) (by decide)
 | step _ _ _ _ h3 => exact mark_ne (x := 60) h3.parts.1 (by decide)
theorem PathP.no63 {rs : List Int} {n p e d : Nat} {t : PT} (h : PathP rs n p t e d) : markAt rs p ⟨#[63]⟩ = false := by
 cases n with
 | zero => exact h.elim
 | succ n =>
  obtain ⟨_, _, h1, _, _⟩ := SepP.run h
  obtain ⟨_, _, _, h2⟩ := h1.first
  obtain ⟨_, _, h3, _, _⟩ := SepP.run h2
  obtain ⟨_, _, _, h4⟩ := h3.first
  obtain ⟨_, _, _, h5⟩ := h4.atom
  exact h5.no63

/-- A node that begins with the sign of a var. -/
def NodeQ (rs : List Int) (p : Nat) (w : World) (e : Ending) (w' : World) : Prop :=
 ∃ (v : ByteArray) (b : Bool) (k : Int) (t1 t2 t3 : ByteArray) (E : Int), e = .returned (.tuple #[nv v b k t1 t2 t3, .int .i64 E]) ∧ ((E = -1 ∧ ∀ f q, ¬ VarP rs p f q) ∨ ∃ f q : Nat, E = (q : Int) ∧ VarP rs p f q) ∧ Fr (fun _ => False) w w'

theorem rnode_q (g c p : Nat) (rs : List Int) (w : World) (hl : rs.length ≤ 8100) (hw : wt rs ≤ 8100) (hv : ∀ r, r ∈ rs → signR r = true) (hp : p ≤ rs.length) (h : Ls w g c rs) (hma : markAt rs p ⟨#[63]⟩ = true) :
    Calls Tryz.prog 123 #[.slice (some ⟨g, 0, none⟩) rs.length c, .int .i64 (p : Int)] w (NodeQ rs p w) := by
 have f0 : Fr (fun _ => False) w (w.alloc (.cells #[.string ⟨#[]⟩, .bool false, .int .i64 0, .string ⟨#[]⟩, .string ⟨#[]⟩, .string ⟨#[]⟩] 36)) := (Fr.refl _ _).alloc _
 have hb : Blk (w.alloc (.cells #[.string ⟨#[]⟩, .bool false, .int .i64 0, .string ⟨#[]⟩, .string ⟨#[]⟩, .string ⟨#[]⟩] 36)) w.heap.size 36 zero36.toArray := Blk.new w 36 #[.string ⟨#[]⟩, .bool false, .int .i64 0, .string ⟨#[]⟩, .string ⟨#[]⟩, .string ⟨#[]⟩]
 have HB := Lib.hid hb
 have HF := Lib.hid f0
 have hs := h.frF f0
 have hcap := h.cap
 have hm1 := rmark_any ⟨#[63]⟩ g c p rs _ (by decide) hl hv hp hs
 unfold mkI at hm1
 have HVA := Lib.hid (rvar_any g c p rs _ hl hv hp hs)
 unfold VarPost at HVA
 have HBL := Lib.hid (rblanks_any g c p rs _ hl hv hp hs)
 have HIN := Lib.hid (rint_any false g c p rs _ hl hw hv hp hs)
 unfold IntPost at HIN
 have hle := skip_le rs [0] (rs.length - p) p (Nat.le_refl _) hp
 have hrd := rread_any g c (skip rs [0] p) rs _ hl hw hv hle.2 hs
 have HLAST := Lib.hid (fun (x : DT) (e : Nat) (h1 : docR rs (skip rs [0] p) = (some x, e)) => docR_last hv hle.2 h1)
 have HC := Lib.hid (fun i w1 => rclass_any (peekOf rs i) w1)
 have HS := Lib.hid hs
 have hp0 : ¬ ((p : Int) < 0) := by omega
 rw [hma] at hm1
 simp only [if_true] at hm1
 have HM := Lib.hid hm1
 have hmi := (mark_in hma hp).2
 clear hm1 hma hrd HLAST HC HIN HBL hs f0 hb h hv hw
 generalize markTo rs p ⟨#[63]⟩ = p2 at *
 go_enter Tryz.func123, Tryz.ntmps123
 go_wp2_with fail
 refine HM.out.mono ?_
 rintro e w1 ⟨rfl, rfl⟩
 generalize w.alloc (.cells #[.string ⟨#[]⟩, .bool false, .int .i64 0, .string ⟨#[]⟩, .string ⟨#[]⟩, .string ⟨#[]⟩] 36) = w0 at *
 go_wp2_with fail
 refine HVA.out.mono ?_
 rintro e w2 ⟨hc, hf2⟩
 have HB2 := Lib.hid (HB.out.fr hf2 (fun h => h))
 have HF2 := Lib.hid ((HF.out.trans' hf2).mono (T := fun j => w.heap.size ≤ j) (fun _ _ h => h.elim))
 have HTH := Lib.hid (Blk.there (cs := zero36) HB2.out (n := 6) rfl)
 have hl1 := HB2.out.lt
 clear hf2
 rcases hc with ⟨f, q, hvp, rfl⟩ | ⟨hno, rfl⟩
 · have HVP := Lib.hid hvp
   clear hvp
   generalize strL (part rs f q) = s at *
   have hst := Blk.setAll (vs := [.string s, .bool false, .int .i64 0, .string ⟨#[]⟩, .string ⟨#[]⟩, .string ⟨#[]⟩]) (old := zero36) HB2.out rfl
   have HST := Lib.hid hst.1
   have HFF := Lib.hid ((HF2.out.trans hst.2 (fun j hj e => by omega)).shut (Nat.le_refl _))
   clear hst
   go_wp2_with (refine wpList_store_mid rfl 36 _ _ rfl _ _ _ rfl rfl HTH.out inf36 (one36 _ _ _ _ _ _) ?_)
   exact bodyPost_ret (v := .tuple #[nv s false 0 ⟨#[]⟩ ⟨#[]⟩ ⟨#[]⟩, .int .i64 (q : Int)]) (results_c2 rfl _ _ w.heap.size 36 _ (0, 0) _ rfl HST.out Tryz.underlying36 rfl (by kernel_rfl) _ rfl) rfl ⟨_, _, _, _, _, _, _, rfl, .inr ⟨f, q, rfl, HVP.out⟩, HFF.out⟩
 have hst := Blk.setAll (vs := [.string ⟨#[]⟩, .bool false, .int .i64 0, .string ⟨#[]⟩, .string ⟨#[]⟩, .string ⟨#[]⟩]) (old := zero36) HB2.out rfl
 have HST := Lib.hid hst.1
 have HFF := Lib.hid ((HF2.out.trans hst.2 (fun j hj e => by omega)).shut (Nat.le_refl _))
 have HNO := Lib.hid hno
 clear hst hno
 go_wp2_with (refine wpList_store_mid rfl 36 _ _ rfl _ _ _ rfl rfl HTH.out inf36 (one36 _ _ _ _ _ _) ?_)
 exact bodyPost_ret (v := .tuple #[nv ⟨#[]⟩ false 0 ⟨#[]⟩ ⟨#[]⟩ ⟨#[]⟩, .int .i64 (-1)]) (results_c2 rfl _ _ w.heap.size 36 _ (0, 0) _ rfl HST.out Tryz.underlying36 rfl (by kernel_rfl) _ rfl) rfl ⟨_, _, _, _, _, _, _, rfl, .inl ⟨rfl, HNO.out⟩, HFF.out⟩

/-- What a node ends with. -/
def NodeE (rs : List Int) (p o : Nat) : Prop := p < o ∧ o ≤ rs.length ∧ ((∃ f, VarP rs p f o) ∨ (2 ≤ o → EndP rs o)) ∧ (markAt rs p ⟨#[63]⟩ = true → ∃ f, VarP rs p f o)
/-- A node, or none, from a place that may be none. -/
def NodeB (rs : List Int) (E : Int) (w : World) (e : Ending) (w' : World) : Prop :=
 ∃ (v : ByteArray) (b : Bool) (k : Int) (t1 t2 t3 : ByteArray) (E' : Int), e = .returned (.tuple #[nv v b k t1 t2 t3, .int .i64 E']) ∧ ((E' = -1 ∧ ∀ p : Nat, E = (p : Int) → ∀ f q, ¬ VarP rs p f q) ∨ ∃ p o : Nat, E = (p : Int) ∧ E' = (o : Int) ∧ NodeE rs p o) ∧ Fr (fun _ => False) w w'
theorem rnode_beh (g c : Nat) (rs : List Int) (w : World) (E : Int) (hl : rs.length ≤ 8100) (hw : wt rs ≤ 8100) (hv : ∀ r, r ∈ rs → signR r = true) (hE : E = -1 ∨ ∃ p : Nat, E = (p : Int) ∧ p ≤ rs.length) (h : Ls w g c rs) :
    Calls Tryz.prog 123 #[.slice (some ⟨g, 0, none⟩) rs.length c, .int .i64 E] w (NodeB rs E w) := by
 rcases hE with rfl | ⟨p, rfl, hp⟩
 · exact (rnode_neg _ w).mono (fun e w' h => ⟨_, _, _, _, _, _, _, h.1, .inl ⟨rfl, fun p h => by omega⟩, h.2⟩)
 · cases hma : markAt rs p ⟨#[63]⟩ with
   | true =>
    refine (rnode_q g c p rs w hl hw hv hp h hma).mono (fun e w' h => ?_)
    obtain ⟨v, b, k, t1, t2, t3, E, rfl, hE, hf⟩ := h
    refine ⟨v, b, k, t1, t2, t3, E, rfl, hE.elim (fun h => .inl ⟨h.1, fun p' e f q hx => h.2 f q (by rw [show p = p' by omega]; exact hx)⟩) (fun h => .inr ?_), hf⟩
    obtain ⟨f, q, rfl, hvp⟩ := h
    have hm := (mark_in hma hp).2
    have hpos := hvp.pos
    have hfr := hvp.from_
    exact ⟨p, q, rfl, rfl, by omega, hpos.2, .inl ⟨f, hvp⟩, fun _ => ⟨f, hvp⟩⟩
   | false =>
    refine (rnode_any g c p rs w hl hw hv hp h).mono (fun e w' h => ?_)
    obtain ⟨v, b, k, t1, t2, t3, E, rfl, hE, hf⟩ := h
    refine ⟨v, b, k, t1, t2, t3, E, rfl, hE.elim (fun h => .inl ⟨h, fun p' e f q hx => by
     obtain rfl : p = p' := by omega
     have h9 := hx.mark
     rw [hma] at h9
     cases h9⟩) (fun h => .inr ?_), hf⟩
    obtain ⟨q, rfl, h1, h2, h3⟩ := h
    exact ⟨p, q, rfl, rfl, h1, h2, h3, fun h => by rw [hma] at h; cases h⟩

abbrev Z45 : Array Value := #[.int .i64 0, .string ⟨#[]⟩, .bool false, .int .i64 0, .string ⟨#[]⟩, .string ⟨#[]⟩, .string ⟨#[]⟩, .string ⟨#[]⟩, .bool false, .int .i64 0, .string ⟨#[]⟩, .string ⟨#[]⟩, .string ⟨#[]⟩, .string ⟨#[]⟩, .bool false, .int .i64 0, .string ⟨#[]⟩, .string ⟨#[]⟩, .string ⟨#[]⟩, .int .i64 0, .string ⟨#[]⟩, .slice none 0 0, .string ⟨#[]⟩, .string ⟨#[]⟩, .bool false, .int .i64 0, .string ⟨#[]⟩, .string ⟨#[]⟩, .string ⟨#[]⟩, .slice none 0 0, .string ⟨#[]⟩, .string ⟨#[]⟩, .slice none 0 0]
theorem inf45 : (Tryz.prog.info? 45).map (·.size) = some 33 := by kernel_rfl
theorem infz45 : (Tryz.prog.info? 45).bind (·.zero) = some (.agg Z45) := by kernel_rfl
theorem bld45 : Tryz.prog.built 45 [] = some Z45 := by kernel_rfl
theorem inf45c {cs : Array Value} (h : CellsN 33 cs) : (Tryz.prog.info? 45).map (·.size) = some cs.size := by rw [h.sz]; exact inf45
theorem zer45 : ((Tryz.prog.info? 45).bind (·.zero)).isSome = true := by rw [infz45]; rfl
theorem cellsZ45 : CellsN 33 Z45 := ⟨rfl, all_oneCell_toArray (cs := [.int .i64 0, .string ⟨#[]⟩, .bool false, .int .i64 0, .string ⟨#[]⟩, .string ⟨#[]⟩, .string ⟨#[]⟩, .string ⟨#[]⟩, .bool false, .int .i64 0, .string ⟨#[]⟩, .string ⟨#[]⟩, .string ⟨#[]⟩, .string ⟨#[]⟩, .bool false, .int .i64 0, .string ⟨#[]⟩, .string ⟨#[]⟩, .string ⟨#[]⟩, .int .i64 0, .string ⟨#[]⟩, .slice none 0 0, .string ⟨#[]⟩, .string ⟨#[]⟩, .bool false, .int .i64 0, .string ⟨#[]⟩, .string ⟨#[]⟩, .string ⟨#[]⟩, .slice none 0 0, .string ⟨#[]⟩, .string ⟨#[]⟩, .slice none 0 0]) (by
 intro v hv
 simp only [List.mem_cons, List.not_mem_nil, or_false] at hv
 rcases hv with rfl | rfl | rfl | rfl | rfl | rfl | rfl | rfl | rfl | rfl | rfl | rfl | rfl | rfl | rfl | rfl | rfl | rfl | rfl | rfl | rfl | rfl | rfl | rfl | rfl | rfl | rfl | rfl | rfl | rfl | rfl | rfl | rfl <;> rfl)⟩
theorem cells36 (v : ByteArray) (b : Bool) (k : Int) (t1 t2 t3 : ByteArray) : CellsN 6 #[.string v, .bool b, .int .i64 k, .string t1, .string t2, .string t3] := ⟨rfl, one36 _ _ _ _ _ _⟩
theorem cells39 (k : Int) (i : ByteArray) (A : Option Addr) (n c : Nat) : CellsN 3 #[.int .i64 k, .string i, .slice A n c] := ⟨rfl, one39 _ _ _ _ _⟩
/-- A triple of our form: a var, a path, a var, and a full stop. -/
def TripYes (rs : List Int) (p : Nat) : Prop := ∃ (f s0 : Nat) (t : PT) (e d f2 o : Nat), VarP rs p f s0 ∧ markAt rs s0 ⟨#[63]⟩ = false ∧ PathP rs (rs.length + 1) s0 t e d ∧ d ≤ 40 ∧ VarP rs e f2 o ∧ markAt rs o ⟨#[46]⟩ = true
/-- A triple's tree: a var in its midst, or a path. -/
def TripQ (rs : List Int) (p : Nat) (w' : World) (B : Nat) (cs : Array Value) (E : Int) : Prop :=
 (∀ q : Nat, E = (q : Int) → ∃ (pv : ByteArray), cs[7]? = some (.string pv) ∧ (pv = ⟨#[]⟩ → ∃ (s0 : Nat) (t : PT) (e d o : Nat), NodeE rs p s0 ∧ PathP rs (rs.length + 1) s0 t e d ∧ d ≤ 40 ∧ PAt 39 w' B t (sub cs 19 3) ∧ NodeE rs e o ∧ markAt rs o ⟨#[46]⟩ = true ∧ q = markTo rs o ⟨#[46]⟩) ∧
  (pv ≠ ⟨#[]⟩ → ∃ s0, NodeE rs p s0 ∧ markAt rs s0 ⟨#[63]⟩ = true)) ∧ (E = -1 → ¬ TripYes rs p)
theorem trip_no {rs : List Int} {p s0 d : Nat} {Ep E2 E3 : Int} (hN : NodeE rs p s0) (h2 : E2 = if (d : Int) > 40 then -1 else Ep) (hP : (Ep = -1 ∧ NoPath rs (rs.length + 1) s0) ∨ ∃ (t : PT) (q : Nat), Ep = (q : Int) ∧ PathP rs (rs.length + 1) s0 t q d)
    (h3 : (E3 = -1 ∧ ∀ p : Nat, E2 = (p : Int) → ∀ f q, ¬ VarP rs p f q) ∨ ∃ p o : Nat, E2 = (p : Int) ∧ E3 = (o : Int) ∧ NodeE rs p o) (h4 : E3 = -1 ∨ ∃ q : Nat, E3 = (q : Int) ∧ markAt rs q ⟨#[46]⟩ = false) : ¬ TripYes rs p := by
 rintro ⟨f, s1, t, e, d1, f2, o, v1, m63, hp, hd, v2, m46⟩
 obtain ⟨f0, v0⟩ := hN.2.2.2 v1.mark
 obtain rfl := (v0.fn v1).2
 rcases hP with ⟨_, hp0⟩ | ⟨t0, q0, rfl, hp0⟩
 · exact hp0.not hp
 · obtain ⟨rfl, rfl, rfl⟩ := PathP.fn hp0 hp
   rw [if_neg (by omega)] at h2
   rcases h3 with ⟨rfl, h3⟩ | ⟨p5, o5, rfl, rfl, hN5⟩
   · exact h3 _ h2 _ _ v2
   · obtain rfl : q0 = p5 := by omega
     obtain ⟨f5, v5⟩ := hN5.2.2.2 v2.mark
     obtain rfl := (v5.fn v2).2
     rcases h4 with h4 | ⟨q, h4, m⟩
     · omega
     · obtain rfl : o5 = q := by omega
       rw [m46] at m
       cases m
def ItemW (rs : List Int) (p : Nat) (J : World → Array Value → Int → Prop) (w : World) (e : Ending) (w' : World) : Prop :=
 ∃ (cs : Array Value) (E : Int), e = .returned (.tuple #[.agg cs, .int .i64 E]) ∧ CellsN 33 cs ∧ Beh rs p E ∧ J w' cs E ∧ Fr (fun _ => False) w w'
theorem strL_ne {rs : List Int} {f e : Nat} (h : f < e) (he : e ≤ rs.length) : strL (part rs f e) ≠ ⟨#[]⟩ := fun h0 => by
 have h1 := strL_wt (part rs f e)
 rw [h0] at h1
 have h2 : (part rs f e).length = e - f := by
  unfold part
  rw [List.length_take, List.length_drop]
  omega
 cases hp : part rs f e with
 | nil => rw [hp] at h2; simp at h2; omega
 | cons x l =>
  rw [hp, wt_cons] at h1
  have := (wt_pos x).1
  have h3 : (⟨#[]⟩ : ByteArray).size = 0 := rfl
  omega

theorem rtriple_any (g c p : Nat) (rs : List Int) (w : World) (hl : rs.length ≤ 8100) (hw : wt rs ≤ 8100) (hv : ∀ r, r ∈ rs → signR r = true) (hp : p ≤ rs.length) (h : Ls w g c rs) :
    Calls Tryz.prog 95 #[.slice (some ⟨g, 0, none⟩) rs.length c, .int .i64 (p : Int)] w (ItemW rs p (fun w' cs E => TripQ rs p w' w.heap.size cs E) w) := by
 have HLS := Lib.hid h
 have HNB := Lib.hid (fun E w1 hE h4 => rnode_beh g c rs w1 E hl hw hv hE h4)
 have HVQ := Lib.hid (fun q w1 (h3 : q ≤ rs.length) (h4 : Ls w1 g c rs) => rvar_any g c q rs w1 hl hv h3 h4)
 have HPQ := Lib.hid (fun q w1 (h3 : q ≤ rs.length) (h4 : Ls w1 g c rs) => rpath_any g c rs hl hw hv (rs.length + 1) q w1 (by omega) h3 h4)
 have HMK := Lib.hid (fun T q w1 (h1 : T.size ≤ 100) (h3 : q ≤ rs.length) (h4 : Ls w1 g c rs) => rmark_any T g c q rs w1 h1 hl hv h3 h4)
 have HMN := Lib.hid (fun T w1 => rmark_neg T (.slice (some ⟨g, 0, none⟩) rs.length c) w1)
 have HSH := Lib.hid (fun E d w1 => rshallow E d w1)
 clear h hv hw
 go_enter Tryz.func95, Tryz.ntmps95
 go_wp2_with ((with_reducible change wpList _ _ _ (Oper.mk _ (.alloc 45) _ _ _ _ :: _) _ _); refine wpList_alloc_blk rfl 45 rfl Z45 infz45 ?_)
 refine Lib.hid ?_
 rintro w0 z0 HZ0 HB0 HF0 hs0
 go_wp2_with ((with_reducible change wpList _ _ _ (Oper.mk _ (.build 45 #[]) _ _ _ _ :: _) _ _); refine wpList_build_to rfl 45 _ rfl [] (by simp only [List.map_toArray, List.map_nil]) Z45 bld45 ?_)
 refine Lib.hid ?_
 rintro zz HZZ
 have hNz := CellsN.mk (n := 33) (cs := zz) (by rw [HZZ.out]; rfl) (by rw [HZZ.out]; exact cellsZ45.one)
 have HZ7 := Lib.hid (show zz[7]? = some (.string ⟨#[]⟩) by rw [HZZ.out]; rfl)
 have hNz0 := CellsN.mk (n := 33) (cs := z0) (by rw [HZ0.out]; rfl) (by rw [HZ0.out]; exact cellsZ45.one)
 clear HZZ HZ0
 go_wp2_with ((with_reducible change wpList _ _ _ (Oper.mk _ (.alloc 45) _ _ _ _ :: _) _ _); refine wpList_alloc_blk rfl 45 rfl Z45 infz45 ?_)
 refine Lib.hid ?_
 rintro w1 z1 HZ1 HY1 HF1 hs1
 have hz1 : z1.size = 33 := by rw [HZ1.out]; rfl
 clear HZ1
 go_wp2_with ((with_reducible change wpList _ _ _ (Oper.mk _ (.store 45 _ _) _ _ _ _ :: _) _ _); refine wpList_store_blkH rfl 45 _ _ rfl _ _ rfl rfl 45 _ HY1.out (by rw [hNz.sz, hz1]) (inf45c hNz) (hNz.one) ?_)
 refine Lib.hid ?_
 rintro w2 hy2 hf2
 have hyw : w.heap.size < w0.heap.size := hs0
 have HF2 := Lib.hid ((HF0.out.trans' HF1.out).up.andX hf2 (by omega))
 have HB2 := Lib.hid ((HB0.out.fr HF1.out (fun h => h)).oth hf2 (by omega))
 have HY2 := Lib.hid hy2
 clear HF1 HF0 HB0 HY1 hy2 hf2 hz1 hs1
 generalize w0.heap.size = y at *
 go_wp2_with fail
 refine (HNB.out p w2 (.inr ⟨p, rfl, hp⟩) (HLS.out.up HF2.out)).mono ?_
 rintro e w3 ⟨vs, bs, ks, xs, ys, zs, E1, rfl, hE1, hf3⟩
 have hf4 := hf3.alloc (.cells #[.string vs, .bool bs, .int .i64 ks, .string xs, .string ys, .string zs] 36)
 have HF4 := Lib.hid (HF2.out.andF hf4)
 have HB4 := Lib.hid (HB2.out.fr hf4 (fun h => h))
 have HY4 := Lib.hid (HY2.out.fr hf4 (fun h => h))
 have HRS := Lib.hid (blkRange (cs := [.string vs, .bool bs, .int .i64 ks, .string xs, .string ys, .string zs]) (Blk.new w3 36 #[.string vs, .bool bs, .int .i64 ks, .string xs, .string ys, .string zs]))
 clear hf3 hf4 HF2 HB2 HY2
 rcases hE1 with ⟨rfl, hno⟩ | ⟨p', s0, hpp, rfl, hNE1⟩
 · have HNO := Lib.hid (show ¬ TripYes rs p from fun ⟨f, s1, _, _, _, _, _, v1, _⟩ => hno p rfl _ _ v1)
   clear hno
   go_wp2_with (first | ((with_reducible change wpList _ _ _ (Oper.mk _ (.load 45 _) _ _ _ _ :: _) _ _); refine wpList_load_blk rfl 45 _ rfl _ rfl 45 _ HY4.out _ Tryz.underlying45 rfl (inf45c hNz) ?_) | ((with_reducible change wpList _ _ _ (Oper.mk _ (.store 45 _ _) _ _ _ _ :: _) _ _); refine wpList_store_blkH rfl 45 _ _ rfl _ _ rfl rfl 45 _ HB4.out (by rw [hNz.sz, hNz0.sz]) (inf45c hNz) (hNz.one) ?_))
   rintro w9 hb9 hf9
   have HFF := Lib.hid ((HF4.out.andX hf9 (Nat.le_refl _)).shut (Nat.le_refl _))
   go_wp2_with fail
   exact bodyPost_ret (v := .tuple #[.agg _, .int .i64 (-1)]) (results_c2 rfl _ _ w.heap.size 45 _ (0, 0) _ rfl hb9 Tryz.underlying45 rfl (inf45c hNz) _ rfl) rfl ⟨_, _, rfl, hNz, .inl rfl, ⟨fun q h => by omega, fun _ => HNO.out⟩, HFF.out⟩
 · obtain rfl : p = p' := by omega
   clear hpp
   have hs00 : (0 : Int) ≤ (s0 : Int) := by omega
   have hs0l : s0 ≤ rs.length := hNE1.2.1
   have hps : p < s0 := hNE1.1
   have HNE1 := Lib.hid hNE1
   clear hNE1
   go_wp2_with (first | ((with_reducible change wpList _ _ _ (Oper.mk _ (.load 36 _) _ _ _ _ :: _) _ _); refine wpList_load_mid rfl 36 _ rfl _ _ rfl _ _ HRS.out Tryz.underlying36 rfl inf36 ?_) | ((with_reducible change wpList _ _ _ (Oper.mk _ (.store 36 _ _) _ _ _ _ :: _) _ _); refine wpList_store_over rfl 36 _ _ rfl _ _ _ rfl rfl 45 _ HY4.out (by rw [hNz.sz]; exact Nat.le_of_ble_eq_true rfl) (by exact inf36) (by exact (cells36 _ _ _ _ _ _).one) ?_))
   refine Lib.hid ?_
   rintro w5 c5 HC5 hy5 hf5
   have hN5 : CellsN 33 c5 := HC5.out ▸ hNz.over (cells36 vs bs ks xs ys zs) (by decide)
   have HZ75 := Lib.hid (show c5[7]? = some (.string ⟨#[]⟩) by rw [HC5.out, hNz.out_ (cells36 vs bs ks xs ys zs) 7 (by decide) (by decide)]; exact HZ7.out)
   have HF5 := Lib.hid (HF4.out.andX hf5 (by omega))
   have HB5 := Lib.hid (HB4.out.oth hf5 (by omega))
   have HY5 := Lib.hid hy5
   clear hy5 hf5 HC5 HZ7 HF4 HB4 HY4 HRS
   have HLS5 := Lib.hid (HLS.out.up HF5.out)
   have hmk := HMK.out ⟨#[63]⟩ s0 w5 (by decide) hs0l HLS5.out
   unfold mkI at hmk
   cases h63 : markAt rs s0 ⟨#[63]⟩ with
   | true =>
    have HNT := Lib.hid (show ¬ TripYes rs p from fun ⟨f, s1, _, _, _, _, _, v1, m63, _⟩ => by
     obtain ⟨f0, v0⟩ := HNE1.out.2.2.2 v1.mark
     obtain rfl := (v0.fn v1).2
     rw [h63] at m63
     cases m63)
    have HNM := Lib.hid (show ∃ s0, NodeE rs p s0 ∧ markAt rs s0 ⟨#[63]⟩ = true from ⟨s0, HNE1.out, h63⟩)
    rw [h63, if_pos rfl] at hmk
    have HM := Lib.hid hmk
    have hmi := (mark_in h63 hs0l).2
    clear hmk
    generalize markTo rs s0 ⟨#[63]⟩ = p2 at *
    have hp20 : (0 : Int) ≤ (p2 : Int) := by omega
    go_wp2_with fail
    refine HM.out.mono ?_
    rintro e w1 ⟨rfl, rfl⟩
    go_wp2_with fail
    refine (HVQ.out s0 _ hs0l HLS5.out).mono ?_
    rintro e w6 ⟨hc, hf6⟩
    obtain ⟨pv, E2, hE2, hPV, he⟩ : ∃ (pv : ByteArray) (E2 : Int), (E2 = -1 ∨ ∃ q : Nat, E2 = (q : Int) ∧ q ≤ rs.length) ∧ (∀ q : Nat, E2 = (q : Int) → s0 < q ∧ pv ≠ ⟨#[]⟩) ∧ e = .returned (.tuple #[.string pv, .int .i64 E2]) := by
     rcases hc with ⟨f, q, hvp, rfl⟩ | ⟨-, rfl⟩
     · have hpos := hvp.pos
       have hmi2 := (mark_in hvp.mark hs0l).2
       rw [← hvp.from_] at hmi2
       refine ⟨_, _, .inr ⟨q, rfl, hpos.2⟩, fun q2 h2 => ?_, rfl⟩
       obtain rfl : q = q2 := by omega
       exact ⟨by omega, strL_ne hpos.1 hpos.2⟩
     · exact ⟨_, _, .inl rfl, fun q h => by omega, rfl⟩
    subst he
    have HF6 := Lib.hid (HF5.out.andF hf6)
    have HB6 := Lib.hid (HB5.out.fr hf6 (fun h => h))
    have HY6 := Lib.hid (HY5.out.fr hf6 (fun h => h))
    have HPV := Lib.hid hPV
    clear hc hf6 hPV HM
    go_wp2_with ((with_reducible change wpList _ _ _ (Oper.mk _ (.store 36 _ _) _ _ _ _ :: _) _ _); refine wpList_store_over rfl 36 _ _ rfl _ _ _ rfl rfl 45 _ HY6.out (by rw [hN5.sz]; exact Nat.le_of_ble_eq_true rfl) (by exact inf36) (by exact (cells36 _ _ _ _ _ _).one) ?_)
    refine Lib.hid ?_
    rintro w7 c7 HC7 hy7 hf7
    have hN7 : CellsN 33 c7 := HC7.out ▸ hN5.over (cells36 pv false 0 ⟨#[]⟩ ⟨#[]⟩ ⟨#[]⟩) (by decide)
    have HG7 := Lib.hid (show c7[7]? = some (.string pv) by rw [HC7.out, hN5.in_ (cells36 pv false 0 ⟨#[]⟩ ⟨#[]⟩ ⟨#[]⟩) 7 (by decide) (by decide) (by decide)]; rfl)
    have HF7 := Lib.hid (HF6.out.andX hf7 (by omega))
    have HB7 := Lib.hid (HB6.out.oth hf7 (by omega))
    have HY7 := Lib.hid hy7
    clear HC7 hy7 hf7 HZ75 HF6 HB6 HY6
    go_wp2_with fail
    refine (HNB.out E2 w7 hE2 (HLS.out.up HF7.out)).mono ?_
    rintro e w8 ⟨vo, bo, ko, xo, yo, zo, E3, rfl, hE3, hf8⟩
    have hf9 := hf8.alloc (.cells #[.string vo, .bool bo, .int .i64 ko, .string xo, .string yo, .string zo] 36)
    have HF9 := Lib.hid (HF7.out.andF hf9)
    have HB9 := Lib.hid (HB7.out.fr hf9 (fun h => h))
    have HY9 := Lib.hid (HY7.out.fr hf9 (fun h => h))
    have HRO := Lib.hid (blkRange (cs := [.string vo, .bool bo, .int .i64 ko, .string xo, .string yo, .string zo]) (Blk.new w8 36 #[.string vo, .bool bo, .int .i64 ko, .string xo, .string yo, .string zo]))
    clear hf8 hf9 HF7 HB7 HY7
    go_wp2_with (first | ((with_reducible change wpList _ _ _ (Oper.mk _ (.load 36 _) _ _ _ _ :: _) _ _); refine wpList_load_mid rfl 36 _ rfl _ _ rfl _ _ HRO.out Tryz.underlying36 rfl inf36 ?_) | ((with_reducible change wpList _ _ _ (Oper.mk _ (.store 36 _ _) _ _ _ _ :: _) _ _); refine wpList_store_over rfl 36 _ _ rfl _ _ _ rfl rfl 45 _ HY9.out (by rw [hN7.sz]; exact Nat.le_of_ble_eq_true rfl) (by exact inf36) (by exact (cells36 _ _ _ _ _ _).one) ?_))
    refine Lib.hid ?_
    rintro wa ca HCa hya hfa
    have hNa : CellsN 33 ca := HCa.out ▸ hN7.over (cells36 vo bo ko xo yo zo) (by decide)
    have HGa := Lib.hid (show ca[7]? = some (.string pv) by rw [HCa.out, hN7.out_ (cells36 vo bo ko xo yo zo) 7 (by decide) (by decide)]; exact HG7.out)
    have HFa := Lib.hid (HF9.out.andX hfa (by omega)).drew
    have HBa := Lib.hid (HB9.out.oth hfa (by omega)).drew
    have HYa := Lib.hid hya.drew
    have HLSa := Lib.hid (HLS.out.up HFa.out)
    clear HCa hya hfa HF9 HB9 HY9 HRO
    have hE3b : E3 = -1 ∨ ∃ q : Nat, E3 = (q : Int) ∧ q ≤ rs.length ∧ p < q := by
     rcases hE3 with ⟨rfl, -⟩ | ⟨e2, o2, he2, ho2, hne⟩
     · exact .inl rfl
     · exact .inr ⟨o2, ho2, hne.2.1, by have := (HPV.out e2 he2).1; have := hne.1; omega⟩
    have hmk4 : Calls Tryz.prog 27 #[.slice (some ⟨g, 0, none⟩) rs.length c, .int .i64 E3, .string ⟨#[46]⟩] wa.drew fun e w' => ∃ E4 : Int, e = .returned (.int .i64 E4) ∧ ((E4 = -1 ∧ (E3 = -1 ∨ ∃ q : Nat, E3 = (q : Int) ∧ markAt rs q ⟨#[46]⟩ = false)) ∨ ∃ q : Nat, E3 = (q : Int) ∧ p < q ∧ q ≤ rs.length ∧ markAt rs q ⟨#[46]⟩ = true ∧ E4 = (markTo rs q ⟨#[46]⟩ : Int)) ∧ wa.drew = w' := by
     rcases hE3b with rfl | ⟨q, rfl, h3, h4⟩
     · exact (HMN.out _ _).mono (fun e w' h => ⟨-1, h.1, .inl ⟨rfl, .inl rfl⟩, h.2⟩)
     · refine (HMK.out _ q _ (by decide) h3 HLSa.out).mono (fun e w' h => ⟨_, h.1, ?_, h.2⟩)
       unfold mkI
       cases h46 : markAt rs q ⟨#[46]⟩ with
       | true => exact .inr ⟨q, rfl, h4, h3, h46, by rw [if_pos rfl]⟩
       | false => exact .inl ⟨by rw [if_neg Bool.false_ne_true], .inr ⟨q, rfl, h46⟩⟩
    have HM4 := Lib.hid hmk4
    have HE3 := Lib.hid hE3
    have hyl := HYa.out.lt
    clear hmk4 hE3b hE3 HNB HVQ HPQ HMK HMN HSH HLSa
    go_wp2_with fail
    refine wp_region_noPanic ?_
    refine wp_region_held_drew (S := fun wy => Blk wy y 45 ca) (by kernel_rfl) ?_ (fun hHeld => ?_)
    · try dsimp only
      exact HYa.out
    refine wpAnyH_take (i := 0) (oi := _) (v := _) (by simp only [List.getElem?_toArray, List.getElem?_cons_zero]; rfl) (by kernel_rfl) (by kernel_rfl) (by kernel_rfl) (fun _ _ _ h => h) (yieldsIf_load_blk (by rfl) 45 _ rfl _ rfl 45 _ (fun _ h => h) _ Tryz.underlying45 rfl (inf45c hNa)) (by assumption) ?_
    try simp only [Act.put, List.setIfInBounds_toArray, List.set_cons_zero, List.set_cons_succ]
    refine wpAnyH_take (i := 1) (oi := _) (v := ?_) (by simp only [List.getElem?_toArray, List.getElem?_cons_zero, List.getElem?_cons_succ]; rfl) (by kernel_rfl) (by kernel_rfl) (by kernel_rfl) (fun _ _ _ h => h) (Or.inl ⟨by rfl, ?_⟩) (by assumption) ?_
    rotate_left
    · intro w hSw
      try dsimp only at hSw
      go_simp
      all_goals (with_reducible rfl)
    try simp only [Act.put, List.setIfInBounds_toArray, List.set_cons_zero, List.set_cons_succ]
    refine wpAnyH_take (i := 2) (oi := _) (v := ?_) (by simp only [List.getElem?_toArray, List.getElem?_cons_zero, List.getElem?_cons_succ]; rfl) (by kernel_rfl) (by kernel_rfl) (by kernel_rfl) (fun _ _ _ h => h) (Or.inl ⟨by rfl, ?_⟩) (by assumption) ?_
    rotate_left
    · intro w hSw
      try dsimp only at hSw
      go_simp
      all_goals (with_reducible rfl)
    try simp only [Act.put, List.setIfInBounds_toArray, List.set_cons_zero, List.set_cons_succ]
    refine wpAnyH_ready (rs := [3]) (by kernel_rfl) (by simp) ?_
    refine AllReadyH.cons (o := _) (by simp only [List.getElem?_toArray, List.getElem?_cons_zero, List.getElem?_cons_succ]; rfl) (fun K hK => ?_) ?_
    · skip
      go_simp
      go_at_call 27
      refine HM4.out.mono ?_
      rintro e w1 ⟨E4, rfl, hE4, rfl⟩
      refine hK.out _ _ ?_ (fun hHeld => ?_)
      · try dsimp only
        exact HYa.out
      clear hK K
      try simp only [Act.put, List.setIfInBounds_toArray, List.set_cons_zero, List.set_cons_succ]
      refine wpAnyH_ready (rs := [4]) (by kernel_rfl) (by simp) ?_
      refine AllReadyH.cons (o := _) (by simp only [List.getElem?_toArray, List.getElem?_cons_zero, List.getElem?_cons_succ]; rfl) (fun K hK => ?_) ?_
      · skip
        rw [if_pos (by rfl)]
        refine wp_store_blk 45 _ _ rfl _ _ rfl rfl 45 _ HBa.out (by rw [hNa.sz, hNz0.sz]) (inf45c hNa) hNa.one ?_
        rintro wb hbb hfb
        refine hK.out _ _ ?_ (fun hHeld => ?_)
        · try dsimp only
          exact HYa.out.oth hfb (by omega)
        clear hK K
        try simp only [Act.put]
        refine wpAnyH_take (i := 5) (oi := _) (v := ?_) (by simp only [List.getElem?_toArray, List.getElem?_cons_zero, List.getElem?_cons_succ]; rfl) (by kernel_rfl) (by kernel_rfl) (by kernel_rfl) (fun _ _ _ h => h) (Or.inl ⟨by rfl, ?_⟩) (by assumption) ?_
        rotate_left
        · intro w hSw
          try dsimp only at hSw
          go_simp
          all_goals (with_reducible rfl)
        try simp only [Act.put, List.setIfInBounds_toArray, List.set_cons_zero, List.set_cons_succ]
        refine wpAnyH_done (by kernel_rfl) ?_ _
        refine NoPanic.normal ?_
        have HFF := Lib.hid ((HFa.out.andX hfb (Nat.le_refl _)).shut (Nat.le_refl _))
        go_wp2_with fail
        refine bodyPost_ret (v := .tuple #[.agg ca, .int .i64 E4]) (results_c2 rfl _ _ w.heap.size 45 _ (0, 0) _ rfl hbb Tryz.underlying45 rfl (inf45c hNa) _ rfl) rfl ⟨_, _, rfl, hNa, ?_, ?_, HFF.out⟩
        · rcases hE4 with ⟨rfl, -⟩ | ⟨q, hq, h1, h2, h3, rfl⟩
          · exact .inl rfl
          · have hm := (mark_in h3 h2).2
            exact .inr ⟨_, rfl, by omega, hm.2⟩
        · refine ⟨fun q hq => ?_, fun _ => HNT.out⟩
          refine ⟨pv, HGa.out, fun h0 => ?_, fun _ => HNM.out⟩
          rcases hE4 with ⟨rfl, -⟩ | ⟨o, ho, h1, h2, h3, rfl⟩
          · omega
          · rcases HE3.out with ⟨rfl, -⟩ | ⟨e2, o2, he2, ho2, hne⟩
            · omega
            · exact absurd h0 (HPV.out e2 he2).2
      exact AllReadyH.nil
    exact AllReadyH.nil
   | false =>
    rw [h63, if_neg Bool.false_ne_true] at hmk
    have HM := Lib.hid hmk
    clear hmk
    go_wp2_with fail
    refine HM.out.mono ?_
    rintro e w1 ⟨rfl, rfl⟩
    go_wp2_with fail
    refine (HPQ.out s0 _ hs0l HLS5.out).mono ?_
    intro e w6 hc6
    obtain ⟨pk, pi, pA, pn, pc, Ep, d, rfl, hc, hf6⟩ := post_or hc6
    have hf6a := hf6.alloc (.cells #[.int .i64 pk, .string pi, .slice pA pn pc] 39)
    have HF6 := Lib.hid (HF5.out.andF hf6a)
    have HB6 := Lib.hid (HB5.out.fr hf6a (fun h => h))
    have HY6 := Lib.hid (HY5.out.fr hf6a (fun h => h))
    have HRP := Lib.hid (blkRange (cs := [.int .i64 pk, .string pi, .slice pA pn pc]) (Blk.new w6 39 #[.int .i64 pk, .string pi, .slice pA pn pc]))
    have HP := Lib.hid (show (Ep = -1 ∧ d ≤ rs.length - s0 + 1 ∧ NoPath rs (rs.length + 1) s0) ∨ ∃ (t : PT) (q : Nat), Ep = (q : Int) ∧ PathP rs (rs.length + 1) s0 t q d ∧ d + s0 ≤ q ∧ q ≤ rs.length ∧ 1 ≤ d ∧ PAt 39 (w6.alloc (.cells #[.int .i64 pk, .string pi, .slice pA pn pc] 39)) w5.heap.size t [.int .i64 pk, .string pi, .slice pA pn pc] from hc.imp id (fun h => h.elim fun t h => h.elim fun q h => ⟨t, q, h.1, h.2.1, h.2.2.1, h.2.2.2.1, h.2.2.2.2.1, h.2.2.2.2.2.frF ((Fr.refl _ _).alloc _)⟩))
    clear hc hf6 hf6a HM hc6
    go_wp2_with (first | ((with_reducible change wpList _ _ _ (Oper.mk _ (.load 39 _) _ _ _ _ :: _) _ _); refine wpList_load_mid rfl 39 _ rfl _ _ rfl _ _ HRP.out Tryz.underlying39 rfl inf39 ?_) | ((with_reducible change wpList _ _ _ (Oper.mk _ (.store 39 _ _) _ _ _ _ :: _) _ _); refine wpList_store_over rfl 39 _ _ rfl _ _ _ rfl rfl 45 _ HY6.out (by rw [hN5.sz]; exact Nat.le_of_ble_eq_true rfl) (by exact inf39) (by exact (cells39 _ _ _ _ _).one) ?_))
    refine Lib.hid ?_
    rintro w7 c7 HC7 hy7 hf7
    have hN7 : CellsN 33 c7 := HC7.out ▸ hN5.over (cells39 pk pi pA pn pc) (by decide)
    have HG7 := Lib.hid (show c7[7]? = some (.string ⟨#[]⟩) by rw [HC7.out, hN5.out_ (cells39 pk pi pA pn pc) 7 (by decide) (by decide)]; exact HZ75.out)
    have HS7 := Lib.hid (show sub c7 19 3 = [.int .i64 pk, .string pi, .slice pA pn pc] by rw [HC7.out]; exact hN5.subIn (cells39 pk pi pA pn pc) (by decide))
    have HF7 := Lib.hid (HF6.out.andX hf7 (by omega))
    have HB7 := Lib.hid (HB6.out.oth hf7 (by omega))
    have HY7 := Lib.hid hy7
    have hw56 : w.heap.size ≤ w5.heap.size := HF5.out.size
    have HP7 := Lib.hid (show (Ep = -1 ∧ d ≤ rs.length - s0 + 1 ∧ NoPath rs (rs.length + 1) s0) ∨ ∃ (t : PT) (q : Nat), Ep = (q : Int) ∧ PathP rs (rs.length + 1) s0 t q d ∧ d + s0 ≤ q ∧ q ≤ rs.length ∧ 1 ≤ d ∧ PAt 39 w7 w.heap.size t (sub c7 19 3) from HP.out.imp id (fun h => h.elim fun t h => h.elim fun q h => ⟨t, q, h.1, h.2.1, h.2.2.1, h.2.2.2.1, h.2.2.2.2.1, by rw [HS7.out]; exact (h.2.2.2.2.2.frB HY6.out (by decide) hf7).base hw56⟩))
    clear HC7 hy7 hf7 HZ75 HF6 HB6 HY6 HRP HP HS7
    go_wp2_with fail
    refine (HSH.out _ _ _).mono ?_
    rintro e w1 ⟨rfl, rfl⟩
    obtain ⟨E2, hE2e⟩ : ∃ E2 : Int, E2 = (if (d : Int) > 40 then -1 else Ep) := ⟨_, rfl⟩
    rw [← hE2e]
    have HE2 := Lib.hid hE2e
    have hE2 : E2 = -1 ∨ ∃ q : Nat, E2 = (q : Int) ∧ q ≤ rs.length := by
     rw [hE2e]
     split
     · exact .inl rfl
     · rcases HP7.out with h | ⟨t, q, h, h1, h2, h3, h4⟩
       · exact .inl h.1
       · exact .inr ⟨q, h, h3⟩
    clear hE2e
    go_wp2_with fail
    refine (HNB.out E2 w7 hE2 (HLS.out.up HF7.out)).mono ?_
    rintro e w8 ⟨vo, bo, ko, xo, yo, zo, E3, rfl, hE3, hf8⟩
    have hf9 := hf8.alloc (.cells #[.string vo, .bool bo, .int .i64 ko, .string xo, .string yo, .string zo] 36)
    have HF9 := Lib.hid (HF7.out.andF hf9)
    have HB9 := Lib.hid (HB7.out.fr hf9 (fun h => h))
    have HY9 := Lib.hid (HY7.out.fr hf9 (fun h => h))
    have HRO := Lib.hid (blkRange (cs := [.string vo, .bool bo, .int .i64 ko, .string xo, .string yo, .string zo]) (Blk.new w8 36 #[.string vo, .bool bo, .int .i64 ko, .string xo, .string yo, .string zo]))
    have HP9 := Lib.hid (show (Ep = -1 ∧ d ≤ rs.length - s0 + 1 ∧ NoPath rs (rs.length + 1) s0) ∨ ∃ (t : PT) (q : Nat), Ep = (q : Int) ∧ PathP rs (rs.length + 1) s0 t q d ∧ d + s0 ≤ q ∧ q ≤ rs.length ∧ 1 ≤ d ∧ PAt 39 (w8.alloc (.cells #[.string vo, .bool bo, .int .i64 ko, .string xo, .string yo, .string zo] 36)) w.heap.size t (sub c7 19 3) from HP7.out.imp id (fun h => h.elim fun t h => h.elim fun q h => ⟨t, q, h.1, h.2.1, h.2.2.1, h.2.2.2.1, h.2.2.2.2.1, h.2.2.2.2.2.frF hf9⟩))
    clear hf8 hf9 HF7 HB7 HY7
    go_wp2_with (first | ((with_reducible change wpList _ _ _ (Oper.mk _ (.load 36 _) _ _ _ _ :: _) _ _); refine wpList_load_mid rfl 36 _ rfl _ _ rfl _ _ HRO.out Tryz.underlying36 rfl inf36 ?_) | ((with_reducible change wpList _ _ _ (Oper.mk _ (.store 36 _ _) _ _ _ _ :: _) _ _); refine wpList_store_over rfl 36 _ _ rfl _ _ _ rfl rfl 45 _ HY9.out (by rw [hN7.sz]; exact Nat.le_of_ble_eq_true rfl) (by exact inf36) (by exact (cells36 _ _ _ _ _ _).one) ?_))
    refine Lib.hid ?_
    rintro wa ca HCa hya hfa
    have hNa : CellsN 33 ca := HCa.out ▸ hN7.over (cells36 vo bo ko xo yo zo) (by decide)
    have HGa := Lib.hid (show ca[7]? = some (.string ⟨#[]⟩) by rw [HCa.out, hN7.out_ (cells36 vo bo ko xo yo zo) 7 (by decide) (by decide)]; exact HG7.out)
    have HFa := Lib.hid (HF9.out.andX hfa (by omega)).drew
    have HBa := Lib.hid (HB9.out.oth hfa (by omega)).drew
    have HYa := Lib.hid hya.drew
    have HLSa := Lib.hid (HLS.out.up HFa.out)
    have HSa := Lib.hid (show sub ca 19 3 = sub c7 19 3 by rw [HCa.out]; exact hN7.subOut (cells36 vo bo ko xo yo zo) 19 3 (by decide) (.inr (by decide)))
    have HPa := Lib.hid (show (Ep = -1 ∧ d ≤ rs.length - s0 + 1 ∧ NoPath rs (rs.length + 1) s0) ∨ ∃ (t : PT) (q : Nat), Ep = (q : Int) ∧ PathP rs (rs.length + 1) s0 t q d ∧ d + s0 ≤ q ∧ q ≤ rs.length ∧ 1 ≤ d ∧ PAt 39 wa w.heap.size t (sub ca 19 3) from HP9.out.imp id (fun h => h.elim fun t h => h.elim fun q h => ⟨t, q, h.1, h.2.1, h.2.2.1, h.2.2.2.1, h.2.2.2.2.1, by rw [HSa.out]; exact h.2.2.2.2.2.frB HY9.out (by decide) hfa⟩))
    clear HCa hya hfa HF9 HB9 HY9 HRO
    have hE3b : E3 = -1 ∨ ∃ q : Nat, E3 = (q : Int) ∧ q ≤ rs.length ∧ p < q := by
     rcases hE3 with ⟨rfl, -⟩ | ⟨e2, o2, he2, ho2, hne⟩
     · exact .inl rfl
     · refine .inr ⟨o2, ho2, hne.2.1, ?_⟩
       have h4 := hne.1
       have hE2 := HE2.out
       by_cases hd : (d : Int) > 40
       · rw [if_pos hd] at hE2
         omega
       · rw [if_neg hd] at hE2
         rcases HPa.out with h | ⟨t, q5, h, h5, h6, h7, h8, h9⟩
         · omega
         · omega
    have hmk4 : Calls Tryz.prog 27 #[.slice (some ⟨g, 0, none⟩) rs.length c, .int .i64 E3, .string ⟨#[46]⟩] wa.drew fun e w' => ∃ E4 : Int, e = .returned (.int .i64 E4) ∧ ((E4 = -1 ∧ (E3 = -1 ∨ ∃ q : Nat, E3 = (q : Int) ∧ markAt rs q ⟨#[46]⟩ = false)) ∨ ∃ q : Nat, E3 = (q : Int) ∧ p < q ∧ q ≤ rs.length ∧ markAt rs q ⟨#[46]⟩ = true ∧ E4 = (markTo rs q ⟨#[46]⟩ : Int)) ∧ wa.drew = w' := by
     rcases hE3b with rfl | ⟨q, rfl, h3, h4⟩
     · exact (HMN.out _ _).mono (fun e w' h => ⟨-1, h.1, .inl ⟨rfl, .inl rfl⟩, h.2⟩)
     · refine (HMK.out _ q _ (by decide) h3 HLSa.out).mono (fun e w' h => ⟨_, h.1, ?_, h.2⟩)
       unfold mkI
       cases h46 : markAt rs q ⟨#[46]⟩ with
       | true => exact .inr ⟨q, rfl, h4, h3, h46, by rw [if_pos rfl]⟩
       | false => exact .inl ⟨by rw [if_neg Bool.false_ne_true], .inr ⟨q, rfl, h46⟩⟩
    have HM4 := Lib.hid hmk4
    have HE3 := Lib.hid hE3
    have hyl := HYa.out.lt
    clear hmk4 hE3b hE3 HNB HVQ HPQ HMK HMN HSH HLSa
    go_wp2_with fail
    refine wp_region_noPanic ?_
    refine wp_region_held_drew (S := fun wy => Blk wy y 45 ca) (by kernel_rfl) ?_ (fun hHeld => ?_)
    · try dsimp only
      exact HYa.out
    refine wpAnyH_take (i := 0) (oi := _) (v := _) (by simp only [List.getElem?_toArray, List.getElem?_cons_zero]; rfl) (by kernel_rfl) (by kernel_rfl) (by kernel_rfl) (fun _ _ _ h => h) (yieldsIf_load_blk (by rfl) 45 _ rfl _ rfl 45 _ (fun _ h => h) _ Tryz.underlying45 rfl (inf45c hNa)) (by assumption) ?_
    try simp only [Act.put, List.setIfInBounds_toArray, List.set_cons_zero, List.set_cons_succ]
    refine wpAnyH_take (i := 1) (oi := _) (v := ?_) (by simp only [List.getElem?_toArray, List.getElem?_cons_zero, List.getElem?_cons_succ]; rfl) (by kernel_rfl) (by kernel_rfl) (by kernel_rfl) (fun _ _ _ h => h) (Or.inl ⟨by rfl, ?_⟩) (by assumption) ?_
    rotate_left
    · intro w hSw
      try dsimp only at hSw
      go_simp
      all_goals (with_reducible rfl)
    try simp only [Act.put, List.setIfInBounds_toArray, List.set_cons_zero, List.set_cons_succ]
    refine wpAnyH_take (i := 2) (oi := _) (v := ?_) (by simp only [List.getElem?_toArray, List.getElem?_cons_zero, List.getElem?_cons_succ]; rfl) (by kernel_rfl) (by kernel_rfl) (by kernel_rfl) (fun _ _ _ h => h) (Or.inl ⟨by rfl, ?_⟩) (by assumption) ?_
    rotate_left
    · intro w hSw
      try dsimp only at hSw
      go_simp
      all_goals (with_reducible rfl)
    try simp only [Act.put, List.setIfInBounds_toArray, List.set_cons_zero, List.set_cons_succ]
    refine wpAnyH_ready (rs := [3]) (by kernel_rfl) (by simp) ?_
    refine AllReadyH.cons (o := _) (by simp only [List.getElem?_toArray, List.getElem?_cons_zero, List.getElem?_cons_succ]; rfl) (fun K hK => ?_) ?_
    · skip
      go_simp
      go_at_call 27
      refine HM4.out.mono ?_
      rintro e w1 ⟨E4, rfl, hE4, rfl⟩
      refine hK.out _ _ ?_ (fun hHeld => ?_)
      · try dsimp only
        exact HYa.out
      clear hK K
      try simp only [Act.put, List.setIfInBounds_toArray, List.set_cons_zero, List.set_cons_succ]
      refine wpAnyH_ready (rs := [4]) (by kernel_rfl) (by simp) ?_
      refine AllReadyH.cons (o := _) (by simp only [List.getElem?_toArray, List.getElem?_cons_zero, List.getElem?_cons_succ]; rfl) (fun K hK => ?_) ?_
      · skip
        rw [if_pos (by rfl)]
        refine wp_store_blk 45 _ _ rfl _ _ rfl rfl 45 _ HBa.out (by rw [hNa.sz, hNz0.sz]) (inf45c hNa) hNa.one ?_
        rintro wb hbb hfb
        refine hK.out _ _ ?_ (fun hHeld => ?_)
        · try dsimp only
          exact HYa.out.oth hfb (by omega)
        clear hK K
        try simp only [Act.put]
        refine wpAnyH_take (i := 5) (oi := _) (v := ?_) (by simp only [List.getElem?_toArray, List.getElem?_cons_zero, List.getElem?_cons_succ]; rfl) (by kernel_rfl) (by kernel_rfl) (by kernel_rfl) (fun _ _ _ h => h) (Or.inl ⟨by rfl, ?_⟩) (by assumption) ?_
        rotate_left
        · intro w hSw
          try dsimp only at hSw
          go_simp
          all_goals (with_reducible rfl)
        try simp only [Act.put, List.setIfInBounds_toArray, List.set_cons_zero, List.set_cons_succ]
        refine wpAnyH_done (by kernel_rfl) ?_ _
        refine NoPanic.normal ?_
        have HFF := Lib.hid ((HFa.out.andX hfb (Nat.le_refl _)).shut (Nat.le_refl _))
        go_wp2_with fail
        refine bodyPost_ret (v := .tuple #[.agg ca, .int .i64 E4]) (results_c2 rfl _ _ w.heap.size 45 _ (0, 0) _ rfl hbb Tryz.underlying45 rfl (inf45c hNa) _ rfl) rfl ⟨_, _, rfl, hNa, ?_, ?_, HFF.out⟩
        · rcases hE4 with ⟨rfl, -⟩ | ⟨q, hq, h1, h2, h3, rfl⟩
          · exact .inl rfl
          · have hm := (mark_in h3 h2).2
            exact .inr ⟨_, rfl, by omega, hm.2⟩
        · refine ⟨fun q hq => ?_, fun he4 => ?_⟩
          rotate_left
          · refine trip_no HNE1.out HE2.out (HPa.out.imp (fun h => ⟨h.1, h.2.2⟩) (fun h => h.elim fun t h => h.elim fun q h => ⟨t, q, h.1, h.2.1⟩)) HE3.out ?_
            rcases hE4 with ⟨-, h⟩ | ⟨o, ho, h1, h2, h3, rfl⟩
            · exact h
            · omega
          refine ⟨⟨#[]⟩, HGa.out, fun _ => ?_, fun h => absurd rfl h⟩
          rcases hE4 with ⟨rfl, -⟩ | ⟨o, ho, h1, h2, h3, rfl⟩
          · omega
          · rcases HE3.out with ⟨rfl, -⟩ | ⟨e2, o2, he2, ho2, hne⟩
            · omega
            · obtain rfl : o = o2 := by omega
              have hE2 := HE2.out
              by_cases hd : (d : Int) > 40
              · rw [if_pos hd] at hE2
                omega
              · rw [if_neg hd] at hE2
                rcases HPa.out with h | ⟨t, q5, h, h5, h6, h7, h8, h9⟩
                · omega
                · obtain rfl : q5 = e2 := by omega
                  exact ⟨s0, t, q5, d, o, HNE1.out, h5, by omega, (h9.frF (Fr.refl _ _).drew).frB HBa.out (by decide) hfb, hne, h3, by omega⟩
      exact AllReadyH.nil
    exact AllReadyH.nil

section
variable {ops : Array Oper} {rest : List Oper} {op : Oper} {a : Act} {w : World} {Q : Exit → Act → World → Prop}
theorem wpList_append_H (hgd : op.guard = none) (s x : Operand) (t : TypeId) (ho : op.op = .call { callee := .builtin .append, args := #[s, x], argTypes := #[t, t] })
    (base : Nat) (e : TypeId) (z : Value) (size bytes : Nat) (ht : Tryz.prog.underlying t = some (.slice e)) (hi : (Tryz.prog.info? e).map (fun i => (i.zero, i.size, i.bytes)) = some (some z, size, bytes)) (hzs : z.cells.size = size) (hsz : 0 < size)
    (v : Value) (n : Nat) (xs : List Value) (hs : a.eval s = v) (hown : w.ownsRow base e size v n xs) (b : Nat) (cs : Array Value) (hx : a.eval x = .slice (some ⟨b, 0, none⟩) 1 1) (hb : Blk w b e cs) (hN : CellsN size cs) (h63 : n ≤ 10000) (hbytes : bytes ≤ 10000) (hbase : base ≤ w.heap.size)
    (h : Hid (∀ g cap w', w'.ownsRow base e size (.slice (some ⟨g, 0, none⟩) (n + 1) cap) (n + 1) (xs ++ cs.toList) → w.grownBy w' v.ownBlock → (v.ownBlock = some g ∨ g = w.heap.size) → wpList Tryz.prog ops Q rest (a.put op.dst (.slice (some ⟨g, 0, none⟩) (n + 1) cap)) w')) : wpList Tryz.prog ops Q (op :: rest) a w := by
 obtain ⟨i, hi1, hz1, hz2, hz3⟩ := info_parts hi
 refine wpList_append_lies _ hgd s x t ho base e i z size bytes ht hi1 hz1 hz2 hz3 hzs hsz v n xs hs hown ⟨b, 0, none⟩ 1 1 cs.toList hx (by simp [hN.sz]) (World.news_of_block hb) (fun u hu => Array.all_eq_true_iff_forall_mem.1 hN.one u (by simpa using hu)) (by decide) (by unfold maxLen; omega) ?_ hbase w.heap.size rfl (fun g cap w' h1 h2 h3 _ => h.out g cap w' h1 h2 h3)
 exact Nat.le_trans (Nat.mul_le_mul (by omega : n + 1 ≤ 10001) hbytes) (by decide)
theorem wpList_lit1H (hgd : op.guard = none) (t e : TypeId) (x : Operand) (ho : op.op = .buildSlice t 1 #[(0, x)]) (cs : Array Value) (hx : a.eval x = .agg cs) (hu : Tryz.prog.underlying t = some (.slice e)) (hsz : (Tryz.prog.info? e).map (·.size) = some cs.size) (hz : ((Tryz.prog.info? e).bind (·.zero)).isSome = true) (hsmall : cs.size ≤ 2 ^ 24) (hpos : 0 < cs.size)
    (h : Hid (∀ w', Blk w' w.heap.size e cs → Fr (fun _ => False) w w' → wpList Tryz.prog ops Q rest (a.put op.dst (.slice (some ⟨w.heap.size, 0, none⟩) 1 1)) w')) : wpList Tryz.prog ops Q (op :: rest) a w :=
 wpList_lit1 hgd t e x ho cs hx hu hsz hz hsmall hpos (fun w' hw => by subst hw; exact h.out _ (Blk.new w e cs) ((Fr.refl _ _).alloc _))
end
theorem infZ45 : (Tryz.prog.info? 45).map (fun i => (i.zero, i.size, i.bytes)) = some (some (.agg Z45), 33, 472) := by kernel_rfl
/-- The first item ends where the group does. -/
def GrpYes (rs : List Int) (J : World → Array Value → Int → Prop) (q0 : Nat) : Prop := markAt rs q0 ⟨#[125]⟩ = false ∧ ∃ x : Nat, (∀ w cs E, J w cs E → (E = -1 ∨ ∃ q : Nat, E = (q : Int)) → E = (x : Int)) ∧ markAt rs x ⟨#[125]⟩ = true
def GrpOk (rs : List Int) (J : World → Array Value → Int → Prop) (p inn : Nat) : Prop := markAt rs p ⟨#[123]⟩ = true ∧ inn < 40 ∧ GrpYes rs J (markTo rs p ⟨#[123]⟩)
/-- A group's items, as they grow. -/
structure GrpI (rs : List Int) (J : World → Array Value → Int → Prop) (w wr : World) (q0 b : Nat) (A : Option Addr) (n c : Nat) (xs : List Value) (E : Int) : Prop where
 row : wr.ownsRow (w.heap.size + 1) 45 33 (.slice A n c) n xs
 res : Blk wr w.heap.size 27 #[.slice none 0 0]
 cell : Blk wr b 27 #[.slice A n c]
 bw : w.heap.size < b
 fr : Fr (fun j => w.heap.size ≤ j) w wr
 n0 : n = 0 → E = (q0 : Int)
 le : E = -1 ∨ ∃ q : Nat, E = (q : Int) ∧ n + q0 ≤ q ∧ q ≤ rs.length
 sml : n ≤ 9000
 one : n = 1 → ∃ cs, xs = cs.toList ∧ CellsN 33 cs ∧ J wr cs E
 two : 2 ≤ n → ¬ GrpYes rs J q0
theorem GrpI.neg {rs : List Int} {J : World → Array Value → Int → Prop} {w wr : World} {q0 b n c : Nat} {A : Option Addr} {xs : List Value} (h : GrpI rs J w wr q0 b A n c xs (-1)) (y : GrpYes rs J q0) : False := by
 rcases (show n = 0 ∨ n = 1 ∨ 2 ≤ n by omega) with h0 | h1 | h2
 · have := h.n0 h0
   omega
 · obtain ⟨_, x, hx, _⟩ := y
   obtain ⟨cs, _, _, hJ⟩ := h.one h1
   have := hx _ _ _ hJ (.inl rfl)
   omega
 · exact h.two h2 y
theorem GrpI.end_ {rs : List Int} {J : World → Array Value → Int → Prop} {w wr : World} {q0 b n c q : Nat} {A : Option Addr} {xs : List Value} (h : GrpI rs J w wr q0 b A n c xs (q : Int)) (m : markAt rs q ⟨#[125]⟩ = true) (y : GrpYes rs J q0) : n = 1 := by
 rcases (show n = 0 ∨ n = 1 ∨ 2 ≤ n by omega) with h0 | h1 | h2
 · have h3 := h.n0 h0
   obtain rfl : q = q0 := by omega
   rw [y.1] at m
   cases m
 · exact h1
 · exact absurd y (h.two h2)
theorem GrpI.next {rs : List Int} {J : World → Array Value → Int → Prop} {w wr : World} {q0 b n c q : Nat} {A : Option Addr} {xs : List Value} (h : GrpI rs J w wr q0 b A n c xs (q : Int)) (m : markAt rs q ⟨#[125]⟩ = false) (h2 : 2 ≤ n + 1) : ¬ GrpYes rs J q0 := fun y => by
 by_cases h1 : n = 1
 · obtain ⟨_, x, hx, hm⟩ := y
   obtain ⟨cs, _, _, hJ⟩ := h.one h1
   have := hx _ _ _ hJ (.inr ⟨q, rfl⟩)
   obtain rfl : q = x := by omega
   rw [hm] at m
   cases m
 · exact h.two (by omega) y
def GrpW (rs : List Int) (p inn : Nat) (J : World → Array Value → Int → Prop) (w : World) (e : Ending) (w' : World) : Prop :=
 ∃ (A : Option Addr) (n c : Nat) (E : Int), e = .returned (.tuple #[.agg #[.slice A n c], .int .i64 E]) ∧ Beh rs p E ∧ Fr (fun _ => False) w w' ∧
  (∀ q : Nat, E = (q : Int) → n = 1 → ∃ (cs : Array Value) (i : Nat), w'.ownsRow w.heap.size 45 33 (.slice A 1 c) 1 cs.toList ∧ CellsN 33 cs ∧ J w' cs (i : Int) ∧ i ≤ rs.length ∧ markAt rs i ⟨#[125]⟩ = true ∧ q = markTo rs i ⟨#[125]⟩) ∧ (GrpOk rs J p inn → n = 1 ∧ ∃ q : Nat, E = (q : Int))
/-- What is told of an item stays, where no paths are written. -/
def Keeps (J : World → Array Value → Int → Prop) : Prop := ∀ (w w' : World) (cs : Array Value) (E : Int) (S : Nat → Prop), J w cs E → Fr S w w' → (∀ j ccs, Blk w j 39 ccs → ¬ S j) → J w' cs E
theorem own_lt {w : World} {base e size n k : Nat} {v : Value} {xs : List Value} (h : w.ownsRow base e size v n xs) (hk : v.ownBlock = some k) : k < w.heap.size := by
 rcases h.2 with ⟨rfl, _⟩ | ⟨g, cap, cur, rfl, hb, hh, _⟩
 · cases hk
 · injection hk with hk
   subst hk
   exact (Array.getElem?_eq_some_iff.1 hh).1
theorem own_len {w : World} {base e size n : Nat} {v : Value} {xs : List Value} (h : w.ownsRow base e size v n xs) : xs.length = n * size := h.1
theorem one27 (A : Option Addr) (n c : Nat) : (#[.slice A n c] : Array Value).all (·.oneCell') = true := all_oneCell_toArray (cs := [.slice A n c]) (by
 intro v hv
 rw [List.mem_singleton.1 hv]
 rfl)
theorem own_ge {w : World} {base e size n k : Nat} {v : Value} {xs : List Value} (h : w.ownsRow base e size v n xs) (hk : v.ownBlock = some k) : base ≤ k := by
 rcases h.2 with ⟨rfl, _⟩ | ⟨g, cap, cur, rfl, hb, hh, _⟩
 · cases hk
 · injection hk with hk
   subst hk
   exact hb

theorem rgroup_walk (J : World → Array Value → Int → Prop) (HJ : Keeps J) (g c p inn : Nat) (hin : inn ≤ 40) (rs : List Int) (w : World) (hl : rs.length ≤ 8100) (hv : ∀ r, r ∈ rs → signR r = true) (hp : p ≤ rs.length) (h : Ls w g c rs)
    (HI : ∀ (q : Nat) (w1 : World), w.heap.size ≤ w1.heap.size → p < q → q ≤ rs.length → inn < 40 → Ls w1 g c rs → Calls Tryz.prog 65 #[.slice (some ⟨g, 0, none⟩) rs.length c, .int .i64 (q : Int), .int .i64 ((inn : Int) + 1)] w1 (ItemW rs q (fun w' cs E => q = markTo rs p ⟨#[123]⟩ → J w' cs E) w1)) :
    Calls Tryz.prog 30 #[.slice (some ⟨g, 0, none⟩) rs.length c, .int .i64 (p : Int), .int .i64 (inn : Int)] w (GrpW rs p inn J w) := by
 have f0 : Fr (fun _ => False) w ((w.alloc (.cells #[.slice none 0 0] 27)).alloc (.cells #[.slice none 0 0] 27)) := ((Fr.refl _ _).alloc _).alloc _
 have HF1 := Lib.hid f0.up
 have HB1 := Lib.hid (show Blk ((w.alloc (.cells #[.slice none 0 0] 27)).alloc (.cells #[.slice none 0 0] 27)) w.heap.size 27 #[.slice none 0 0] from (Blk.new w 27 #[.slice none 0 0]).alloc _)
 have HG1 := Lib.hid (show Blk ((w.alloc (.cells #[.slice none 0 0] 27)).alloc (.cells #[.slice none 0 0] 27)) (w.heap.size + 1) 27 #[.slice none 0 0] by have h := Blk.new (w.alloc (.cells #[.slice none 0 0] 27)) 27 #[.slice none 0 0]; rw [show (w.alloc (.cells #[.slice none 0 0] 27)).heap.size = w.heap.size + 1 by simp] at h; exact h)
 have HLS := Lib.hid h
 have hm := rmark_any ⟨#[123]⟩ g c p rs _ (by decide) hl hv hp (h.frF f0)
 have HMK := Lib.hid (fun T q w1 (h1 : T.size ≤ 100) (h3 : q ≤ rs.length) (h4 : Ls w1 g c rs) => rmark_any T g c q rs w1 h1 hl hv h3 h4)
 have HMN := Lib.hid (fun T w1 => rmark_neg T (.slice (some ⟨g, 0, none⟩) rs.length c) w1)
 have HII := Lib.hid HI
 have HJJ := Lib.hid HJ
 unfold mkI at hm
 clear f0 h hv HI HJ
 cases h123 : markAt rs p ⟨#[123]⟩ with
 | false =>
  rw [h123, if_neg Bool.false_ne_true] at hm
  have HM := Lib.hid hm
  clear hm HII HMK HMN
  go_enter Tryz.func30, Tryz.ntmps30
  go_wp2_with fail
  refine HM.out.mono ?_
  rintro e w1 ⟨rfl, rfl⟩
  generalize ((w.alloc (.cells #[.slice none 0 0] 27)).alloc (.cells #[.slice none 0 0] 27)) = w1 at *
  have g0 : w1.cell? ⟨w.heap.size + 1, 0, none⟩ = some (.slice none 0 0) := HG1.out.cell 0
  have r0 : w1.cell? ⟨w.heap.size, 0, none⟩ = some (.slice none 0 0) := HB1.out.cell 0
  have z0 := HB1.out.frozen 0
  have HST := Lib.hid (HB1.out.set_ 0 (.slice none 0 0))
  have HFF := Lib.hid ((HF1.out.setCell ⟨w.heap.size, 0, none⟩ (fun _ => Nat.le_refl _) (.slice none 0 0)).shut (Nat.le_refl _))
  go_wp2_with fail
  exact bodyPost_ret (v := .tuple #[.agg #[.slice none 0 0], .int .i64 (-1)]) (results_c2 rfl _ _ w.heap.size 27 _ (0, 0) _ rfl HST.out Tryz.underlying27 rfl (by kernel_rfl) _ rfl) rfl ⟨_, _, _, _, rfl, .inl rfl, HFF.out, fun q h => by omega, fun h => by have h1 := h.1; rw [h123] at h1; cases h1⟩
 | true =>
  rw [h123, if_pos rfl] at hm
  have HM := Lib.hid hm
  have hmi := (mark_in h123 hp).2
  have HGO := Lib.hid (show GrpOk rs J p inn → GrpYes rs J (markTo rs p ⟨#[123]⟩) from fun h => h.2.2)
  clear hm h123
  generalize markTo rs p ⟨#[123]⟩ = q0 at *
  have hq00 : (0 : Int) ≤ (q0 : Int) := by omega
  by_cases h40 : inn = 40
  · subst h40
    clear HII HMK HMN
    go_enter Tryz.func30, Tryz.ntmps30
    go_wp2_with fail
    refine HM.out.mono ?_
    rintro e w1 ⟨rfl, rfl⟩
    generalize ((w.alloc (.cells #[.slice none 0 0] 27)).alloc (.cells #[.slice none 0 0] 27)) = w1 at *
    have g0 : w1.cell? ⟨w.heap.size + 1, 0, none⟩ = some (.slice none 0 0) := HG1.out.cell 0
    have r0 : w1.cell? ⟨w.heap.size, 0, none⟩ = some (.slice none 0 0) := HB1.out.cell 0
    have z0 := HB1.out.frozen 0
    have HST := Lib.hid (HB1.out.set_ 0 (.slice none 0 0))
    have HFF := Lib.hid ((HF1.out.setCell ⟨w.heap.size, 0, none⟩ (fun _ => Nat.le_refl _) (.slice none 0 0)).shut (Nat.le_refl _))
    go_wp2_with fail
    exact bodyPost_ret (v := .tuple #[.agg #[.slice none 0 0], .int .i64 (-1)]) (results_c2 rfl _ _ w.heap.size 27 _ (0, 0) _ rfl HST.out Tryz.underlying27 rfl (by kernel_rfl) _ rfl) rfl ⟨_, _, _, _, rfl, .inl rfl, HFF.out, fun q h => by omega, fun h => absurd h.2.1 (Nat.lt_irrefl _)⟩
  · have b40 : ((inn : Int) == 40) = false := by simp; omega
    have hi0 : (0 : Int) ≤ (inn : Int) := by omega
    have hi4 : (inn : Int) < 40 := by omega
    have hi5 : inn < 40 := by omega
    go_enter Tryz.func30, Tryz.ntmps30
    go_wp2_with fail
    refine HM.out.mono ?_
    rintro e w1 ⟨rfl, rfl⟩
    have hz1 : ((w.alloc (.cells #[.slice none 0 0] 27)).alloc (.cells #[.slice none 0 0] 27)).heap.size = w.heap.size + 2 := by simp
    generalize ((w.alloc (.cells #[.slice none 0 0] 27)).alloc (.cells #[.slice none 0 0] 27)) = w1 at *
    go_wp2_with fail
    go_loopg [9] (rs.length + 1) (fun gk a wr => ∃ (A : Option Addr) (n cp : Nat) (xs : List Value) (E : Int), a = .int .i64 E ∧ (∀ q : Nat, E = (q : Int) → rs.length + 1 ≤ q + gk) ∧ GrpI rs J w wr q0 (w.heap.size + 1) A n cp xs E)
    case atStart => exact ⟨none, 0, 0, [], (q0 : Int), rfl, fun q h => by omega, ⟨World.ownsRow_nil _ _ _ _, HB1.out, HG1.out, by omega, HF1.out, fun _ => rfl, .inr ⟨q0, rfl, by omega, hmi.2⟩, by omega, fun h => by omega, fun h => absurd h (by decide)⟩⟩
    case round =>
     obtain ⟨A, n, cp, xs, E, rfl, hms, hX⟩ := hrel
     clear HB1 HG1 HF1 HM
     have HX := Lib.hid hX
     have hle := hX.le
     have hsml := hX.sml
     have HMS := Lib.hid hms
     have g0 : wr.cell? ⟨w.heap.size + 1, 0, none⟩ = some (.slice A n cp) := hX.cell.cell 0
     have r0 : wr.cell? ⟨w.heap.size, 0, none⟩ = some (.slice none 0 0) := hX.res.cell 0
     have z0 := hX.res.frozen 0
     have hbl := hX.cell.lt
     have hrl := hX.res.lt
     clear hX hms
     rcases hle with rfl | ⟨q, rfl, hq1, hq2⟩
     · clear HII HMK
       have HMK := Lib.hid (HMN.out ⟨#[125]⟩ wr.drew)
       have HB4 := Lib.hid HX.out.res.drew
       have HX4 := Lib.hid HX.out.cell.drew
       have HF4 := Lib.hid HX.out.fr.drew
       clear HMN g0 r0 z0
       go_wp2_with fail
       refine wp_region_noPanic ?_
       refine wp_region_held_drew (S := fun wy => Blk wy (w.heap.size + 1) 27 #[.slice A n cp]) (by kernel_rfl) ?_ (fun hHeld => ?_)
       · try dsimp only
         exact HX4.out
       refine wpAnyH_take (i := 0) (oi := _) (v := _) (by simp only [List.getElem?_toArray, List.getElem?_cons_zero]; rfl) (by kernel_rfl) (by kernel_rfl) (by kernel_rfl) (fun _ _ _ h => h) (yieldsIf_load_blk (by rfl) 27 _ rfl _ rfl 27 _ (fun _ h => h) _ Tryz.underlying27 rfl (by kernel_rfl)) (by assumption) ?_
       try simp only [Act.put, List.setIfInBounds_toArray, List.set_cons_zero, List.set_cons_succ]
       refine wpAnyH_take (i := 1) (oi := _) (v := ?_) (by simp only [List.getElem?_toArray, List.getElem?_cons_zero, List.getElem?_cons_succ]; rfl) (by kernel_rfl) (by kernel_rfl) (by kernel_rfl) (fun _ _ _ h => h) (Or.inl ⟨by rfl, ?_⟩) (by assumption) ?_
       rotate_left
       · intro w hSw
         try dsimp only at hSw
         go_simp
         all_goals (with_reducible rfl)
       try simp only [Act.put, List.setIfInBounds_toArray, List.set_cons_zero, List.set_cons_succ]
       refine wpAnyH_take (i := 2) (oi := _) (v := ?_) (by simp only [List.getElem?_toArray, List.getElem?_cons_zero, List.getElem?_cons_succ]; rfl) (by kernel_rfl) (by kernel_rfl) (by kernel_rfl) (fun _ _ _ h => h) (Or.inl ⟨by rfl, ?_⟩) (by assumption) ?_
       rotate_left
       · intro w hSw
         try dsimp only at hSw
         go_simp
         all_goals (with_reducible rfl)
       try simp only [Act.put, List.setIfInBounds_toArray, List.set_cons_zero, List.set_cons_succ]
       refine wpAnyH_ready (rs := [3]) (by kernel_rfl) (by simp) ?_
       refine AllReadyH.cons (o := _) (by simp only [List.getElem?_toArray, List.getElem?_cons_zero, List.getElem?_cons_succ]; rfl) (fun K hK => ?_) ?_
       · skip
         go_simp
         go_at_call 27
         refine (HMK.out).mono ?_
         rintro e w1 ⟨rfl, rfl⟩
         refine hK.out _ _ ?_ (fun hHeld => ?_)
         · try dsimp only
           exact HX4.out
         clear hK K
         try simp only [Act.put, List.setIfInBounds_toArray, List.set_cons_zero, List.set_cons_succ]
         refine wpAnyH_ready (rs := [4]) (by kernel_rfl) (by simp) ?_
         refine AllReadyH.cons (o := _) (by simp only [List.getElem?_toArray, List.getElem?_cons_zero, List.getElem?_cons_succ]; rfl) (fun K hK => ?_) ?_
         · skip
           rw [if_pos (by rfl)]
           refine wp_store_blk 27 _ _ rfl _ _ rfl rfl 27 _ HB4.out rfl (by kernel_rfl) (one27 _ _ _) ?_
           rintro wb hbb hfb
           refine hK.out _ _ ?_ (fun hHeld => ?_)
           · try dsimp only
             exact HX4.out.oth hfb (by omega)
           clear hK K
           try simp only [Act.put]
           refine wpAnyH_take (i := 5) (oi := _) (v := ?_) (by simp only [List.getElem?_toArray, List.getElem?_cons_zero, List.getElem?_cons_succ]; rfl) (by kernel_rfl) (by kernel_rfl) (by kernel_rfl) (fun _ _ _ h => h) (Or.inl ⟨by rfl, ?_⟩) (by assumption) ?_
           rotate_left
           · intro w hSw
             try dsimp only at hSw
             go_simp
             all_goals (with_reducible rfl)
           try simp only [Act.put, List.setIfInBounds_toArray, List.set_cons_zero, List.set_cons_succ]
           refine wpAnyH_done (by kernel_rfl) ?_ _
           refine NoPanic.normal ?_
           have HFF := Lib.hid ((HF4.out.andX hfb (Nat.le_refl _)).shut (Nat.le_refl _))
           go_wp2_with fail
           refine bodyPost_ret (v := .tuple #[.agg #[.slice A n cp], .int .i64 (-1)]) (results_c2 rfl _ _ w.heap.size 27 _ (0, 0) _ rfl hbb Tryz.underlying27 rfl (by kernel_rfl) _ rfl) rfl ⟨_, _, _, _, rfl, ?_, HFF.out, ?_, fun h => (HX.out.neg (HGO.out h)).elim⟩
           · exact .inl rfl
           · exact fun q h => by omega
         exact AllReadyH.nil
       exact AllReadyH.nil
     · have hqn : (0 : Int) ≤ (q : Int) := by omega
       have hmk := HMK.out ⟨#[125]⟩ q wr (by decide) hq2 (HLS.out.up HX.out.fr)
       unfold mkI at hmk
       cases h125 : markAt rs q ⟨#[125]⟩ with
       | true =>
        rw [h125, if_pos rfl] at hmk
        have HM := Lib.hid hmk
        have hmk2 := HMK.out ⟨#[125]⟩ q wr.drew (by decide) hq2 ((HLS.out.up HX.out.fr).frF (Fr.refl _ _).drew)
        unfold mkI at hmk2
        rw [h125, if_pos rfl] at hmk2
        have hmi2 := (mark_in h125 hq2).2
        obtain ⟨qe, hqe⟩ : ∃ x, x = markTo rs q ⟨#[125]⟩ := ⟨_, rfl⟩
        rw [← hqe] at hmk2 hmi2 HM
        have HMK2 := Lib.hid hmk2
        have HQE := Lib.hid hqe
        have hqe0 : (0 : Int) ≤ (qe : Int) := by omega
        have HB4 := Lib.hid HX.out.res.drew
        have HX4 := Lib.hid HX.out.cell.drew
        have HF4 := Lib.hid HX.out.fr.drew
        clear HMN HMK HII g0 r0 z0 hmk hmk2 hqe
        go_wp2_with fail
        refine HM.out.mono ?_
        rintro e w4 ⟨rfl, rfl⟩
        go_wp2_with fail
        refine wp_region_noPanic ?_
        refine wp_region_held_drew (S := fun wy => Blk wy (w.heap.size + 1) 27 #[.slice A n cp]) (by kernel_rfl) ?_ (fun hHeld => ?_)
        · try dsimp only
          exact HX4.out
        refine wpAnyH_take (i := 0) (oi := _) (v := _) (by simp only [List.getElem?_toArray, List.getElem?_cons_zero]; rfl) (by kernel_rfl) (by kernel_rfl) (by kernel_rfl) (fun _ _ _ h => h) (yieldsIf_load_blk (by rfl) 27 _ rfl _ rfl 27 _ (fun _ h => h) _ Tryz.underlying27 rfl (by kernel_rfl)) (by assumption) ?_
        try simp only [Act.put, List.setIfInBounds_toArray, List.set_cons_zero, List.set_cons_succ]
        refine wpAnyH_take (i := 1) (oi := _) (v := ?_) (by simp only [List.getElem?_toArray, List.getElem?_cons_zero, List.getElem?_cons_succ]; rfl) (by kernel_rfl) (by kernel_rfl) (by kernel_rfl) (fun _ _ _ h => h) (Or.inl ⟨by rfl, ?_⟩) (by assumption) ?_
        rotate_left
        · intro w hSw
          try dsimp only at hSw
          go_simp
          all_goals (with_reducible rfl)
        try simp only [Act.put, List.setIfInBounds_toArray, List.set_cons_zero, List.set_cons_succ]
        refine wpAnyH_take (i := 2) (oi := _) (v := ?_) (by simp only [List.getElem?_toArray, List.getElem?_cons_zero, List.getElem?_cons_succ]; rfl) (by kernel_rfl) (by kernel_rfl) (by kernel_rfl) (fun _ _ _ h => h) (Or.inl ⟨by rfl, ?_⟩) (by assumption) ?_
        rotate_left
        · intro w hSw
          try dsimp only at hSw
          go_simp
          all_goals (with_reducible rfl)
        try simp only [Act.put, List.setIfInBounds_toArray, List.set_cons_zero, List.set_cons_succ]
        refine wpAnyH_ready (rs := [3]) (by kernel_rfl) (by simp) ?_
        refine AllReadyH.cons (o := _) (by simp only [List.getElem?_toArray, List.getElem?_cons_zero, List.getElem?_cons_succ]; rfl) (fun K hK => ?_) ?_
        · skip
          go_simp
          go_at_call 27
          refine (HMK2.out).mono ?_
          rintro e w1 ⟨rfl, rfl⟩
          refine hK.out _ _ ?_ (fun hHeld => ?_)
          · try dsimp only
            exact HX4.out
          clear hK K
          try simp only [Act.put, List.setIfInBounds_toArray, List.set_cons_zero, List.set_cons_succ]
          refine wpAnyH_ready (rs := [4]) (by kernel_rfl) (by simp) ?_
          refine AllReadyH.cons (o := _) (by simp only [List.getElem?_toArray, List.getElem?_cons_zero, List.getElem?_cons_succ]; rfl) (fun K hK => ?_) ?_
          · skip
            rw [if_pos (by rfl)]
            refine wp_store_blk 27 _ _ rfl _ _ rfl rfl 27 _ HB4.out rfl (by kernel_rfl) (one27 _ _ _) ?_
            rintro wb hbb hfb
            refine hK.out _ _ ?_ (fun hHeld => ?_)
            · try dsimp only
              exact HX4.out.oth hfb (by omega)
            clear hK K
            try simp only [Act.put]
            refine wpAnyH_take (i := 5) (oi := _) (v := ?_) (by simp only [List.getElem?_toArray, List.getElem?_cons_zero, List.getElem?_cons_succ]; rfl) (by kernel_rfl) (by kernel_rfl) (by kernel_rfl) (fun _ _ _ h => h) (Or.inl ⟨by rfl, ?_⟩) (by assumption) ?_
            rotate_left
            · intro w hSw
              try dsimp only at hSw
              go_simp
              all_goals (with_reducible rfl)
            try simp only [Act.put, List.setIfInBounds_toArray, List.set_cons_zero, List.set_cons_succ]
            refine wpAnyH_done (by kernel_rfl) ?_ _
            refine NoPanic.normal ?_
            have HFF := Lib.hid ((HF4.out.andX hfb (Nat.le_refl _)).shut (Nat.le_refl _))
            go_wp2_with fail
            refine bodyPost_ret (v := .tuple #[.agg #[.slice A n cp], .int .i64 qe]) (results_c2 rfl _ _ w.heap.size 27 _ (0, 0) _ rfl hbb Tryz.underlying27 rfl (by kernel_rfl) _ rfl) rfl ⟨_, _, _, _, rfl, ?_, HFF.out, ?_, fun h => ⟨HX.out.end_ h125 (HGO.out h), _, rfl⟩⟩
            · exact .inr ⟨qe, rfl, by omega, hmi2.2⟩
            · intro q9 h9 hn1
              obtain rfl : q9 = qe := by omega
              subst hn1
              obtain ⟨cs, rfl, hN, hJ⟩ := HX.out.one rfl
              refine ⟨cs, q, ?_, hN, ?_, hq2, h125, HQE.out⟩
              · exact ownsRow_base (ownsRow_fr HX.out.row ((Fr.refl _ _).drew.trans' hfb) (fun k hk e => own_blk_ne HX.out.row HX.out.res (by decide) (by rw [hk, e]))) (by omega)
              · exact HJJ.out _ _ _ _ _ hJ ((Fr.refl _ _).drew.trans' hfb) (fun j ccs hb e => Blk.ne_ hb HX.out.res (by decide) e)
          exact AllReadyH.nil
        exact AllReadyH.nil
       | false =>
        rw [h125, if_neg Bool.false_ne_true] at hmk
        have HM := Lib.hid hmk
        have HC := Lib.hid (HII.out q wr HX.out.fr.size (by omega) hq2 hi5 (HLS.out.up HX.out.fr))
        clear hmk HII HMK HMN
        go_wp2_with fail
        refine HM.out.mono ?_
        rintro e w4 ⟨rfl, rfl⟩
        go_wp2_with fail
        refine HC.out.mono ?_
        rintro e w5 ⟨cs, E1, rfl, hN, hB1, hJ1, hf5⟩
        have HF5 := Lib.hid hf5
        have HJ5 := Lib.hid hJ1
        clear hJ1 hf5 HC HM r0 g0 z0
        go_wp2_with ((with_reducible change wpList _ _ _ (Oper.mk _ (.alloc 45) _ _ _ _ :: _) _ _); refine wpList_alloc_blk rfl 45 rfl Z45 infz45 ?_)
        refine Lib.hid ?_
        rintro w6 z6 HZ6 HY6 HF6 hs6
        have hz6 : z6.size = 33 := by rw [HZ6.out]; rfl
        have HF56 := Lib.hid (HF5.out.trans' HF6.out)
        have HF66 := Lib.hid HF6.out
        have HY66 := Lib.hid HY6.out
        clear HZ6 HF6
        go_wp2_with ((with_reducible change wpList _ _ _ (Oper.mk _ (.store 45 _ _) _ _ _ _ :: _) _ _); refine wpList_store_blkH rfl 45 _ _ rfl _ _ rfl rfl 45 _ HY6.out (by rw [hN.sz, hz6]) (inf45c hN) (hN.one) ?_)
        refine Lib.hid ?_
        rintro w7 hy7 hf7
        have hsz5 := HF5.out.size
        have hb7 := (HX.out.cell.fr HF56.out (fun h => h)).oth hf7 (by omega)
        have hl7 := hb7.lt
        have g7 : w7.cell? ⟨w.heap.size + 1, 0, none⟩ = some (.slice A n cp) := hb7.cell 0
        have HY7 := Lib.hid hy7
        have HF7 := Lib.hid hf7
        clear hf7 hb7 hy7
        go_wp2_with (first | ((with_reducible change wpList _ _ _ (Oper.mk _ (.load 45 _) _ _ _ _ :: _) _ _); refine wpList_load_blk rfl 45 _ rfl _ rfl 45 _ HY7.out _ Tryz.underlying45 rfl (inf45c hN) ?_) | ((with_reducible change wpList _ _ _ (Oper.mk _ (.buildSlice 25 1 _) _ _ _ _ :: _) _ _); refine wpList_lit1H rfl 25 45 _ rfl cs rfl Tryz.underlying25 (inf45c hN) zer45 (by rw [hN.sz]; decide) (by rw [hN.sz]; decide) ?_))
        refine Lib.hid ?_
        rintro w8 hl8 hf8
        have HL8 := Lib.hid hl8
        have HF8 := Lib.hid hf8
        have hown := ((ownsRow_fr (ownsRow_fr HX.out.row HF56.out (fun _ _ h => h)) HF7.out (fun k hk e => by have := own_lt HX.out.row hk; omega))) 
        have HR8 := Lib.hid (ownsRow_fr hown hf8 (fun _ _ h => h))
        have hw8 : w.heap.size + 1 ≤ w8.heap.size := by have := hf8.size; omega
        clear hown hl8 hf8 g7
        go_wp2_with (at_builtin; refine wpList_append_H rfl _ _ 25 rfl (w.heap.size + 1) 45 (.agg Z45) 33 472 Tryz.underlying25 infZ45 rfl (by decide) (.slice A n cp) n xs rfl HR8.out w7.heap.size cs rfl HL8.out hN (by omega) (by decide) (by omega) ?_)
        refine Lib.hid ?_
        rintro g1 cap1 w9 ho9 hgrow hor
        have hg8 := ((HX.out.cell.fr HF56.out (fun h => h)).oth HF7.out (by omega)).fr HF8.out (fun h => h)
        have hr8 := ((HX.out.res.fr HF56.out (fun h => h)).oth HF7.out (by omega)).fr HF8.out (fun h => h)
        have hgr := Fr.of_grown hgrow
        have hg9 := hg8.fr hgr (own_blk_ne HR8.out hg8 (by decide))
        have hr9 := hr8.fr hgr (own_blk_ne HR8.out hr8 (by decide))
        have g9 : w9.cell? ⟨w.heap.size + 1, 0, none⟩ = some (.slice A n cp) := hg9.cell 0
        have z9 := hg9.frozen 0
        have HG9 := Lib.hid (hg9.set_ 0 (.slice (some ⟨g1, 0, none⟩) (n + 1) cap1))
        have hf10 := (Fr.refl (fun j => j = w.heap.size + 1) w9).setCell ⟨w.heap.size + 1, 0, none⟩ (fun _ => rfl) (.slice (some ⟨g1, 0, none⟩) (n + 1) cap1)
        have HO10 := Lib.hid (ownsRow_fr ho9 hf10 (fun k hk e => own_blk_ne ho9 hg9 (by decide) (by rw [hk, e])))
        have HR10 := Lib.hid (hr9.oth hf10 (by omega))
        have HF10 := Lib.hid ((((((HX.out.fr.andF HF56.out).andX HF7.out (by have := HX.out.fr.size; omega)).andF HF8.out).trans hgr (fun j hj e => absurd hj (by
         have := own_ge HR8.out e
         omega))).andX hf10 (by omega)))
        have HJ10 := Lib.hid (show n = 0 → J (w9.setCell ⟨w.heap.size + 1, 0, none⟩ (.slice (some ⟨g1, 0, none⟩) (n + 1) cap1)) cs E1 from fun h0 => by
         have e0 := HX.out.n0 h0
         have j5 := HJ5.out (by omega)
         have j6 := HJJ.out _ _ _ _ _ j5 HF66.out (fun _ _ _ h => h)
         have j7 := HJJ.out _ _ _ _ _ j6 HF7.out (fun j ccs hb e => by
          have h1 := hb
          rw [e] at h1
          exact Blk.ne_ h1 HY66.out (by decide) rfl)
         have j8 := HJJ.out _ _ _ _ _ j7 HF8.out (fun _ _ _ h => h)
         have j9 := HJJ.out _ _ _ _ _ j8 hgr (fun j ccs hb => own_blk_ne HR8.out hb (by decide))
         exact HJJ.out _ _ _ _ _ j9 hf10 (fun j ccs hb e => Blk.ne_ hb hg9 (by decide) e))
        have hwx := HX.out.fr.size
        clear hg8 hr8 hgr hg9 hr9 hf10 ho9 hgrow hor
        go_wp2_with fail
        go_roundg (rs.length - q)
        case measure => have := HMS.out q rfl; omega
        case rel =>
         refine ⟨_, n + 1, cap1, xs ++ cs.toList, E1, rfl, fun q3 h3 => ?_, ⟨HO10.out, HR10.out, HG9.out, by omega, HF10.out, fun h => by omega, ?_, by omega, fun h => ?_, HX.out.next h125⟩⟩
         · rcases hB1 with h | ⟨q4, h, h5, h6⟩
           · omega
           · omega
         · rcases hB1 with h | ⟨q4, h, h5, h6⟩
           · exact .inl h
           · exact .inr ⟨q4, h, by omega, h6⟩
         · have hn0 : n = 0 := by omega
           have hlen := own_len HX.out.row
           rw [hn0] at hlen
           have : xs = [] := List.eq_nil_of_length_eq_zero (by omega)
           exact ⟨cs, by rw [this]; rfl, hN, HJ10.out hn0⟩

end Go.Proofs.YtagchljgmjmlcaaGreatDoor
