/- The law: walked. -/
import Derived.Test.YtebddgdkndmpjaaGreatDoorFyB
import Derived.Test.YtebddgdkndmpjaaGreatDoorFyC
import Derived.Test.YtebddgdkndmpjaaGreatDoorBx
import Derived.Deep.CutBlock
import Derived.Deep.RegionLawGrows
import Derived.Deep.Cut
import Derived.Deep.CutRange
import Derived.WalkKit
import Derived.WalkLawsBesides
import Derived.WalkSpells
import Derived.Deep.QuietTactic
import Derived.BigRegion
import Derived.BigQuiet
import Derived.Lib.Hide
import Derived.Outline
import Derived.Deep.AppendLies
import Derived.Deep.RegionLaw
import Derived.Deep.RegionWith
import Derived.Deep.RegionHeld3
import Derived.Deep.LoopGhost
import Derived.Deep.DeepFit
import Derived.Laws.ResultCell
import Derived.Laws.RangeAny
import Derived.Deep.MidRow
import Derived.StillTailTactics
import Derived.OpenShut
namespace Go.Proofs.YtebddgdkndmpjaaGreatDoor
set_option linter.unusedVariables false
open Go.RowKit Go

/-- A term, read by the document. -/
theorem rread_any (g c p : Nat) (rs : List Int) (w : World) (hl : rs.length ≤ 1000) (hv : ∀ r, r ∈ rs → signR r = true) (hp : p ≤ rs.length) (h : Ls w g c rs) :
    Calls Tryz.prog 12 #[.slice (some ⟨g, 0, none⟩) rs.length c, .int .i64 (p : Int)] w (ReadPost (docE rs p) w) := by
  by_cases h60 : peekOf rs p = 60
  · exact rread_60 g c p rs w hl hv hp h h60
  · by_cases h95 : peekOf rs p = 95
    · exact rread_95 g c p rs w hl hv hp h h60 h95
    · by_cases h34 : peekOf rs p = 34
      · by_cases hq : (quotR rs p).1 = none ∨ (peekOf rs (quotR rs p).2 = 94 ∧ peekOf rs ((quotR rs p).2 + 1) = 94)
        · exact rread_34a g c p rs w hl hv hp h h60 h95 h34 hq
        · exact rread_34b g c p rs w hl hv hp h h60 h95 h34 hq
      · exact rread_no g c p rs w hl hv hp h h60 h95 h34

/-- Where the document tells an error, the program's place and error are the document's. -/
theorem docE_readR (rs : List Int) (p : Nat) (h : (docE rs p).2 ≠ 0) : readR rs p = docE rs p := by
  have hf := doc_form rs p
  unfold docE at h ⊢
  unfold readR
  generalize docR rs p = dr at *
  generalize formR rs p = fr at *
  obtain ⟨xo, q⟩ := dr
  obtain ⟨ft, q2⟩ := fr
  obtain ⟨h1, h2⟩ := hf
  dsimp only at h1 h2
  subst h1 h2
  cases xo with
  | none => rfl
  | some x =>
    dsimp only [Option.map] at h ⊢
    by_cases hg : rGood x = true
    · rw [if_pos hg] at h
      exact absurd rfl h
    · rw [if_neg hg, if_neg (fun e => hg (good_back x e))]

theorem readR_le (rs : List Int) (p : Nat) (hv : ∀ r, r ∈ rs → signR r = true) (hs : rs.length ≤ 1000) (hp : p ≤ rs.length) : (readR rs p).1 ≤ rs.length := by
  have h := (form_short hv hs hp).2
  unfold readR
  generalize formR rs p = fr at *
  obtain ⟨fo, q⟩ := fr
  cases fo with
  | none => exact h
  | some t =>
    dsimp only at h ⊢
    split
    · exact h
    · exact hp

set_option maxRecDepth 100000 in
set_option maxHeartbeats 8000000 in
/-- The law, behind what the document reads. -/
theorem faultsIn_any (s : ByteArray) (x : Int) (xs : List Int) (w : World) (hb : s.size ≤ 300) (hg : Sg w) (he : Es w) (hok : (rSigns s).2 = true) (hl : (rSigns s).1 = x :: xs) (hx : x = 60 ∨ x = 95 ∨ x = 34) : Calls Tryz.prog 4 #[.string s] w (IsB true w) := by
  obtain ⟨e1, e2, e3, e4⟩ := signs_runes s _ 0 [] (Nat.le_refl _) hok
  have hrs : runesFrom s 0 = x :: xs := by
    rw [← hl]
    unfold rSigns
    rw [e1]
    rfl
  rw [hrs] at e3
  have hT : Text s (x :: xs) := ⟨hrs, e2, e3, Nat.succ_pos _⟩
  have hlen := hT.le
  have hpk : peekOf (x :: xs) 0 = x := rfl
  have HA := Lib.hid (awake9_any w hg)
  have hsg := fun w1 => signs_any s w1 (by omega)
  unfold SignsPost at hsg
  rw [hl, hok] at hsg
  have HSG := Lib.hid hsg
  have HRD := Lib.hid (fun g c w1 h1 => rread_any g c 0 (x :: xs) w1 (by omega) hT.signs (Nat.zero_le _) h1)
  have HPB := fun w1 (hf : Fr (fun _ => False) w w1) hbd => pexpr_bad s (x :: xs) w1 hT (by omega) (by rw [hpk]; exact hx) hbd (he.frF hf)
  have hde := docE_readR (x :: xs) 0
  have hle := readR_le (x :: xs) 0 hT.signs (by omega) (Nat.zero_le _)
  have HLN := Lib.hid (fun w1 => len_any s (x :: xs) w1 hT (by omega))
  unfold ReadPost at HRD
  have hb' : ¬ ((s.size : Int) > 300) := by omega
  have hn0 : ¬ ((x :: xs).length = 0) := Nat.succ_ne_zero _
  have hg2 : (x != 60 && (x != 95 && x != 34)) = false := by
    rcases hx with rfl | rfl | rfl <;> rfl
  generalize hrl : (x :: xs).length = n at *
  have hn1 : 0 < n := by omega
  have HHL := Lib.hid hrl
  generalize hde0 : docE (x :: xs) 0 = de at *
  generalize readR (x :: xs) 0 = rr at *
  clear hrs e1 e2 e3 e4 hT hg he hok hl hsg hde0
  obtain ⟨pl, co⟩ := de
  by_cases hco : co = 0
  · have hc1 : (co == 0) = true := by simpa using hco
    have HF0 := Lib.hid (Fr.refl (fun _ => False) w)
    clear hde hle HPB hco hb
    rcases hx with rfl | rfl | rfl
    all_goals
      go_enter Tryz.func4, Tryz.ntmps4
      go_wp2_with fail
      refine HA.out.mono ?_
      rintro e w1 ⟨rfl, hf1⟩
      go_wp2_with fail
      refine (HSG.out w1).mono ?_
      rintro e w2 ⟨A, c, rfl, hrow, _, hf2⟩
      obtain ⟨g, rfl, _, _, hnc⟩ := row_form hrow hn1
      have hr0 := ownsRow_base hrow (Nat.zero_le _)
      have c0 := World.ownsRow.cellAt hr0 0 (by omega)
      simp only [List.map_cons, List.getElem?_cons_zero] at c0
      have HX := Lib.hid (HRD.out g c w2 (by unfold Ls; rw [HHL.out]; exact hr0))
      have HF2 := Lib.hid (hf1.trans' hf2)
      clear hrow hr0 hf1 hf2
      go_wp2_with fail
      refine HX.out.mono ?_
      rintro e w3 ⟨⟨k, a, b, d, rfl⟩, hf3⟩
      have HF3 := Lib.hid (HF2.out.trans' hf3)
      clear hf3
      go_wp2_with fail
      go_ret
      exact ⟨rfl, HF3.out.alloc _⟩
  · obtain rfl := hde hco
    have hc1 : (co == 0) = false := by simpa using hco
    have hle1 : pl ≤ n := hle
    have hle2 : decide (pl ≤ n) = true := decide_eq_true hle1
    have HPB2 := Lib.hid (fun w1 hf => HPB w1 hf hco)
    clear hde hle HPB hco hb
    rcases hx with rfl | rfl | rfl
    all_goals
      go_enter Tryz.func4, Tryz.ntmps4
      go_wp2_with fail
      refine HA.out.mono ?_
      rintro e w1 ⟨rfl, hf1⟩
      go_wp2_with fail
      refine (HSG.out w1).mono ?_
      rintro e w2 ⟨A, c, rfl, hrow, _, hf2⟩
      obtain ⟨g, rfl, _, _, hnc⟩ := row_form hrow hn1
      have hr0 := ownsRow_base hrow (Nat.zero_le _)
      have c0 := World.ownsRow.cellAt hr0 0 (by omega)
      simp only [List.map_cons, List.getElem?_cons_zero] at c0
      have HX := Lib.hid (HRD.out g c w2 (by unfold Ls; rw [HHL.out]; exact hr0))
      have HF2 := Lib.hid (hf1.trans' hf2)
      clear hrow hr0 hf1 hf2
      go_wp2_with fail
      refine HX.out.mono ?_
      rintro e w3 ⟨⟨k, a, b, d, rfl⟩, hf3⟩
      have HF3 := Lib.hid ((HF2.out.trans' hf3).alloc (.cells #[.int .i64 k, .string a, .string b, .string d] 52))
      clear hf3
      go_wp2_with fail
      have HY := Lib.hid (HPB2.out _ HF3.out)
      refine HY.out.mono ?_
      rintro e w4 ⟨rfl, hf4⟩
      have HF4 := Lib.hid ((HF3.out.trans' hf4).alloc (.cells #[.string ⟨#[]⟩, .string ⟨#[]⟩, .nilIface, .slice none 0 0] 43))
      clear hf4
      go_wp2_with fail
      refine (HLN.out _).mono ?_
      rintro e w5 ⟨rfl, hf5⟩
      have HF5 := Lib.hid (HF4.out.trans' hf5)
      clear hf5
      go_wp2_with fail
      go_ret
      exact ⟨rfl, HF5.out⟩

set_option maxRecDepth 100000 in
set_option maxHeartbeats 8000000 in
/-- The law. -/
theorem faultsLaw_any (s : ByteArray) (w : World) (hs : s.size ≤ maxLen) (hg : Sg w) (he : Es w) : Calls Tryz.prog 4 #[.string s] w (IsB true w) := by
  unfold maxLen at hs
  have HA := Lib.hid (fun w1 (hf : Fr (fun _ => False) w w1) => awake9_any w1 (hg.frF hf))
  have HF0 := Lib.hid (Fr.refl (fun _ => False) w)
  by_cases hb : s.size ≤ 300
  · have hsg := fun w1 => signs_any s w1 (by omega)
    unfold SignsPost at hsg
    have hb' : ¬ ((s.size : Int) > 300) := by omega
    cases hok : (rSigns s).2 with
    | false =>
      rw [hok] at hsg
      have HSG := Lib.hid hsg
      generalize (rSigns s).1 = l at *
      generalize l.length = n at *
      clear hsg hg he hok hb
      go_enter Tryz.func4, Tryz.ntmps4
      go_wp2_with fail
      refine (HA.out w HF0.out).mono ?_
      rintro e w1 ⟨rfl, hf1⟩
      go_wp2_with fail
      refine (HSG.out w1).mono ?_
      rintro e w2 ⟨A, c, rfl, hrow, _, hf2⟩
      have HF2 := Lib.hid (hf1.trans' hf2)
      clear hrow hf1 hf2
      go_wp2_with fail
      go_ret
      exact ⟨rfl, HF2.out⟩
    | true =>
      cases hl : (rSigns s).1 with
      | nil =>
        rw [hok, hl] at hsg
        have HSG := Lib.hid hsg
        clear hsg hg he hok hb hl
        go_enter Tryz.func4, Tryz.ntmps4
        go_wp2_with fail
        refine (HA.out w HF0.out).mono ?_
        rintro e w1 ⟨rfl, hf1⟩
        go_wp2_with fail
        refine (HSG.out w1).mono ?_
        rintro e w2 ⟨A, c, rfl, hrow, _, hf2⟩
        have HF2 := Lib.hid (hf1.trans' hf2)
        clear hrow hf1 hf2
        go_wp2_with fail
        go_ret
        exact ⟨rfl, HF2.out⟩
      | cons x xs =>
        by_cases hx : x = 60 ∨ x = 95 ∨ x = 34
        · exact faultsIn_any s x xs w hb hg he hok hl hx
        · have x1 : (x != 60) = true := by simpa using fun e => hx (.inl e)
          have x2 : (x != 95) = true := by simpa using fun e => hx (.inr (.inl e))
          have x3 : (x != 34) = true := by simpa using fun e => hx (.inr (.inr e))
          rw [hok, hl] at hsg
          have HSG := Lib.hid hsg
          have hn0 : ¬ ((x :: xs).length = 0) := Nat.succ_ne_zero _
          generalize hrl : (x :: xs).length = n at *
          have hn1 : 0 < n := by omega
          have HHL := Lib.hid hrl
          clear hsg hg he hok hb hl hrl hx
          go_enter Tryz.func4, Tryz.ntmps4
          go_wp2_with fail
          refine (HA.out w HF0.out).mono ?_
          rintro e w1 ⟨rfl, hf1⟩
          go_wp2_with fail
          refine (HSG.out w1).mono ?_
          rintro e w2 ⟨A, c, rfl, hrow, _, hf2⟩
          obtain ⟨g, rfl, _, _, hnc⟩ := row_form hrow hn1
          have c0 := World.ownsRow.cellAt hrow 0 (by omega)
          simp only [List.map_cons, List.getElem?_cons_zero] at c0
          have HF2 := Lib.hid (hf1.trans' hf2)
          clear hrow hf1 hf2
          go_wp2_with fail
          go_ret
          exact ⟨rfl, HF2.out⟩
  · have hb' : ((s.size : Int) > 300) := by omega
    clear hg he hb
    go_enter Tryz.func4, Tryz.ntmps4
    go_wp2_with fail
    refine (HA.out w HF0.out).mono ?_
    rintro e w1 ⟨rfl, hf1⟩
    have HF1 := Lib.hid hf1
    clear hf1
    go_wp2_with fail
    refine (HA.out w1 HF1.out).mono ?_
    rintro e w2 ⟨rfl, hf2⟩
    have HF2 := Lib.hid (HF1.out.trans' hf2)
    clear hf2
    go_wp2_with fail
    go_ret
    exact ⟨rfl, HF2.out⟩

end Go.Proofs.YtebddgdkndmpjaaGreatDoor
