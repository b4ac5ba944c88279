/- Integers in texts and terms: walked. -/
import Derived.Test.YtflhmieeidnpgaaGreatDoorHm
import Derived.Deep.CutBlock
import Derived.Deep.RegionLawGrows
import Derived.Deep.Cut
import Derived.Deep.CutRange
import Derived.WalkKit
import Derived.WalkLawsBesides
import Derived.WalkSpells
import Derived.Deep.QuietTactic
import Derived.BigRegion
import Derived.BigQuiet
import Derived.Lib.Hide
import Derived.Outline
import Derived.Deep.AppendLies
import Derived.Deep.RegionLaw
import Derived.Deep.RegionWith
import Derived.Deep.RegionHeld3
import Derived.Deep.LoopGhost
import Derived.Deep.DeepFit
import Derived.Laws.ResultCell
import Derived.Laws.RangeAny
import Derived.Deep.MidRow
import Derived.StillTailTactics
import Derived.OpenShut
namespace Go.Proofs.YtflhmieeidnpgaaGreatDoor
set_option linter.unusedVariables false
open Go.RowKit Go


theorem Fr.of_below0 {w w' : World} (h : Below w.heap.size w w') : Fr (fun _ => False) w w' := Fr.of_below h _
/-- The library's variables that are read. -/
structure Glob (w : World) : Prop where
  err : ∃ tp p, w.var? Tryz.prog "strconv.ErrRange" = some #[.iface tp p]
  tab : Lib.TabIs Tryz.prog w "internal/strconv.uint64pow10" .u64 Lib.pow10Tab
theorem var_fr {w w' : World} {n : String} {cs : Array Value} (hf : Fr (fun _ => False) w w') (h : w.var? Tryz.prog n = some cs) : w'.var? Tryz.prog n = some cs := by
  unfold World.var? at h ⊢
  cases hg : Tryz.prog.globalNamed n with
  | none =>
    rw [hg] at h
    cases h
  | some g =>
    rw [hg] at h
    simp only [Option.bind_some] at h ⊢
    have hl : g < w.heap.size := by
      rcases Nat.lt_or_ge g w.heap.size with h1 | h1
      · exact h1
      · rw [Array.getElem?_eq_none h1] at h
        cases h
    rw [hf.block g hl (fun h => h)]
    exact h
theorem Glob.fr {w w' : World} (h : Glob w) (hf : Fr (fun _ => False) w w') : Glob w' := by
  obtain ⟨tp, p, h1⟩ := h.err
  exact ⟨⟨tp, p, var_fr hf h1⟩, var_fr hf h.tab⟩

set_option maxHeartbeats 1000000 in
theorem off79 (x : Nat) (w : World) (hx : x ≤ 1114111) : Calls Tryz.prog 79 #[.int .i32 x] w fun e w' => e = .returned (.bool (offB x)) ∧ ∃ q, w' = w.drewN q := by
  unfold offB
  by_cases h1 : x < 48
  · have h1' : (x : Int) < 48 := by omega
    rw [decide_eq_true h1]
    go_enter Tryz.func79, Tryz.ntmps79
    go_wp2_with fail
    go_ret
    exact ⟨rfl, 0, rfl⟩
  · have h1' : ¬ (x : Int) < 48 := by omega
    rw [decide_eq_false h1]
    by_cases h2 : 57 < x
    · have h2' : (57 : Int) < x := by omega
      rw [decide_eq_true h2]
      go_enter Tryz.func79, Tryz.ntmps79
      go_wp2_with fail
      go_ret
      exact ⟨rfl, 0, rfl⟩
    · have h2' : ¬ (57 : Int) < x := by omega
      rw [decide_eq_false h2]
      go_enter Tryz.func79, Tryz.ntmps79
      go_wp2_with fail
      go_ret
      exact ⟨rfl, 0, rfl⟩
theorem enters79 : ∀ args w, (callFunc 79 args).run Tryz.prog w = .ok (.enter 79 args) w := fun args w => by kernel_rfl
theorem idx78 (s : ByteArray) (w : World) : Calls Tryz.prog 78 #[.string s, .func (.func 79) #[] #[]] w fun e w' => e = .returned (.int .i64 (Lib.idxFunc offB true s)) ∧ Fr (fun _ => False) w w' :=
  (Tryz.strings_IndexFunc_runes 79 #[] enters79 offB s w (fun W x hx _ => off79 x W hx)).mono fun _ _ h => ⟨h.1, Fr.of_below0 h.2⟩
theorem parseOk (s : ByteArray) (v : Int) (h : Lib.parseIntB 64 s.data.toList = .ok v) (hs : s.size ≤ 4096) (w : World) : Calls Tryz.prog 80 #[.string s, .int .i64 10, .int .i64 64] w fun e w' => e = .returned (.tuple #[.int .i64 v, .nilIface]) ∧ Fr (fun _ => False) w w' :=
  (Tryz.strconv_ParseInt_10_at64_ok s (by omega) v h w).mono fun _ _ h => ⟨h.1, by
    rcases h.2 with rfl | ⟨t, rfl⟩
    · exact Fr.refl _ _
    · exact Fr.of_below0 (Lib.bytesWorld_below _ _ _)⟩
theorem parseRange (s : ByteArray) (h : Lib.parseIntB 64 s.data.toList = .range) (hs : s.size ≤ 4096) (w : World) (hg : Glob w) : Calls Tryz.prog 80 #[.string s, .int .i64 10, .int .i64 64] w fun e w' => (∃ v N, e = .returned (.tuple #[.int .i64 v, .iface 167 (.pointer (some ⟨N, 0, none⟩))])) ∧ Fr (fun _ => False) w w' := by
  obtain ⟨tp, p, he⟩ := hg.err
  exact (Tryz.strconv_ParseInt_10_at64_range_var s (by omega) h tp p w he).mono fun _ _ h => by
    obtain ⟨N, h1, _, _, h2⟩ := h
    exact ⟨⟨_, N, h1⟩, Fr.of_below0 h2⟩

theorem list_ne {s : ByteArray} (h : s.data.toList ≠ []) : 0 < s.size := by
  rcases Nat.eq_zero_or_pos s.size with h1 | h1
  · exact absurd (List.eq_nil_of_length_eq_zero (by simpa using h1)) h
  · exact h1
theorem toList_emp {s : ByteArray} : s.toList.isEmpty = s.data.toList.isEmpty := by rw [Lib.toList_data]
theorem unsign_yes {s : ByteArray} (hp : 0 < s.size) (h : (s[0]'hp).toNat = 43 ∨ (s[0]'hp).toNat = 45) : unsign s.data.toList = (s.extract 1 s.size).data.toList := by
  have e : (s.extract 1 s.size).data.toList = s.data.toList.drop 1 := by
    rw [← Lib.toList_data, Lib.extract_toList]
    rw [List.take_of_length_le (by simp)]
  rw [e]
  cases hl : s.data.toList with
  | nil => rfl
  | cons c r =>
    have hc : s[0]'hp = c := by
      have h1 : (s[0]'hp) = s.data.toList[0]'(by simpa using hp) := by simp; rfl
      rw [h1]
      simp [hl]
    rw [hc] at h
    show (if c.toNat = 43 ∨ c.toNat = 45 then r else c :: r) = r
    rw [if_pos h]
theorem unsign_no {s : ByteArray} (hp : 0 < s.size) (h : ¬ ((s[0]'hp).toNat = 43 ∨ (s[0]'hp).toNat = 45)) : unsign s.data.toList = s.data.toList := by
  cases hl : s.data.toList with
  | nil => rfl
  | cons c r =>
    have hc : s[0]'hp = c := by
      have h1 : (s[0]'hp) = s.data.toList[0]'(by simpa using hp) := by simp; rfl
      rw [h1]
      simp [hl]
    rw [hc] at h
    show (if c.toNat = 43 ∨ c.toNat = 45 then r else c :: r) = c :: r
    rw [if_neg h]
theorem vParse_none {l : List UInt8} (h : unsign l = [] ∨ digB (unsign l) = false) : vParse l = (0, 1) := by
  unfold vParse
  rw [if_pos h]
theorem vParse_ok {l : List UInt8} {v : Int} (h1 : unsign l ≠ []) (h2 : digB (unsign l) = true) (h : Lib.parseIntB 64 l = .ok v) : vParse l = (v, 0) := by
  unfold vParse
  rw [if_neg (by rw [h2]; simp [h1]), h]
theorem vParse_range {l : List UInt8} (h1 : unsign l ≠ []) (h2 : digB (unsign l) = true) (h : Lib.parseIntB 64 l = .range) : vParse l = (0, 9) := by
  unfold vParse
  rw [if_neg (by rw [h2]; simp [h1]), h]
set_option maxRecDepth 100000 in
set_option maxHeartbeats 4000000 in
theorem parse_any (s : ByteArray) (hs : s.size ≤ 4096) (w : World) (hg : Glob w) : Calls Tryz.prog 49 #[.string s] w fun e w' => e = .returned (.tuple #[.int .i64 (vParse s.data.toList).1, .int .i64 (vParse s.data.toList).2]) ∧ Fr (fun _ => False) w w' := by
  have HG := Lib.hid hg
  clear hg
  by_cases h0 : s.data.toList = []
  · have h1 : s.toList.isEmpty = true := by rw [toList_emp, h0]; rfl
    have h2 : vParse s.data.toList = (0, 1) := by rw [h0]; rfl
    rw [h2]
    have h3 : s.toList = [] := by rw [Lib.toList_data]; exact h0
    have h4 : (!s.toList.isEmpty) = false := by rw [h1]; rfl
    clear h0 h2
    go_enter Tryz.func49, Tryz.ntmps49
    go_wp2_with fail
    go_ret2
    exact ⟨rfl, Fr.refl _ _⟩
  · have hp := list_ne h0
    have h1 : s.toList.isEmpty = false := by
      rw [toList_emp]
      cases hl : s.data.toList with
      | nil => exact absurd hl h0
      | cons c r => rfl
    have h4 : (!s.toList.isEmpty) = true := by rw [h1]; rfl
    have hp' : (0 : Int) < (s.size : Int) := by omega
    have hs3 : ¬ s.toList = [] := by rw [Lib.toList_data]; exact h0
    have HNE := Lib.hid h0
    have HPA := Lib.hid (fun d w => idx78 d w)
    have HOK := Lib.hid (fun v h w => parseOk s v h hs w)
    have HRA := Lib.hid (fun h w hg => parseRange s h hs w hg)
    clear h0
    by_cases hc1 : (s[0]'hp).toNat = 43
    · have hq1 : (((s[0]'hp).toNat : Int) == 43) = true := by rw [hc1]; rfl
      have hq0 : ((s[0]'hp).toNat : Int) = 43 := by rw [hc1]; rfl
      have HU := Lib.hid (unsign_yes hp (.inl hc1))
      generalize hd : s.extract 1 s.size = d at *
      by_cases he : d.data.toList = []
      · have he' : d.toList = [] := by rw [Lib.toList_data]; exact he
        have he1 : d.toList.isEmpty = true := by rw [toList_emp, he]; rfl
        have HV := Lib.hid (vParse_none (l := s.data.toList) (.inl (by rw [HU.out]; exact he)))
        clear he
        go_enter Tryz.func49, Tryz.ntmps49
        go_wp2_with fail
        go_ret2
        exact ⟨by rw [HV.out]; rfl, Fr.refl _ _⟩
      · have he' : ¬ d.toList = [] := by rw [Lib.toList_data]; exact he
        have he1 : d.toList.isEmpty = false := by
          rw [toList_emp]
          cases hl : d.data.toList with
          | nil => exact absurd hl he
          | cons c r => rfl
        have HE := Lib.hid he
        cases hdig : digB d.data.toList with
        | false =>
          have hi : Lib.idxFunc offB true d ≠ -1 := fun h => by
            rw [(idx_digB d).1 h] at hdig
            cases hdig
          have hi2 : 0 ≤ Lib.idxFunc offB true d := by
            rcases Lib.idxFunc_range offB true d with h | h
            · exact absurd h hi
            · exact h.1
          have HV := Lib.hid (vParse_none (l := s.data.toList) (.inr (by rw [HU.out]; exact hdig)))
          have HP := Lib.hid (fun w => HPA.out d w)
          generalize Lib.idxFunc offB true d = ix at *
          clear hi hdig he
          go_enter Tryz.func49, Tryz.ntmps49
          go_wp2_with fail
          refine (HP.out _).mono ?_
          rintro e w1 ⟨rfl, hf1⟩
          have HF1 := Lib.hid hf1
          clear hf1
          go_wp2_with fail
          go_ret2
          exact ⟨by rw [HV.out]; rfl, HF1.out⟩
        | true =>
          have hi : Lib.idxFunc offB true d = -1 := (idx_digB d).2 hdig
          have HDIG := Lib.hid hdig
          have HP := Lib.hid (fun w => HPA.out d w)
          rw [hi] at HP
          have hns := parseIntB_dig (l := s.data.toList) (by rw [HU.out]; exact he) (by rw [HU.out]; exact hdig)
          rcases hns with ⟨v, hpi⟩ | hpi
          ·
            have HV := Lib.hid (vParse_ok (l := s.data.toList) (by rw [HU.out]; exact he) (by rw [HU.out]; exact hdig) hpi)
            have HO := Lib.hid (fun w => HOK.out v hpi w)
            clear hi hdig he hpi
            go_enter Tryz.func49, Tryz.ntmps49
            go_wp2_with fail
            refine (HP.out _).mono ?_
            rintro e w1 ⟨rfl, hf1⟩
            have HF1 := Lib.hid hf1
            clear hf1
            go_wp2_with fail
            refine (HO.out _).mono ?_
            rintro e w2 ⟨rfl, hf2⟩
            have HF2 := Lib.hid (HF1.out.trans' hf2)
            clear hf2
            go_wp2_with fail
            go_ret2
            exact ⟨by rw [HV.out]; rfl, HF2.out⟩
          ·
            have HV := Lib.hid (vParse_range (l := s.data.toList) (by rw [HU.out]; exact he) (by rw [HU.out]; exact hdig) hpi)
            have HO := Lib.hid (fun w hg => HRA.out hpi w hg)
            clear hi hdig he hpi
            go_enter Tryz.func49, Tryz.ntmps49
            go_wp2_with fail
            refine (HP.out _).mono ?_
            rintro e w1 ⟨rfl, hf1⟩
            have HF1 := Lib.hid hf1
            clear hf1
            go_wp2_with fail
            refine (HO.out _ (HG.out.fr HF1.out)).mono ?_
            rintro e w2 ⟨⟨v, N, rfl⟩, hf2⟩
            have HF2 := Lib.hid (HF1.out.trans' hf2)
            clear hf2
            go_wp2_with fail
            go_ret2
            exact ⟨by rw [HV.out]; rfl, HF2.out⟩
    · by_cases hc2 : (s[0]'hp).toNat = 45
      · have hq1 : (((s[0]'hp).toNat : Int) == 43) = false := by rw [hc2]; rfl
        have hq0 : ¬ ((s[0]'hp).toNat : Int) = 43 := by rw [hc2]; decide
        have hq2 : (((s[0]'hp).toNat : Int) == 45) = true := by rw [hc2]; rfl
        have HU := Lib.hid (unsign_yes hp (.inr hc2))
        generalize hd : s.extract 1 s.size = d at *
        by_cases he : d.data.toList = []
        · have he' : d.toList = [] := by rw [Lib.toList_data]; exact he
          have he1 : d.toList.isEmpty = true := by rw [toList_emp, he]; rfl
          have HV := Lib.hid (vParse_none (l := s.data.toList) (.inl (by rw [HU.out]; exact he)))
          clear he
          go_enter Tryz.func49, Tryz.ntmps49
          go_wp2_with fail
          go_ret2
          exact ⟨by rw [HV.out]; rfl, Fr.refl _ _⟩
        · have he' : ¬ d.toList = [] := by rw [Lib.toList_data]; exact he
          have he1 : d.toList.isEmpty = false := by
            rw [toList_emp]
            cases hl : d.data.toList with
            | nil => exact absurd hl he
            | cons c r => rfl
          have HE := Lib.hid he
          cases hdig : digB d.data.toList with
          | false =>
            have hi : Lib.idxFunc offB true d ≠ -1 := fun h => by
              rw [(idx_digB d).1 h] at hdig
              cases hdig
            have hi2 : 0 ≤ Lib.idxFunc offB true d := by
              rcases Lib.idxFunc_range offB true d with h | h
              · exact absurd h hi
              · exact h.1
            have HV := Lib.hid (vParse_none (l := s.data.toList) (.inr (by rw [HU.out]; exact hdig)))
            have HP := Lib.hid (fun w => HPA.out d w)
            generalize Lib.idxFunc offB true d = ix at *
            clear hi hdig he
            go_enter Tryz.func49, Tryz.ntmps49
            go_wp2_with fail
            refine (HP.out _).mono ?_
            rintro e w1 ⟨rfl, hf1⟩
            have HF1 := Lib.hid hf1
            clear hf1
            go_wp2_with fail
            go_ret2
            exact ⟨by rw [HV.out]; rfl, HF1.out⟩
          | true =>
            have hi : Lib.idxFunc offB true d = -1 := (idx_digB d).2 hdig
            have HDIG := Lib.hid hdig
            have HP := Lib.hid (fun w => HPA.out d w)
            rw [hi] at HP
            have hns := parseIntB_dig (l := s.data.toList) (by rw [HU.out]; exact he) (by rw [HU.out]; exact hdig)
            rcases hns with ⟨v, hpi⟩ | hpi
            ·
              have HV := Lib.hid (vParse_ok (l := s.data.toList) (by rw [HU.out]; exact he) (by rw [HU.out]; exact hdig) hpi)
              have HO := Lib.hid (fun w => HOK.out v hpi w)
              clear hi hdig he hpi
              go_enter Tryz.func49, Tryz.ntmps49
              go_wp2_with fail
              refine (HP.out _).mono ?_
              rintro e w1 ⟨rfl, hf1⟩
              have HF1 := Lib.hid hf1
              clear hf1
              go_wp2_with fail
              refine (HO.out _).mono ?_
              rintro e w2 ⟨rfl, hf2⟩
              have HF2 := Lib.hid (HF1.out.trans' hf2)
              clear hf2
              go_wp2_with fail
              go_ret2
              exact ⟨by rw [HV.out]; rfl, HF2.out⟩
            ·
              have HV := Lib.hid (vParse_range (l := s.data.toList) (by rw [HU.out]; exact he) (by rw [HU.out]; exact hdig) hpi)
              have HO := Lib.hid (fun w hg => HRA.out hpi w hg)
              clear hi hdig he hpi
              go_enter Tryz.func49, Tryz.ntmps49
              go_wp2_with fail
              refine (HP.out _).mono ?_
              rintro e w1 ⟨rfl, hf1⟩
              have HF1 := Lib.hid hf1
              clear hf1
              go_wp2_with fail
              refine (HO.out _ (HG.out.fr HF1.out)).mono ?_
              rintro e w2 ⟨⟨v, N, rfl⟩, hf2⟩
              have HF2 := Lib.hid (HF1.out.trans' hf2)
              clear hf2
              go_wp2_with fail
              go_ret2
              exact ⟨by rw [HV.out]; rfl, HF2.out⟩
      · have hq1 : (((s[0]'hp).toNat : Int) == 43) = false := beq_eq_false_iff_ne.2 (by omega)
        have hq0 : ¬ ((s[0]'hp).toNat : Int) = 43 := by omega
        have hq2 : (((s[0]'hp).toNat : Int) == 45) = false := beq_eq_false_iff_ne.2 (by omega)
        have HU := Lib.hid (unsign_no hp (fun h => h.elim hc1 hc2))
        have he : s.data.toList ≠ [] := HNE.out
        have HE := Lib.hid he
        cases hdig : digB s.data.toList with
        | false =>
          have hi : Lib.idxFunc offB true s ≠ -1 := fun h => by
            rw [(idx_digB s).1 h] at hdig
            cases hdig
          have hi2 : 0 ≤ Lib.idxFunc offB true s := by
            rcases Lib.idxFunc_range offB true s with h | h
            · exact absurd h hi
            · exact h.1
          have HV := Lib.hid (vParse_none (l := s.data.toList) (.inr (by rw [HU.out]; exact hdig)))
          have HP := Lib.hid (fun w => HPA.out s w)
          generalize Lib.idxFunc offB true s = ix at *
          clear hi hdig he
          go_enter Tryz.func49, Tryz.ntmps49
          go_wp2_with fail
          refine (HP.out _).mono ?_
          rintro e w1 ⟨rfl, hf1⟩
          have HF1 := Lib.hid hf1
          clear hf1
          go_wp2_with fail
          go_ret2
          exact ⟨by rw [HV.out]; rfl, HF1.out⟩
        | true =>
          have hi : Lib.idxFunc offB true s = -1 := (idx_digB s).2 hdig
          have HDIG := Lib.hid hdig
          have HP := Lib.hid (fun w => HPA.out s w)
          rw [hi] at HP
          have hns := parseIntB_dig (l := s.data.toList) (by rw [HU.out]; exact he) (by rw [HU.out]; exact hdig)
          rcases hns with ⟨v, hpi⟩ | hpi
          ·
            have HV := Lib.hid (vParse_ok (l := s.data.toList) (by rw [HU.out]; exact he) (by rw [HU.out]; exact hdig) hpi)
            have HO := Lib.hid (fun w => HOK.out v hpi w)
            clear hi hdig he hpi
            go_enter Tryz.func49, Tryz.ntmps49
            go_wp2_with fail
            refine (HP.out _).mono ?_
            rintro e w1 ⟨rfl, hf1⟩
            have HF1 := Lib.hid hf1
            clear hf1
            go_wp2_with fail
            refine (HO.out _).mono ?_
            rintro e w2 ⟨rfl, hf2⟩
            have HF2 := Lib.hid (HF1.out.trans' hf2)
            clear hf2
            go_wp2_with fail
            go_ret2
            exact ⟨by rw [HV.out]; rfl, HF2.out⟩
          ·
            have HV := Lib.hid (vParse_range (l := s.data.toList) (by rw [HU.out]; exact he) (by rw [HU.out]; exact hdig) hpi)
            have HO := Lib.hid (fun w hg => HRA.out hpi w hg)
            clear hi hdig he hpi
            go_enter Tryz.func49, Tryz.ntmps49
            go_wp2_with fail
            refine (HP.out _).mono ?_
            rintro e w1 ⟨rfl, hf1⟩
            have HF1 := Lib.hid hf1
            clear hf1
            go_wp2_with fail
            refine (HO.out _ (HG.out.fr HF1.out)).mono ?_
            rintro e w2 ⟨⟨v, N, rfl⟩, hf2⟩
            have HF2 := Lib.hid (HF1.out.trans' hf2)
            clear hf2
            go_wp2_with fail
            go_ret2
            exact ⟨by rw [HV.out]; rfl, HF2.out⟩

theorem as_l (a b c : ByteArray) (w : World) : (Instr.typeAssert (Tm.lit a b c).val 37 59 true).run Tryz.prog w = .ok (.tuple #[.agg #[.string a, .string b, .string c], .bool true]) w := by kernel_rfl
theorem as_bl (x : Value) (w : World) : (Instr.typeAssert (.iface 93 x) 37 59 true).run Tryz.prog w = .ok (.tuple #[.agg #[.string ⟨#[]⟩, .string ⟨#[]⟩, .string ⟨#[]⟩], .bool false]) w := by kernel_rfl
theorem as_il (x : Value) (w : World) : (Instr.typeAssert (.iface 95 x) 37 59 true).run Tryz.prog w = .ok (.tuple #[.agg #[.string ⟨#[]⟩, .string ⟨#[]⟩, .string ⟨#[]⟩], .bool false]) w := by kernel_rfl
theorem as_ll2 (x : Value) (w : World) : (Instr.typeAssert (.iface 59 x) 37 59 true).run Tryz.prog w = .ok (.tuple #[x, .bool true]) w := by kernel_rfl
attribute [local go_sem] as_bl as_il as_ll2
theorem vParse_zero (l : List UInt8) : (vParse l).2 = 1 → (vParse l).1 = 0 := by
  unfold vParse
  split
  · intro _
    rfl
  · split
    · intro h
      cases h
    · intro h
      cases h
theorem fr_grow (w : World) (k : Nat) (os : Array Obj) : Fr (fun _ => False) w (Go.Sort.grow (w.drewN k) os) :=
  ⟨rfl, rfl, rfl, by show w.heap.size ≤ (w.heap ++ os).size; rw [Array.size_append]; omega, fun j hj _ => by show (w.heap ++ os)[j]? = w.heap[j]?; rw [Array.getElem?_append_left hj]⟩
theorem results_c2' {P : Program} {fn : Func} {p c : Tmp} {ty : TypeId} (h : fn.results = #[.cell p ty, .tmp c]) (tmps : Array Value) (w : World) :
    (results fn tmps).run P w = ((asAddr (tmps.getD p undef)).run P w).andThen fun q w₁ => ((loadVar ty q).run P w₁).andThen fun v w₂ => .ok (.tuple #[v, tmps.getD c undef]) w₂ := by
  simp only [results, h]
  simp [Sem.run_bind, Result.andThen]
theorem results_c2 {P : Program} {fn : Func} {p c : Tmp} {ty : TypeId} (h : fn.results = #[.cell p ty, .tmp c]) (tmps : Array Value) (w : World) (g : Nat) (t : TypeId) (cs : Array Value) (fr : Nat × Nat) (ds : TypeDesc)
    (hp : tmps.getD p undef = .pointer (some ⟨g, 0, none⟩)) (hg : w.heap[g]? = some (.cells cs t fr))
    (hu : P.underlying ty = some ds) (hd : (match ds with | .struct _ | .array _ _ => true | _ => false) = true) (hi : (P.info? ty).map (·.size) = some cs.size) (vc : Value) (hc : tmps.getD c undef = vc) :
    (results fn tmps).run P w = .ok (.tuple #[.agg cs, vc]) w := by
  rw [results_c2' h, hp, hc]
  simp [asAddr, run_loadVar_row w g t ty cs fr ds hg hu hd hi]
set_option maxRecDepth 100000 in
set_option maxHeartbeats 4000000 in
theorem of_lit (a b c k : ByteArray) (w : World) : Calls Tryz.prog 48 #[(Tm.lit a b c).val, .string k] w fun e w' => e = .returned (.tuple #[.agg #[.string a, .string b, .string c], .bool (b.toList == k.toList)]) ∧ Fr (fun _ => False) w w' := by
  unfold Tm.val
  go_enter Tryz.func48, Tryz.ntmps48
  go_wp2_with fail
  go_region
  all_goals (go_wp2_with fail)
  all_goals (exact bodyPost_ret (v := .tuple #[.agg #[.string a, .string b, .string c], .bool (b.toList == k.toList)]) (results_c2 rfl _ _ w.heap.size 59 _ (0, 0) _ rfl ((Blk.new w 59 #[.string a, .string b, .string c]).alloc (.cells #[.string a, .string b, .string c] 59)).drew Tryz.underlying59 rfl (by kernel_rfl) _ rfl) rfl ⟨rfl, (((Fr.refl _ _).alloc _).alloc _).drew⟩)
set_option maxRecDepth 100000 in
set_option maxHeartbeats 4000000 in
theorem of_bla (a k : ByteArray) (w : World) : Calls Tryz.prog 48 #[(Tm.bla a).val, .string k] w fun e w' => e = .returned (.tuple #[.agg #[.string ⟨#[]⟩, .string ⟨#[]⟩, .string ⟨#[]⟩], .bool false]) ∧ Fr (fun _ => False) w w' := by
  unfold Tm.val
  go_enter Tryz.func48, Tryz.ntmps48
  go_wp2_with fail
  go_region
  all_goals (go_wp2_with fail)
  all_goals (exact bodyPost_ret (v := .tuple #[.agg #[.string ⟨#[]⟩, .string ⟨#[]⟩, .string ⟨#[]⟩], .bool false]) (results_c2 rfl _ _ w.heap.size 59 _ (0, 0) _ rfl ((Blk.new w 59 #[.string ⟨#[]⟩, .string ⟨#[]⟩, .string ⟨#[]⟩]).alloc (.cells #[.string ⟨#[]⟩, .string ⟨#[]⟩, .string ⟨#[]⟩] 59)).drew Tryz.underlying59 rfl (by kernel_rfl) _ rfl) rfl ⟨rfl, (((Fr.refl _ _).alloc _).alloc _).drew⟩)
set_option maxRecDepth 100000 in
set_option maxHeartbeats 4000000 in
theorem of_iri (a k : ByteArray) (w : World) : Calls Tryz.prog 48 #[(Tm.iri a).val, .string k] w fun e w' => e = .returned (.tuple #[.agg #[.string ⟨#[]⟩, .string ⟨#[]⟩, .string ⟨#[]⟩], .bool false]) ∧ Fr (fun _ => False) w w' := by
  unfold Tm.val
  go_enter Tryz.func48, Tryz.ntmps48
  go_wp2_with fail
  go_region
  all_goals (go_wp2_with fail)
  all_goals (exact bodyPost_ret (v := .tuple #[.agg #[.string ⟨#[]⟩, .string ⟨#[]⟩, .string ⟨#[]⟩], .bool false]) (results_c2 rfl _ _ w.heap.size 59 _ (0, 0) _ rfl ((Blk.new w 59 #[.string ⟨#[]⟩, .string ⟨#[]⟩, .string ⟨#[]⟩]).alloc (.cells #[.string ⟨#[]⟩, .string ⟨#[]⟩, .string ⟨#[]⟩] 59)).drew Tryz.underlying59 rfl (by kernel_rfl) _ rfl) rfl ⟨rfl, (((Fr.refl _ _).alloc _).alloc _).drew⟩)

set_option maxRecDepth 100000 in
set_option maxHeartbeats 4000000 in
theorem asInt_any (t : Tm) (w : World) (hs : t.short) (hg : Glob w) : Calls Tryz.prog 14 #[t.val] w fun e w' => e = .returned (.tuple #[.int .i64 (asIntT t).1, .int .i64 (asIntT t).2]) ∧ Fr (fun _ => False) w w' := by
  have HG := Lib.hid hg
  have HX : xInt = ⟨#[104, 116, 116, 112, 58, 47, 47, 119, 119, 119, 46, 119, 51, 46, 111, 114, 103, 47, 50, 48, 48, 49, 47, 88, 77, 76, 83, 99, 104, 101, 109, 97, 35, 105, 110, 116, 101, 103, 101, 114]⟩ := rfl
  clear hg
  cases t with
  | bla a =>
    have HO := Lib.hid (fun w => of_bla a xInt w)
    rw [HX] at HO
    clear hs HX
    obtain ⟨d, x, hv⟩ := (Tm.bla a).shape
    rw [hv] at HO ⊢
    have e0 : asIntT (.bla a) = (0, 10) := rfl
    rw [e0]
    clear hv e0
    go_enter Tryz.func14, Tryz.ntmps14
    go_wp2_with fail
    refine (HO.out _).mono ?_
    rintro e w1 ⟨rfl, hf1⟩
    have HF1 := Lib.hid hf1
    clear hf1
    go_wp2_with fail
    go_ret2
    exact ⟨rfl, HF1.out.alloc _⟩
  | iri a =>
    have HO := Lib.hid (fun w => of_iri a xInt w)
    rw [HX] at HO
    clear hs HX
    obtain ⟨d, x, hv⟩ := (Tm.iri a).shape
    rw [hv] at HO ⊢
    have e0 : asIntT (.iri a) = (0, 10) := rfl
    rw [e0]
    clear hv e0
    go_enter Tryz.func14, Tryz.ntmps14
    go_wp2_with fail
    refine (HO.out _).mono ?_
    rintro e w1 ⟨rfl, hf1⟩
    have HF1 := Lib.hid hf1
    clear hf1
    go_wp2_with fail
    go_ret2
    exact ⟨rfl, HF1.out.alloc _⟩
  | lit a b c =>
    have HO := Lib.hid (fun w => of_lit a b c xInt w)
    have HP := Lib.hid (fun w hg => parse_any a hs.1 w hg)
    have HVN := Lib.hid (vParse_zero a.data.toList)
    have HAS := Lib.hid (show asIntT (.lit a b c) = if (b.toList == xInt.toList) = true then ((vParse a.data.toList).1, if (vParse a.data.toList).2 = 1 then 3 else (vParse a.data.toList).2) else (0, 10) from rfl)
    rw [HX] at HO
    generalize hq : (b.toList == xInt.toList) = q at *
    rw [← HX, hq] at HO
    clear hs HX
    obtain ⟨d, x, hv⟩ := (Tm.lit a b c).shape
    rw [hv] at HO ⊢
    generalize asIntT (.lit a b c) = ai at *
    generalize vParse a.data.toList = vp at *
    obtain ⟨vn, ve⟩ := vp
    obtain ⟨an, ae⟩ := ai
    dsimp only at HP HAS HVN ⊢
    have HV := Lib.hid hv
    clear hv hq
    cases q with
    | false =>
      have e := HAS.out
      rw [if_neg (by decide)] at e
      injection e with e1 e2
      subst e1
      subst e2
      clear HAS HVN HP
      go_enter Tryz.func14, Tryz.ntmps14
      go_wp2_with fail
      refine (HO.out _).mono ?_
      rintro e w1 ⟨rfl, hf1⟩
      have HF1 := Lib.hid hf1
      clear hf1
      go_wp2_with fail
      go_ret2
      exact ⟨rfl, HF1.out.alloc _⟩
    | true =>
      have e := HAS.out
      rw [if_pos rfl] at e
      injection e with e1 e2
      by_cases h1 : ve = 1
      · have hz := HVN.out h1
        rw [if_pos h1] at e2
        subst h1
        rw [hz] at e1
        subst e1
        subst e2
        clear HAS HVN hz
        go_enter Tryz.func14, Tryz.ntmps14
        go_wp2_with fail
        refine (HO.out _).mono ?_
        rintro e w1 ⟨rfl, hf1⟩
        have HF1 := Lib.hid (hf1.alloc (.cells #[.string a, .string b, .string c] 59))
        clear hf1
        go_wp2_with fail
        refine (HP.out _ (HG.out.fr HF1.out)).mono ?_
        rintro e w2 ⟨rfl, hf2⟩
        have HF2 := Lib.hid (HF1.out.trans' hf2)
        clear hf2
        go_wp2_with fail
        go_ret2
        exact ⟨rfl, HF2.out⟩
      · have h1' : (ve == 1) = false := by simp [h1]
        rw [if_neg h1] at e2
        subst e1
        subst e2
        clear HAS HVN
        go_enter Tryz.func14, Tryz.ntmps14
        go_wp2_with fail
        refine (HO.out _).mono ?_
        rintro e w1 ⟨rfl, hf1⟩
        have HF1 := Lib.hid (hf1.alloc (.cells #[.string a, .string b, .string c] 59))
        clear hf1
        go_wp2_with fail
        refine (HP.out _ (HG.out.fr HF1.out)).mono ?_
        rintro e w2 ⟨rfl, hf2⟩
        have HF2 := Lib.hid (HF1.out.trans' hf2)
        clear hf2
        go_wp2_with fail
        go_ret2
        exact ⟨rfl, HF2.out⟩

set_option maxHeartbeats 1000000 in
/-- The numeral of any integer. -/
theorem text_any (n : Int) (h1 : -9223372036854775808 ≤ n) (h2 : n ≤ 9223372036854775807) (w : World) (hg : Glob w) : Calls Tryz.prog 51 #[.int .i64 n] w fun e w' => e = .returned (.string ⟨(Lib.itoa n).toArray⟩) ∧ Fr (fun _ => False) w w' := by
  have HF := Lib.hid (Tryz.strconv_FormatInt_10 n h1 h2 w hg.tab)
  clear hg
  generalize (⟨(Lib.itoa n).toArray⟩ : ByteArray) = s at *
  go_enter Tryz.func51, Tryz.ntmps51
  go_wp2_with fail
  refine HF.out.mono ?_
  rintro e w1 ⟨rfl, k, os, hw⟩
  have HW := Lib.hid hw
  clear hw
  go_wp2_with fail
  go_ret
  exact ⟨rfl, by rw [HW.out]; exact fr_grow w k os⟩
set_option maxRecDepth 100000 in
set_option maxHeartbeats 4000000 in
theorem int_any (n : Int) (h1 : -9223372036854775808 ≤ n) (h2 : n ≤ 9223372036854775807) (w : World) (hg : Glob w) : Calls Tryz.prog 16 #[.int .i64 n] w fun e w' => e = .returned (.agg #[.string ⟨(Lib.itoa n).toArray⟩, .string xInt, .string ⟨#[]⟩]) ∧ Fr (fun _ => False) w w' := by
  have HF := Lib.hid (fun w hg => text_any n h1 h2 w hg)
  have HG := Lib.hid hg
  clear hg
  generalize (⟨(Lib.itoa n).toArray⟩ : ByteArray) = s at *
  have HX := Lib.hid (show xInt = ⟨#[104, 116, 116, 112, 58, 47, 47, 119, 119, 119, 46, 119, 51, 46, 111, 114, 103, 47, 50, 48, 48, 49, 47, 88, 77, 76, 83, 99, 104, 101, 109, 97, 35, 105, 110, 116, 101, 103, 101, 114]⟩ from rfl)
  generalize xInt = x at *
  go_enter Tryz.func16, Tryz.ntmps16
  go_wp2_with fail
  refine (HF.out _ (HG.out.fr ((Fr.refl _ _).alloc _))).mono ?_
  rintro e w1 ⟨rfl, hf⟩
  have hb := (Blk.new w 59 #[.string ⟨#[]⟩, .string ⟨#[]⟩, .string ⟨#[]⟩]).fr hf (fun h => h)
  have c0 : w1.cell? ⟨w.heap.size, 0, none⟩ = some (.string ⟨#[]⟩) := hb.cell 0
  have c1 : w1.cell? ⟨w.heap.size, 1, none⟩ = some (.string ⟨#[]⟩) := hb.cell 1
  have c2 : w1.cell? ⟨w.heap.size, 2, none⟩ = some (.string ⟨#[]⟩) := hb.cell 2
  have q0 := hb.frozen 0
  have q1 := hb.frozen 1
  have q2 := hb.frozen 2
  have hl := hb.lt
  have HB := Lib.hid hb
  have HFW := Lib.hid (((Fr.refl (fun _ => False) w).alloc (.cells #[.string ⟨#[]⟩, .string ⟨#[]⟩, .string ⟨#[]⟩] 59)).trans' hf)
  clear hf hb
  go_wp2_with fail
  rw [← HX.out]
  exact bodyPost_ret (v := .agg #[.string s, .string x, .string ⟨#[]⟩]) (results_cell_row rfl _ _ w.heap.size 59 _ (0, 0) _ rfl (show Blk _ w.heap.size 59 #[.string s, .string x, .string ⟨#[]⟩] from ((HB.out.set_ 0 (.string s)).set_ 1 (.string x)).set_ 2 (.string ⟨#[]⟩)) Tryz.underlying59 rfl (by kernel_rfl)) rfl ⟨rfl, ((HFW.out.setCell ⟨w.heap.size, 0, none⟩ (fun h => absurd h (Nat.lt_irrefl _)) _).setCell ⟨w.heap.size, 1, none⟩ (fun h => absurd h (Nat.lt_irrefl _)) _).setCell ⟨w.heap.size, 2, none⟩ (fun h => absurd h (Nat.lt_irrefl _)) _⟩

end Go.Proofs.YtflhmieeidnpgaaGreatDoor
