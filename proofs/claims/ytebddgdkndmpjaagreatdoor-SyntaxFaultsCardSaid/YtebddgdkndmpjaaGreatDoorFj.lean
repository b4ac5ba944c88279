/- A quoted text: walked. -/
import Derived.Test.YtebddgdkndmpjaaGreatDoorFi
import Derived.Deep.CutBlock
import Derived.Deep.RegionLawGrows
import Derived.Deep.Cut
import Derived.Deep.CutRange
import Derived.WalkKit
import Derived.WalkLawsBesides
import Derived.WalkSpells
import Derived.Deep.QuietTactic
import Derived.BigRegion
import Derived.BigQuiet
import Derived.Lib.Hide
import Derived.Outline
import Derived.Deep.AppendLies
import Derived.Deep.RegionLaw
import Derived.Deep.RegionWith
import Derived.Deep.RegionHeld3
import Derived.Deep.LoopGhost
import Derived.Deep.DeepFit
import Derived.Laws.ResultCell
import Derived.Laws.RangeAny
import Derived.Deep.MidRow
import Derived.StillTailTactics
import Derived.OpenShut
namespace Go.Proofs.YtebddgdkndmpjaaGreatDoor
set_option linter.unusedVariables false
open Go.RowKit Go

theorem escT_ok {rs : List Int} {p : Nat} (h : (escT rs p).2.2 = true) : p < (escT rs p).2.1 ∧ (escT rs p).2.1 ≤ rs.length ∧ 0 ≤ (escT rs p).1 ∧ (escT rs p).1 ≤ 1114111 := by
  unfold escT at h ⊢
  split at h
  · rename_i v hv
    have hb : 0 ≤ v ∧ v ≤ 1114111 ∧ 0 ≤ peekOf rs p := by
      unfold escOf at hv
      (repeat' split at hv) <;> first | (injection hv with hv; omega) | cases hv
    have := peek_lt (rs := rs) (p := p) hb.2.2
    exact ⟨by show p < p + 1; omega, by show p + 1 ≤ _; omega, hb.1, hb.2.1⟩
  · rename_i hv
    split at h
    · rename_i h1
      rw [if_pos h1]
      have hn := numR_ok h
      have := (signR_iff _).1 hn.2.2
      omega
    · rename_i h1
      rw [if_neg h1]
      split at h
      · rename_i h2
        rw [if_pos h2]
        have hn := numR_ok h
        have := (signR_iff _).1 hn.2.2
        omega
      · cases h
theorem numR_place {rs : List Int} {m i : Nat} (hi : i ≤ rs.length) : (numR rs m i).2.1 ≤ rs.length := by
  unfold numR
  have := hexF_place rs m i 0 hi
  split
  · split
    · exact this.2
    · show _ - 1 ≤ _
      omega
  · exact this.2
theorem escT_place {rs : List Int} {p : Nat} (hp : p ≤ rs.length) : (escT rs p).2.1 ≤ rs.length := by
  unfold escT
  split
  · rename_i v hv
    have hb : 0 ≤ peekOf rs p := by
      unfold escOf at hv
      (repeat' split at hv) <;> first | omega | cases hv
    have := peek_lt (rs := rs) (p := p) hb
    show p + 1 ≤ _
    omega
  · split
    · exact numR_place (peek_lt (by omega))
    · split
      · exact numR_place (peek_lt (by omega))
      · exact hp
/-- Quoted signs behind the quote; the place behind, or of what can't stand there. -/
def quotT (rs : List Int) (i : Nat) (out : List Int) : Option (List Int) × Nat :=
  if h : i < rs.length then
    (if peekOf rs i = 34 then (some out, i + 1)
     else if peekOf rs i = 92 then (if h2 : (escT rs (i + 1)).2.2 = true ∧ i < (escT rs (i + 1)).2.1 then quotT rs (escT rs (i + 1)).2.1 (out ++ [(escT rs (i + 1)).1]) else (none, (escT rs (i + 1)).2.1))
     else if peekOf rs i = 10 ∨ peekOf rs i = 13 then (none, i)
     else quotT rs (i + 1) (out ++ [peekOf rs i]))
  else (none, i)
termination_by rs.length - i
decreasing_by all_goals omega
theorem quotT_end {rs : List Int} {i : Nat} (hv : ∀ r, r ∈ rs → 0 ≤ r) (out : List Int) (h : peekOf rs i = -1 ∨ peekOf rs i = 10 ∨ peekOf rs i = 13) : quotT rs i out = (none, i) := by
  rw [quotT]
  by_cases hi : i < rs.length
  · rw [dif_pos hi, if_neg (by omega), if_neg (by omega)]
    by_cases h2 : peekOf rs i = 10 ∨ peekOf rs i = 13
    · rw [if_pos h2]
    · exact absurd (h.resolve_right h2) (fun e => by have := hv _ (show rs.getD i 0 ∈ rs by rw [List.getD_eq_getElem?_getD, List.getElem?_eq_getElem hi]; exact List.getElem_mem hi); unfold peekOf at e; rw [if_pos hi] at e; omega)
  · rw [dif_neg hi]
theorem quotT_shut {rs : List Int} {i : Nat} (out : List Int) (h : peekOf rs i = 34) : quotT rs i out = (some out, i + 1) := by
  rw [quotT, dif_pos (peek_lt (by omega)), if_pos h]
theorem quotT_ok {rs : List Int} {i : Nat} (out : List Int) (h : peekOf rs i = 92) (h2 : (escT rs (i + 1)).2.2 = true) : quotT rs i out = quotT rs (escT rs (i + 1)).2.1 (out ++ [(escT rs (i + 1)).1]) := by
  have := escT_ok h2
  rw [quotT, dif_pos (peek_lt (by omega)), if_neg (by omega), if_pos h, dif_pos ⟨h2, by omega⟩]
theorem quotT_no {rs : List Int} {i : Nat} (out : List Int) (h : peekOf rs i = 92) (h2 : (escT rs (i + 1)).2.2 = false) : quotT rs i out = (none, (escT rs (i + 1)).2.1) := by
  rw [quotT, dif_pos (peek_lt (by omega)), if_neg (by omega), if_pos h, dif_neg (fun h3 => by rw [h2] at h3; exact Bool.false_ne_true h3.1)]
theorem quotT_go {rs : List Int} {i : Nat} (out : List Int) (hi : i < rs.length) (h1 : ¬ peekOf rs i = 34) (h2 : ¬ peekOf rs i = 92) (h3 : ¬ peekOf rs i = 10) (h4 : ¬ peekOf rs i = 13) : quotT rs i out = quotT rs (i + 1) (out ++ [peekOf rs i]) := by
  rw [quotT, dif_pos hi, if_neg h1, if_neg h2, if_neg (by omega)]
def quotR (rs : List Int) (p : Nat) : Option (List Int) × Nat := if peekOf rs p = 34 then quotT rs (p + 1) [] else (none, p)
theorem Es.ne {w : World} {b c p : Nat} {A : Option Addr} {rs : List Int} (h : Es w) (hs : Sc w b A c rs p) : 1 ≠ b := by
  intro e
  obtain ⟨t, f, h1⟩ := h.heap
  have h2 : w.heap[b]? = some _ := hs.blk
  rw [← e, h1] at h2
  injection h2 with h2
  injection h2 with h2 _ _
  have h3 := congrArg Array.size h2
  exact absurd (show (16 : Nat) = 2 from h3) (by decide)
theorem info21 : (Tryz.prog.info? 21).map (fun i => (i.zero, i.size, i.bytes)) = some (some (.int .i32 0), 1, 4) := by kernel_rfl
theorem conv_nil (w : World) : (convert 237 9 (.slice none 0 0)).run Tryz.prog w = .ok (.string ⟨#[]⟩) w := by kernel_rfl
theorem conv_row {w : World} {B n c : Nat} {A : Option Addr} {l : List Int} (h : w.ownsRow B 21 1 (.slice A n c) n (l.map (.int .i32))) : (convert 237 9 (.slice A n c)).run Tryz.prog w = .ok (.string (strL l)) w := by
  have hl : l.length = n := by have := h.1; simpa using this
  rcases Nat.eq_zero_or_pos n with h0 | h0
  · subst h0
    obtain rfl : l = [] := List.eq_nil_of_length_eq_zero hl
    cases A with
    | none => exact run_convert_runes_nil w 237 9 21 0 c Tryz.underlying237 Tryz.underlying21 Tryz.underlying9
    | some a => exact run_convert_runes w 237 9 21 a 0 c [] (Nat.zero_le _) Tryz.underlying237 Tryz.underlying21 Tryz.underlying9 (fun j hj => absurd hj (Nat.not_lt_zero _))
  · obtain ⟨g, rfl, _, _, _⟩ := row_form h h0
    have := run_convert_runes w 237 9 21 ⟨g, 0, none⟩ n c l (by omega) Tryz.underlying237 Tryz.underlying21 Tryz.underlying9 (fun j hj => by
      have e : (⟨g, 0, none⟩ : Addr).add j = ⟨g, 0 + j, none⟩ := Addr.add_mid g 0 j
      rw [e, Nat.zero_add, rune_cell h j (by omega)])
    rw [this, runesBytes_str, ← hl, List.take_length]

def QtPost (w : World) (b : Nat) (A : Option Addr) (c : Nat) (rs : List Int) (p : Nat) (qr : Option (List Int) × Nat) (e : Ending) (w' : World) : Prop :=
  e = .returned (.tuple #[.string (optS qr.1), .int .i64 (qr.2 : Int), .int .i64 (if qr.1.isSome = true then 0 else 1)]) ∧ Sc w' b A c rs (if qr.1.isSome = true then qr.2 else p) ∧ Fr (fun j => j = b) w w'

set_option maxRecDepth 100000 in
set_option maxHeartbeats 4000000 in
theorem quoted_any (b c p : Nat) (A : Option Addr) (rs : List Int) (w : World) (h : Sc w b A c rs p) (he : Es w) :
    Calls Tryz.prog 294 #[.pointer (some ⟨b, 0, none⟩)] w (QtPost w b A c rs p (quotR rs p)) := by
  obtain ⟨i21, hi21, hz0, hz1, hz2⟩ := info_parts info21
  obtain ⟨res, hres⟩ : ∃ x, x = quotR rs p := ⟨_, rfl⟩
  rw [← hres]
  unfold quotR at hres
  have I0 := Lib.hid (is_sc ⟨#[34]⟩ b c p A rs w (ascii_of (by decide)) (by decide) h)
  rw [isAt_one] at I0
  unfold IsPost at I0
  have c1 : w.cell? ⟨b, 1, none⟩ = some (.int .i64 (p : Int)) := h.blk.cell 1
  have HS := Lib.hid h
  have HES := Lib.hid (fun (wr : World) (hf : Fr (fun j => j = b ∨ w.heap.size ≤ j) w wr) => show Es wr from he.fr hf (fun e => e.elim (he.ne h) (fun e => by have := he.lt; have e : w.heap.size ≤ 1 := e; omega)))
  have HK := Lib.hid (fun q w1 h1 => peek_sc b c q A rs w1 h1)
  have HX := Lib.hid (fun q w1 h1 h2 => escaped_any b c q A rs w1 h1 h2)
  have hle := h.le
  have hsm := h.small
  have hbl := h.blk.lt
  have HV := Lib.hid (fun r hr => (h.valid r hr).2)
  have HPB := Lib.hid (fun q => peek_big h.valid q)
  clear h he
  by_cases hp0 : peekOf rs p = 34
  · rw [if_pos hp0] at hres
    have HRES := Lib.hid hres
    have hplt := peek_lt (rs := rs) (p := p) (by omega)
    rw [hp0] at I0
    simp only [show decide ((34 : Int) = ((34 : UInt8).toNat : Int)) = true from rfl, if_true] at I0
    clear hres hp0
    go_enter Tryz.func294, Tryz.ntmps294
    go_wp2_with fail
    refine I0.out.mono ?_
    rintro e w1 ⟨rfl, hs1, hf1⟩
    rw [show p + (⟨#[34]⟩ : ByteArray).size = p + 1 from rfl] at hs1
    have HS1 := Lib.hid hs1
    have HF1 := Lib.hid (hf1.mono (T := fun j => j = b ∨ w.heap.size ≤ j) (fun _ _ e => .inl e))
    have hz1' := hf1.size
    clear hs1 hf1
    go_wp2_with fail
    go_loopg [6, 7] (rs.length + 1) (fun g a6 a7 wr => ∃ (i : Nat) (out : List Int) (ov : Value) (ok : Bool), a6 = ov ∧ a7 = .bool ok ∧ i ≤ rs.length ∧ out.length ≤ i ∧ Sc wr b A c rs i ∧ Fr (fun j => j = b ∨ w.heap.size ≤ j) w wr ∧ (ok = true → wr.ownsRow w.heap.size 21 1 ov out.length (out.map (.int .i32)) ∧ rs.length + 1 ≤ i + g ∧ quotT rs i out = res) ∧ (ok = false → res = (none, i)))
    case atStart => exact ⟨p + 1, [], .slice none 0 0, true, rfl, rfl, by omega, Nat.zero_le _, HS1.out, HF1.out, fun _ => ⟨World.ownsRow_nil _ _ _ _, by omega, HRES.out.symm⟩, fun h => absurd h.symm Bool.false_ne_true⟩
    case round =>
      obtain ⟨i, out, ov, ok, rfl, rfl, hi, hol, hs, hfr, hT, hFl⟩ := hrel
      have HSW := Lib.hid hs
      have HFR := Lib.hid hfr
      cases ok with
      | false =>
        have hr2 := hFl rfl
        subst hr2
        have c14 : wr.cell? ⟨b, 1, none⟩ = some (.int .i64 (i : Int)) := hs.blk.cell 1
        have f14 := hs.blk.frozen 1
        have hl4 := hs.blk.lt
        have HG := Lib.hid (hs.go p (by omega))
        clear hs hfr hT hFl
        go_wp2_with fail
        go_ret3
        exact ⟨rfl, HG.out.1, (HFR.out.mono (fun j hj h => h.elim id (fun h => absurd h (by omega)))).trans' HG.out.2⟩
      | true =>
        obtain ⟨hrow, hg, hqt⟩ := hT rfl
        clear hT hFl
        have HROW := Lib.hid hrow
        have HKK := Lib.hid (HK.out i wr hs)
        have hpb := HPB.out i
        obtain ⟨A6, c6, hv6⟩ := row_shape hrow
        subst hv6
        have HQT := Lib.hid hqt
        clear hs hfr hrow hqt
        by_cases h34 : peekOf rs i = 34
        · have hr2 := (quotT_shut out h34).symm.trans HQT.out
          subst hr2
          have hil := peek_lt (rs := rs) (p := i) (by omega)
          rw [h34] at HKK
          go_wp2_with fail
          refine HKK.out.mono ?_
          rintro e w2 ⟨rfl, hf2⟩
          have hs2 := HSW.out.frF hf2
          have c14 : w2.cell? ⟨b, 1, none⟩ = some (.int .i64 (i : Int)) := hs2.blk.cell 1
          have f14 := hs2.blk.frozen 1
          have hl4 := hs2.blk.lt
          have hg1 := hs2.go (i + 1) (by omega)
          rw [show ((i + 1 : Nat) : Int) = (i : Int) + 1 from rfl] at hg1
          have HG := Lib.hid hg1
          clear hg1
          have hc2 : ∀ n, ((w2.setCell ⟨b, 1, none⟩ (.int .i64 ((i : Int) + 1))).drewN n).cell? ⟨b, 1, none⟩ = some (.int .i64 ((i : Int) + 1)) := fun n => (HG.out.1.frF ((Fr.refl _ _).drewN n)).blk.cell 1
          have hcv := fun n => conv_row (ownsRow_fr (ownsRow_fr (ownsRow_fr HROW.out hf2 (fun _ _ h => h)) HG.out.2 (fun j hj e => own_blk_ne HROW.out HSW.out.blk (by decide) (by rw [hj, e]))) ((Fr.refl (fun _ => False) _).drewN n) (fun _ _ h => h))
          have HF2 := Lib.hid ((HFR.out.trans hf2 (fun _ _ h => h.elim)).trans HG.out.2 (fun _ _ e => .inl e))
          clear hs2 hf2
          go_wp2_with fail
          go_big_quiet (fail)
          go_wp2_with fail
          go_ret3
          exact ⟨rfl, HG.out.1.frF ((Fr.refl _ _).drewN _), (HF2.out.mono (fun j hj h => h.elim id (fun h => absurd h (by omega)))).drewN _⟩
        · by_cases h92 : peekOf rs i = 92
          · skip
            have hil := peek_lt (rs := rs) (p := i) (by omega)
            have hqo := quotT_ok (rs := rs) (i := i) out h92
            have hqn := quotT_no (rs := rs) (i := i) out h92
            rw [HQT.out] at hqo hqn
            have heo := escT_ok (rs := rs) (p := i + 1)
            have hep := escT_place (rs := rs) (p := i + 1) (by omega)
            rw [h92] at HKK
            have HXX := Lib.hid (fun w1 h1 h2 => HX.out (i + 1) w1 h1 h2)
            generalize escT rs (i + 1) = en at *
            obtain ⟨ev, ep, eb⟩ := en
            go_wp2_with fail
            refine HKK.out.mono ?_
            rintro e w2 ⟨rfl, hf2⟩
            have hs2 := HSW.out.frF hf2
            have HF2 := Lib.hid (HFR.out.trans hf2 (fun _ _ h => h.elim))
            have HR2 := Lib.hid (ownsRow_fr HROW.out hf2 (fun _ _ h => h))
            have c14 : w2.cell? ⟨b, 1, none⟩ = some (.int .i64 (i : Int)) := hs2.blk.cell 1
            have f14 := hs2.blk.frozen 1
            have hl4 := hs2.blk.lt
            have hg1 := hs2.go (i + 1) (by omega)
            rw [show ((i + 1 : Nat) : Int) = (i : Int) + 1 from rfl] at hg1
            have HG := Lib.hid hg1.1
            have HF3 := Lib.hid (HF2.out.trans hg1.2 (fun _ _ e => .inl e))
            have HR3 := Lib.hid (ownsRow_fr HR2.out hg1.2 (fun j hj e => own_blk_ne HR2.out hs2.blk (by decide) (by rw [hj, e])))
            clear hs2 hf2 hg1
            go_wp2_with fail
            refine (HXX.out _ HG.out (HES.out _ HF3.out)).mono ?_
            rintro e w4 ⟨rfl, hs4, hf4⟩
            skip
            have HS4 := Lib.hid hs4
            have HF4 := Lib.hid (HF3.out.trans hf4 (fun _ _ h => .inl h))
            have HR4 := Lib.hid (ownsRow_fr HR3.out hf4 (fun j hj e => own_blk_ne HR3.out HG.out.blk (by decide) (by rw [hj, e])))
            clear hs4 hf4
            cases eb with
            | true =>
              obtain ⟨e1, e2, e3, e4⟩ := heo rfl
              have HQO := Lib.hid (hqo rfl).symm
              clear hqo hqn heo hep
              have hzz := HF4.out.size
              have hbs := (HS4).out.blk.lt
              go_wp2_with (at_builtin; refine wpList_append_own _ rfl _ _ 237 rfl w.heap.size 21 i21 _ 1 4 Tryz.underlying237 hi21 hz0 hz1 hz2 rfl (by decide) (.slice A6 out.length c6) out.length (out.map (.int .i32)) (by rfl) (HR4.out.alloc _) ⟨(w4).heap.size, 0, none⟩ 1 1 [.int .i32 ev] (by rfl) rfl (World.news_of_block (heap_alloc_new (w4) _)) (by intro u hu; rw [List.mem_singleton] at hu; rw [hu]; rfl) (by unfold maxLen; omega) (by omega) (by simp; omega) ?_; intro v7 w7 hown7 hgr7 _; have F7 := (show Fr (fun j => (Value.slice A6 out.length c6).ownBlock = some j) (w4) w7 from ((Fr.refl _ (w4)).alloc _).trans (Fr.of_grown hgr7) (fun _ _ h => h)); have F7B := Lib.hid (F7.mono (T := fun j => w.heap.size ≤ j) (fun j _ e => (HR4.out.lt j e).1)); have HOWN7 := Lib.hid hown7; clear hown7 hgr7 F7)
              have HS7 := Lib.hid ((HS4).out.old HS.out (Nat.le_refl _) F7B.out)
              have HF7 := Lib.hid (HF4.out.trans F7B.out (fun _ _ h => .inr h))
              go_roundg (rs.length + 1 - (ep))
              case measure => omega
              case rel => exact ⟨ep, out ++ [ev], _, true, rfl, rfl, by omega, by rw [List.length_append]; show out.length + 1 ≤ _; omega, HS7.out, HF7.out, fun _ => ⟨by rw [List.length_append, List.map_append]; exact HOWN7.out, by omega, HQO.out⟩, fun h => absurd h.symm Bool.false_ne_true⟩
            | false =>
              have HQN := Lib.hid (hqn rfl)
              clear hqo hqn heo
              have hzz := HF4.out.size
              have hbs := (HS4).out.blk.lt
              go_wp2_with (at_builtin; refine wpList_append_own _ rfl _ _ 237 rfl w.heap.size 21 i21 _ 1 4 Tryz.underlying237 hi21 hz0 hz1 hz2 rfl (by decide) (.slice A6 out.length c6) out.length (out.map (.int .i32)) (by rfl) (HR4.out.alloc _) ⟨(w4).heap.size, 0, none⟩ 1 1 [.int .i32 ev] (by rfl) rfl (World.news_of_block (heap_alloc_new (w4) _)) (by intro u hu; rw [List.mem_singleton] at hu; rw [hu]; rfl) (by unfold maxLen; omega) (by omega) (by simp; omega) ?_; intro v7 w7 hown7 hgr7 _; have F7 := (show Fr (fun j => (Value.slice A6 out.length c6).ownBlock = some j) (w4) w7 from ((Fr.refl _ (w4)).alloc _).trans (Fr.of_grown hgr7) (fun _ _ h => h)); have F7B := Lib.hid (F7.mono (T := fun j => w.heap.size ≤ j) (fun j _ e => (HR4.out.lt j e).1)); have HOWN7 := Lib.hid hown7; clear hown7 hgr7 F7)
              have HS7 := Lib.hid ((HS4).out.old HS.out (Nat.le_refl _) F7B.out)
              have HF7 := Lib.hid (HF4.out.trans F7B.out (fun _ _ h => .inr h))
              go_roundg (0)
              case measure => omega
              case rel => exact ⟨ep, [], _, false, rfl, rfl, by omega, Nat.zero_le _, HS7.out, HF7.out, fun h => absurd h Bool.false_ne_true, fun _ => HQN.out⟩
          · by_cases hbad : peekOf rs i = -1 ∨ peekOf rs i = 10 ∨ peekOf rs i = 13
            · have hqn := quotT_end (rs := rs) (i := i) HV.out out hbad
              rw [HQT.out] at hqn
              have HQN := Lib.hid hqn
              clear hqn
              have b34 : (peekOf rs i == 34) = false := by simpa using h34
              have b92 : (peekOf rs i == 92) = false := by simpa using h92
              have HBAD := Lib.hid hbad
              generalize peekOf rs i = r at *
              rcases HBAD.out with h | h | h
              · subst h
                go_wp2_with fail
                refine HKK.out.mono ?_
                rintro e w2 ⟨rfl, hf2⟩
                have HS2 := Lib.hid (HSW.out.frF hf2)
                have HF2 := Lib.hid (HFR.out.trans hf2 (fun _ _ h => h.elim))
                have HR2 := Lib.hid (ownsRow_fr HROW.out hf2 (fun _ _ h => h))
                clear hf2
                have hzz := HF2.out.size
                have hbs := (HS2).out.blk.lt
                go_wp2_with (at_builtin; refine wpList_append_own _ rfl _ _ 237 rfl w.heap.size 21 i21 _ 1 4 Tryz.underlying237 hi21 hz0 hz1 hz2 rfl (by decide) (.slice A6 out.length c6) out.length (out.map (.int .i32)) (by rfl) (HR2.out.alloc _) ⟨(w2).heap.size, 0, none⟩ 1 1 [.int .i32 (-1)] (by rfl) rfl (World.news_of_block (heap_alloc_new (w2) _)) (by intro u hu; rw [List.mem_singleton] at hu; rw [hu]; rfl) (by unfold maxLen; omega) (by omega) (by simp; omega) ?_; intro v7 w7 hown7 hgr7 _; have F7 := (show Fr (fun j => (Value.slice A6 out.length c6).ownBlock = some j) (w2) w7 from ((Fr.refl _ (w2)).alloc _).trans (Fr.of_grown hgr7) (fun _ _ h => h)); have F7B := Lib.hid (F7.mono (T := fun j => w.heap.size ≤ j) (fun j _ e => (HR2.out.lt j e).1)); have HOWN7 := Lib.hid hown7; clear hown7 hgr7 F7)
                have HS7 := Lib.hid ((HS2).out.old HS.out (Nat.le_refl _) F7B.out)
                have HF7 := Lib.hid (HF2.out.trans F7B.out (fun _ _ h => .inr h))
                go_roundg (0)
                case measure => omega
                case rel => exact ⟨i, [], _, false, rfl, rfl, by omega, Nat.zero_le _, HS7.out, HF7.out, fun h => absurd h Bool.false_ne_true, fun _ => HQN.out⟩
              · subst h
                go_wp2_with fail
                refine HKK.out.mono ?_
                rintro e w2 ⟨rfl, hf2⟩
                have HS2 := Lib.hid (HSW.out.frF hf2)
                have HF2 := Lib.hid (HFR.out.trans hf2 (fun _ _ h => h.elim))
                have HR2 := Lib.hid (ownsRow_fr HROW.out hf2 (fun _ _ h => h))
                clear hf2
                have hzz := HF2.out.size
                have hbs := (HS2).out.blk.lt
                go_wp2_with (at_builtin; refine wpList_append_own _ rfl _ _ 237 rfl w.heap.size 21 i21 _ 1 4 Tryz.underlying237 hi21 hz0 hz1 hz2 rfl (by decide) (.slice A6 out.length c6) out.length (out.map (.int .i32)) (by rfl) (HR2.out.alloc _) ⟨(w2).heap.size, 0, none⟩ 1 1 [.int .i32 10] (by rfl) rfl (World.news_of_block (heap_alloc_new (w2) _)) (by intro u hu; rw [List.mem_singleton] at hu; rw [hu]; rfl) (by unfold maxLen; omega) (by omega) (by simp; omega) ?_; intro v7 w7 hown7 hgr7 _; have F7 := (show Fr (fun j => (Value.slice A6 out.length c6).ownBlock = some j) (w2) w7 from ((Fr.refl _ (w2)).alloc _).trans (Fr.of_grown hgr7) (fun _ _ h => h)); have F7B := Lib.hid (F7.mono (T := fun j => w.heap.size ≤ j) (fun j _ e => (HR2.out.lt j e).1)); have HOWN7 := Lib.hid hown7; clear hown7 hgr7 F7)
                have HS7 := Lib.hid ((HS2).out.old HS.out (Nat.le_refl _) F7B.out)
                have HF7 := Lib.hid (HF2.out.trans F7B.out (fun _ _ h => .inr h))
                go_roundg (0)
                case measure => omega
                case rel => exact ⟨i, [], _, false, rfl, rfl, by omega, Nat.zero_le _, HS7.out, HF7.out, fun h => absurd h Bool.false_ne_true, fun _ => HQN.out⟩
              · subst h
                go_wp2_with fail
                refine HKK.out.mono ?_
                rintro e w2 ⟨rfl, hf2⟩
                have HS2 := Lib.hid (HSW.out.frF hf2)
                have HF2 := Lib.hid (HFR.out.trans hf2 (fun _ _ h => h.elim))
                have HR2 := Lib.hid (ownsRow_fr HROW.out hf2 (fun _ _ h => h))
                clear hf2
                have hzz := HF2.out.size
                have hbs := (HS2).out.blk.lt
                go_wp2_with (at_builtin; refine wpList_append_own _ rfl _ _ 237 rfl w.heap.size 21 i21 _ 1 4 Tryz.underlying237 hi21 hz0 hz1 hz2 rfl (by decide) (.slice A6 out.length c6) out.length (out.map (.int .i32)) (by rfl) (HR2.out.alloc _) ⟨(w2).heap.size, 0, none⟩ 1 1 [.int .i32 13] (by rfl) rfl (World.news_of_block (heap_alloc_new (w2) _)) (by intro u hu; rw [List.mem_singleton] at hu; rw [hu]; rfl) (by unfold maxLen; omega) (by omega) (by simp; omega) ?_; intro v7 w7 hown7 hgr7 _; have F7 := (show Fr (fun j => (Value.slice A6 out.length c6).ownBlock = some j) (w2) w7 from ((Fr.refl _ (w2)).alloc _).trans (Fr.of_grown hgr7) (fun _ _ h => h)); have F7B := Lib.hid (F7.mono (T := fun j => w.heap.size ≤ j) (fun j _ e => (HR2.out.lt j e).1)); have HOWN7 := Lib.hid hown7; clear hown7 hgr7 F7)
                have HS7 := Lib.hid ((HS2).out.old HS.out (Nat.le_refl _) F7B.out)
                have HF7 := Lib.hid (HF2.out.trans F7B.out (fun _ _ h => .inr h))
                go_roundg (0)
                case measure => omega
                case rel => exact ⟨i, [], _, false, rfl, rfl, by omega, Nat.zero_le _, HS7.out, HF7.out, fun h => absurd h Bool.false_ne_true, fun _ => HQN.out⟩
            · have hil : i < rs.length := Classical.byContradiction fun h => hbad (.inl (by unfold peekOf; rw [if_neg h]))
              have hr1 : ¬ peekOf rs i = -1 := fun h => hbad (.inl h)
              have hr2 : ¬ peekOf rs i = 10 := fun h => hbad (.inr (.inl h))
              have hr3 : ¬ peekOf rs i = 13 := fun h => hbad (.inr (.inr h))
              have HQO := Lib.hid ((quotT_go (rs := rs) (i := i) out hil h34 h92 hr2 hr3).symm.trans HQT.out)
              have b34 : (peekOf rs i == 34) = false := by simpa using h34
              have b92 : (peekOf rs i == 92) = false := by simpa using h92
              have b10 : (peekOf rs i == 10) = false := by simpa using hr2
              have b13 : (peekOf rs i == 13) = false := by simpa using hr3
              have bm1 : (peekOf rs i == -1) = false := by simpa using hr1
              clear hbad hr1 hr2 hr3
              generalize peekOf rs i = r at *
              go_wp2_with fail
              refine HKK.out.mono ?_
              rintro e w2 ⟨rfl, hf2⟩
              have hs2 := HSW.out.frF hf2
              have HF2 := Lib.hid (HFR.out.trans hf2 (fun _ _ h => h.elim))
              have HR2 := Lib.hid (ownsRow_fr HROW.out hf2 (fun _ _ h => h))
              have c14 : w2.cell? ⟨b, 1, none⟩ = some (.int .i64 (i : Int)) := hs2.blk.cell 1
              have f14 := hs2.blk.frozen 1
              have hl4 := hs2.blk.lt
              have hg1 := hs2.go (i + 1) (by omega)
              rw [show ((i + 1 : Nat) : Int) = (i : Int) + 1 from rfl] at hg1
              have HG := Lib.hid hg1.1
              have HF3 := Lib.hid (HF2.out.trans hg1.2 (fun _ _ e => .inl e))
              have HR3 := Lib.hid (ownsRow_fr HR2.out hg1.2 (fun j hj e => own_blk_ne HR2.out hs2.blk (by decide) (by rw [hj, e])))
              have HSZ := Lib.hid (show (w2.setCell ⟨b, 1, none⟩ (.int .i64 ((i : Int) + 1))).heap.size = w2.heap.size by simp)
              clear hs2 hf2 hg1
              have hzz := HF3.out.size
              have hbs := (HG).out.blk.lt
              rw [HSZ.out] at hzz
              go_wp2_with (at_builtin; refine wpList_append_own _ rfl _ _ 237 rfl w.heap.size 21 i21 _ 1 4 Tryz.underlying237 hi21 hz0 hz1 hz2 rfl (by decide) (.slice A6 out.length c6) out.length (out.map (.int .i32)) (by rfl) (HR3.out.alloc _) ⟨w2.heap.size, 0, none⟩ 1 1 [.int .i32 r] (by rfl) rfl (by rw [← HSZ.out]; exact World.news_of_block (heap_alloc_new _ _)) (by intro u hu; rw [List.mem_singleton] at hu; rw [hu]; rfl) (by unfold maxLen; omega) (by omega) (by simp; omega) ?_; intro v7 w7 hown7 hgr7 _; have F7 := (show Fr (fun j => (Value.slice A6 out.length c6).ownBlock = some j) (w2.setCell ⟨b, 1, none⟩ (.int .i64 ((i : Int) + 1))) w7 from ((Fr.refl _ (w2.setCell ⟨b, 1, none⟩ (.int .i64 ((i : Int) + 1)))).alloc _).trans (Fr.of_grown hgr7) (fun _ _ h => h)); have F7B := Lib.hid (F7.mono (T := fun j => w.heap.size ≤ j) (fun j _ e => (HR3.out.lt j e).1)); have HOWN7 := Lib.hid hown7; clear hown7 hgr7 F7)
              have HS7 := Lib.hid ((HG).out.old HS.out (Nat.le_refl _) F7B.out)
              have HF7 := Lib.hid (HF3.out.trans F7B.out (fun _ _ h => .inr h))
              go_roundg (rs.length + 1 - (i + 1))
              case measure => omega
              case rel => exact ⟨i + 1, out ++ [r], _, true, rfl, rfl, by omega, by rw [List.length_append]; show out.length + 1 ≤ _; omega, HS7.out, HF7.out, fun _ => ⟨by rw [List.length_append, List.map_append]; exact HOWN7.out, by omega, HQO.out⟩, fun h => absurd h.symm Bool.false_ne_true⟩
  · rw [if_neg hp0] at hres
    rw [decide_eq_false (show ¬ peekOf rs p = ((34 : UInt8).toNat : Int) from hp0)] at I0
    simp only [Bool.false_eq_true, if_false] at I0
    subst hres
    go_enter Tryz.func294, Tryz.ntmps294
    go_wp2_with fail
    refine I0.out.mono ?_
    rintro e w1 ⟨rfl, hs1, hf1⟩
    have c14 : w1.cell? ⟨b, 1, none⟩ = some (.int .i64 (p : Int)) := hs1.blk.cell 1
    have f14 := hs1.blk.frozen 1
    have hl4 := hs1.blk.lt
    have HG := Lib.hid (hs1.go p hle)
    have HF1 := Lib.hid hf1
    clear hs1 hf1
    go_wp2_with fail
    go_loopg [6, 7] (0) (fun g a6 a7 wr => a6 = .slice none 0 0 ∧ a7 = .bool false ∧ w1 = wr)
    case atStart => exact ⟨rfl, rfl, rfl⟩
    case round =>
      obtain ⟨rfl, rfl, rfl⟩ := hrel
      go_wp2_with fail
      go_ret3
      exact ⟨rfl, HG.out.1, HF1.out.trans' HG.out.2⟩

end Go.Proofs.YtebddgdkndmpjaaGreatDoor
