/- A term of any text, read: walked. -/
import Derived.Test.YtebddgdkndmpjaaGreatDoorFj
import Derived.Deep.CutBlock
import Derived.Deep.RegionLawGrows
import Derived.Deep.Cut
import Derived.Deep.CutRange
import Derived.WalkKit
import Derived.WalkLawsBesides
import Derived.WalkSpells
import Derived.Deep.QuietTactic
import Derived.BigRegion
import Derived.BigQuiet
import Derived.Lib.Hide
import Derived.Outline
import Derived.Deep.AppendLies
import Derived.Deep.RegionLaw
import Derived.Deep.RegionWith
import Derived.Deep.RegionHeld3
import Derived.Deep.LoopGhost
import Derived.Deep.DeepFit
import Derived.Laws.ResultCell
import Derived.Laws.RangeAny
import Derived.Deep.MidRow
import Derived.StillTailTactics
import Derived.OpenShut
namespace Go.Proofs.YtebddgdkndmpjaaGreatDoor
set_option linter.unusedVariables false
open Go.RowKit Go

theorem sign_peek {rs : List Int} (hv : ∀ r, r ∈ rs → signR r = true) {i : Nat} (hi : i < rs.length) : signR (peekOf rs i) = true := by
  unfold peekOf
  rw [if_pos hi]
  exact hv _ (by rw [List.getD_eq_getElem?_getD, List.getElem?_eq_getElem hi]; exact List.getElem_mem hi)
theorem mem_push {P : Int → Prop} {l : List Int} {x : Int} (h : ∀ y, y ∈ l → P y) (hx : P x) : ∀ y, y ∈ l ++ [x] → P y := fun y hy => by
  rcases List.mem_append.1 hy with h1 | h1
  · exact h y h1
  · rw [List.mem_singleton.1 h1]
    exact hx
def Fits (rs : List Int) (i : Nat) (out : List Int) (r : Option (List Int) × Nat) : Prop :=
  (∀ l, r.1 = some l → l.length + i ≤ out.length + rs.length ∧ ∀ x, x ∈ l → signR x = true) ∧ r.2 ≤ rs.length
theorem Fits.no {rs : List Int} {i q : Nat} {out : List Int} (h : q ≤ rs.length) : Fits rs i out (none, q) := ⟨fun l h => (by cases h), h⟩
theorem Fits.up {rs : List Int} {i j : Nat} {out : List Int} {x : Int} {r : Option (List Int) × Nat} (h : Fits rs j (out ++ [x]) r) (hij : i < j) : Fits rs i out r := ⟨fun l hl => by
  have h1 := h.1 l hl
  rw [List.length_append] at h1
  have h2 : [x].length = 1 := rfl
  exact ⟨by omega, h1.2⟩, h.2⟩
theorem iriT_fits (rs : List Int) (hv : ∀ r, r ∈ rs → signR r = true) : ∀ m i out, rs.length - i ≤ m → i ≤ rs.length → (∀ x, x ∈ out → signR x = true) → Fits rs i out (iriT rs i out)
  | 0, i, out, hm, hi, ho => by
    rw [iriT_end out (by omega)]
    exact Fits.no hi
  | m + 1, i, out, hm, hi, ho => by
    by_cases hil : i < rs.length ∧ peekOf rs i ≠ 10
    · by_cases h62 : peekOf rs i = 62
      · rw [iriT_shut out h62]
        exact ⟨fun l hl => by injection hl with hl; rw [← hl]; exact ⟨by omega, ho⟩, hil.1⟩
      · by_cases h92 : peekOf rs i = 92
        · by_cases hu : peekOf rs (i + 1) = 117
          · rw [iriT_u out h92 hu]
            by_cases hk : (numR rs 4 (i + 2)).2.2 = true
            · rw [if_pos hk]
              have hn := numR_ok hk
              exact (iriT_fits rs hv m (i + 6) _ (by omega) (by omega) (mem_push ho hn.2.2)).up (by omega)
            · rw [if_neg hk]
              exact Fits.no (numR_place (peek_lt (by omega)))
          · by_cases hU : peekOf rs (i + 1) = 85
            · rw [iriT_U out h92 hU]
              by_cases hk : (numR rs 8 (i + 2)).2.2 = true
              · rw [if_pos hk]
                have hn := numR_ok hk
                exact (iriT_fits rs hv m (i + 10) _ (by omega) (by omega) (mem_push ho hn.2.2)).up (by omega)
              · rw [if_neg hk]
                exact Fits.no (numR_place (peek_lt (by omega)))
            · rw [iriT_no out h92 hu hU]
              exact Fits.no hil.1
        · rw [iriT_go out hil.1 hil.2 h62 h92]
          exact (iriT_fits rs hv m (i + 1) _ (by omega) hil.1 (mem_push ho (sign_peek hv hil.1))).up (by omega)
    · rw [iriT_end out hil]
      exact Fits.no hi
theorem escT_sign {rs : List Int} {p : Nat} (h : (escT rs p).2.2 = true) : signR (escT rs p).1 = true := by
  unfold escT at h ⊢
  split at h
  · rename_i v hv
    have hb : signR v = true := by
      unfold escOf at hv
      (repeat' split at hv) <;> first | (injection hv with hv; subst hv; rfl) | cases hv
    exact hb
  · split at h
    · rename_i h1
      rw [if_pos h1]
      exact (numR_ok h).2.2
    · rename_i h1
      rw [if_neg h1]
      split at h
      · rename_i h2
        rw [if_pos h2]
        exact (numR_ok h).2.2
      · cases h
theorem quotT_fits (rs : List Int) (hv : ∀ r, r ∈ rs → signR r = true) : ∀ m i out, rs.length - i ≤ m → i ≤ rs.length → (∀ x, x ∈ out → signR x = true) → Fits rs i out (quotT rs i out)
  | m, i, out, hm, hi, ho => by
    have hv0 : ∀ r, r ∈ rs → 0 ≤ r := fun r hr => ((signR_iff r).1 (hv r hr)).1
    by_cases hb : peekOf rs i = -1 ∨ peekOf rs i = 10 ∨ peekOf rs i = 13
    · rw [quotT_end hv0 out hb]
      exact Fits.no hi
    · have hil : i < rs.length := Classical.byContradiction fun h => hb (.inl (by unfold peekOf; rw [if_neg h]))
      cases m with
      | zero => exact absurd hm (by omega)
      | succ m =>
        by_cases h34 : peekOf rs i = 34
        · rw [quotT_shut out h34]
          exact ⟨fun l hl => by injection hl with hl; rw [← hl]; exact ⟨by omega, ho⟩, hil⟩
        · by_cases h92 : peekOf rs i = 92
          · cases hk : (escT rs (i + 1)).2.2 with
            | true =>
              rw [quotT_ok out h92 hk]
              have he := escT_ok hk
              exact (quotT_fits rs hv m _ _ (by omega) he.2.1 (mem_push ho (escT_sign hk))).up (by omega)
            | false =>
              rw [quotT_no out h92 hk]
              exact Fits.no (escT_place hil)
          · rw [quotT_go out hil h34 h92 (fun h => hb (.inr (.inl h))) (fun h => hb (.inr (.inr h)))]
            exact (quotT_fits rs hv m (i + 1) _ (by omega) hil (mem_push ho (sign_peek hv hil))).up (by omega)
theorem iriR_fits (rs : List Int) (hv : ∀ r, r ∈ rs → signR r = true) (p : Nat) (hp : p ≤ rs.length) : Fits rs 0 [] (iriR rs p) := by
  unfold iriR
  split
  · rename_i h
    have hl := peek_lt (rs := rs) (p := p) (by omega)
    have h1 := iriT_fits rs hv (rs.length - (p + 1)) (p + 1) [] (Nat.le_refl _) hl (fun _ h => by cases h)
    exact ⟨fun l hl => ⟨by have := (h1.1 l hl).1; omega, (h1.1 l hl).2⟩, h1.2⟩
  · exact Fits.no hp
theorem quotR_fits (rs : List Int) (hv : ∀ r, r ∈ rs → signR r = true) (p : Nat) (hp : p ≤ rs.length) : Fits rs 0 [] (quotR rs p) := by
  unfold quotR
  split
  · rename_i h
    have hl := peek_lt (rs := rs) (p := p) (by omega)
    have h1 := quotT_fits rs hv (rs.length - (p + 1)) (p + 1) [] (Nat.le_refl _) hl (fun _ h => by cases h)
    exact ⟨fun l hl => ⟨by have := (h1.1 l hl).1; omega, (h1.1 l hl).2⟩, h1.2⟩
  · exact Fits.no hp
theorem Sc.signs {w : World} {b c p : Nat} {A : Option Addr} {rs : List Int} (h : Sc w b A c rs p) : ∀ r, r ∈ rs → signR r = true := fun r hr => by rw [← signR_valid]; exact (h.valid r hr).1
theorem strL_size (l : List Int) : (strL l).size ≤ 4 * l.length := encL_len l

def xLang : ByteArray := ⟨#[104, 116, 116, 112, 58, 47, 47, 119, 119, 119, 46, 119, 51, 46, 111, 114, 103, 47, 49, 57, 57, 57, 47, 48, 50, 47, 50, 50, 45, 114, 100, 102, 45, 115, 121, 110, 116, 97, 120, 45, 110, 115, 35, 108, 97, 110, 103, 83, 116, 114, 105, 110, 103]⟩
def xString : ByteArray := ⟨#[104, 116, 116, 112, 58, 47, 47, 119, 119, 119, 46, 119, 51, 46, 111, 114, 103, 47, 50, 48, 48, 49, 47, 88, 77, 76, 83, 99, 104, 101, 109, 97, 35, 115, 116, 114, 105, 110, 103]⟩
/-- What stands behind a quoted text: type, language, the place, whether it can. -/
def tailR (rs : List Int) (q : Nat) : ByteArray × ByteArray × Nat × Bool :=
  if peekOf rs q = 94 ∧ peekOf rs (q + 1) = 94 then (optS (iriR rs (q + 2)).1, ⟨#[]⟩, (iriR rs (q + 2)).2, (iriR rs (q + 2)).1.isSome)
  else if peekOf rs q = 64 then (xLang, strL (part rs (q + 1) (wordE rs [45] (q + 1))), wordE rs [45] (q + 1), true)
  else (xString, ⟨#[]⟩, q, true)
theorem isAt_two (rs : List Int) (p : Nat) : isAt rs p (txt ⟨#[94, 94]⟩) = decide (peekOf rs p = 94 ∧ peekOf rs (p + 1) = 94) := by
  by_cases h : peekOf rs p = 94 ∧ peekOf rs (p + 1) = 94
  · rw [decide_eq_true h]
    refine isAt_true fun i hi => ?_
    have hi2 : i < 2 := hi
    rcases (show i = 0 ∨ i = 1 by omega) with rfl | rfl
    · exact h.1
    · exact h.2
  · rw [decide_eq_false h]
    by_cases h1 : peekOf rs p = 94
    · exact isAt_false (i := 1) (show 1 < 2 by decide) (fun e => h ⟨h1, e⟩)
    · exact isAt_false (i := 0) (show 0 < 2 by decide) (fun e => h1 e)

set_option maxRecDepth 100000 in
set_option maxHeartbeats 4000000 in
theorem tail_any (b c p : Nat) (A : Option Addr) (rs : List Int) (w : World) (h : Sc w b A c rs p) :
    Calls Tryz.prog 295 #[.pointer (some ⟨b, 0, none⟩)] w (IriPost w b A c rs (tailR rs p).2.2.1 (.tuple #[.string (tailR rs p).1, .string (tailR rs p).2.1, .bool (tailR rs p).2.2.2])) := by
  have I0 := Lib.hid (is_sc ⟨#[94, 94]⟩ b c p A rs w (ascii_of (by decide)) (by decide) h)
  rw [isAt_two] at I0
  unfold IsPost at I0
  have HI := Lib.hid (fun w1 h1 => is_sc ⟨#[64]⟩ b c p A rs w1 (ascii_of (by decide)) (by decide) h1)
  rw [isAt_one] at HI
  unfold IsPost at HI
  have HIR := Lib.hid (fun w1 h1 => ntiri_any b c (p + 2) A rs w1 h1)
  have HL := Lib.hid (fun B mg mc w1 hr h1 => letters_any [45] B mc mg b c (p + 1) A rs w1 (by decide) (by decide) hr h1)
  have hbl := h.blk.lt
  unfold tailR
  clear h
  by_cases h1 : peekOf rs p = 94 ∧ peekOf rs (p + 1) = 94
  · rw [if_pos h1]
    rw [decide_eq_true h1] at I0
    simp only [if_true] at I0
    rw [show p + (⟨#[94, 94]⟩ : ByteArray).size = p + 2 from rfl] at I0
    generalize iriR rs (p + 2) = ir at *
    go_enter Tryz.func295, Tryz.ntmps295
    go_wp2_with fail
    refine I0.out.mono ?_
    rintro e w1 ⟨rfl, hs1, hf1⟩
    have HX := Lib.hid (HIR.out w1 hs1)
    go_wp2_with fail
    refine HX.out.mono ?_
    rintro e w2 ⟨rfl, hs2, hf2⟩
    go_wp2_with fail
    go_ret3
    exact ⟨rfl, hs2, hf1.trans' hf2⟩
  · rw [if_neg h1]
    rw [decide_eq_false h1] at I0
    simp only [Bool.false_eq_true, if_false] at I0
    by_cases h2 : peekOf rs p = 64
    · rw [if_pos h2]
      rw [h2, show decide ((64 : Int) = ((64 : UInt8).toNat : Int)) = true from rfl] at HI
      simp only [if_true] at HI
      rw [show p + (⟨#[64]⟩ : ByteArray).size = p + 1 from rfl] at HI
      generalize wordE rs [45] (p + 1) = q at *
      generalize strL (part rs (p + 1) q) = str at *
      clear h1 h2
      go_enter Tryz.func295, Tryz.ntmps295
      go_wp2_with fail
      refine I0.out.mono ?_
      rintro e w1 ⟨rfl, hs1, hf1⟩
      have HX := Lib.hid (HI.out w1 hs1)
      go_wp2_with fail
      refine HX.out.mono ?_
      rintro e w2 ⟨rfl, hs2, hf2⟩
      have hf0 : Fr (fun _ => False) w2 (w2.alloc (.cells #[.int .i32 45] 21)) := (Fr.refl _ _).alloc _
      have hown := World.ownsRow_lit (base := 0) (e := 21) (size := 1) w2 #[.int .i32 45] 1 (Nat.zero_le _) (by decide) rfl
      have HLL := Lib.hid (HL.out 0 w2.heap.size 1 _ hown (hs2.frF hf0))
      have HF := Lib.hid ((hf1.trans' hf2).trans hf0 (fun _ _ h => h.elim))
      clear hs1 hf1 hs2 hf2 hf0 hown
      go_wp2_with fail
      refine HLL.out.mono ?_
      rintro e w3 ⟨rfl, hs3, hf3⟩
      go_wp2_with fail
      go_ret3
      exact ⟨rfl, hs3, HF.out.trans' hf3⟩
    · rw [if_neg h2]
      rw [decide_eq_false (show ¬ peekOf rs p = ((64 : UInt8).toNat : Int) from h2)] at HI
      simp only [Bool.false_eq_true, if_false] at HI
      go_enter Tryz.func295, Tryz.ntmps295
      go_wp2_with fail
      refine I0.out.mono ?_
      rintro e w1 ⟨rfl, hs1, hf1⟩
      have HX := Lib.hid (HI.out w1 hs1)
      go_wp2_with fail
      refine HX.out.mono ?_
      rintro e w2 ⟨rfl, hs2, hf2⟩
      go_wp2_with fail
      go_ret3
      exact ⟨rfl, hs2, hf1.trans' hf2⟩

/-- What is read at a place: the term and the place behind; none: the place of what can't stand there. -/
def formR (rs : List Int) (p : Nat) : Option Tm × Nat :=
  if peekOf rs p = 60 then ((iriR rs p).1.map (fun l => Tm.iri (strL l)), (iriR rs p).2)
  else if peekOf rs p = 95 then
    (if peekOf rs (p + 1) = 58 then (some (.bla (strL (part rs (p + 2) (wordE rs [95, 45] (p + 2))))), wordE rs [95, 45] (p + 2)) else (none, p + 1))
  else if peekOf rs p = 34 then
    (match quotR rs p with
      | (none, q) => (none, q)
      | (some l, q) => (if (tailR rs q).2.2.2 = true then some (.lit (strL l) (tailR rs q).1 (tailR rs q).2.1) else none, (tailR rs q).2.2.1))
  else (none, p)
def FormPost (w : World) (b : Nat) (A : Option Addr) (c : Nat) (rs : List Int) (r : Option Tm × Nat) (e : Ending) (w' : World) : Prop :=
  (∃ v, e = .returned (.tuple #[v, .bool r.1.isSome]) ∧ ∀ t, r.1 = some t → v = t.val) ∧ Sc w' b A c rs r.2 ∧ Fr (fun j => j = b) w w'

set_option maxRecDepth 100000 in
set_option maxHeartbeats 4000000 in
theorem form_any (b c p : Nat) (A : Option Addr) (rs : List Int) (w : World) (h : Sc w b A c rs p) (he : Es w) :
    Calls Tryz.prog 259 #[.pointer (some ⟨b, 0, none⟩)] w (FormPost w b A c rs (formR rs p)) := by
  have HK := Lib.hid (peek_sc b c p A rs w h)
  have HN := Lib.hid (fun w1 h1 => next_sc b c p A rs w1 h1)
  have HIR := Lib.hid (fun w1 h1 => ntiri_any b c p A rs w1 h1)
  have HI := Lib.hid (fun w1 h1 => is_sc ⟨#[58]⟩ b c (p + 1) A rs w1 (ascii_of (by decide)) (by decide) h1)
  rw [isAt_one] at HI
  unfold IsPost at HI
  have HQ := Lib.hid (fun w1 h1 h2 => quoted_any b c p A rs w1 h1 h2)
  have HTL := Lib.hid (fun q w1 h1 => tail_any b c q A rs w1 h1)
  have HBK := Lib.hid (fun q w1 h1 hq => back_sc b c p q A rs w1 h1 hq)
  have HL := Lib.hid (fun B mg mc w1 hr h1 => letters_any [95, 45] B mc mg b c (p + 2) A rs w1 (by decide) (by decide) hr h1)
  have hbl := h.blk.lt
  have HS := Lib.hid h
  have HES := Lib.hid he
  have hqf := quotR_fits rs h.signs p h.le
  unfold formR
  clear h he
  by_cases h60 : peekOf rs p = 60
  · rw [if_pos h60]
    rw [h60] at HK
    generalize iriR rs p = ir at *
    obtain ⟨io, ip⟩ := ir
    go_enter Tryz.func259, Tryz.ntmps259
    go_wp2_with fail
    refine HK.out.mono ?_
    rintro e w1 ⟨rfl, hf1⟩
    have HX := Lib.hid (HIR.out w1 (HS.out.frF hf1))
    go_wp2_with fail
    refine HX.out.mono ?_
    rintro e w2 ⟨rfl, hs2, hf2⟩
    go_wp2_with fail
    go_ret2
    cases io with
    | none => exact ⟨⟨_, rfl, fun t h => by cases h⟩, hs2, (hf1.mono (fun _ _ h => h.elim)).trans' hf2⟩
    | some l => exact ⟨⟨_, rfl, fun t h => by injection h with h; rw [← h]; rfl⟩, hs2, (hf1.mono (fun _ _ h => h.elim)).trans' hf2⟩
  · rw [if_neg h60]
    by_cases h95 : peekOf rs p = 95
    · rw [if_pos h95]
      have hplt := peek_lt (rs := rs) (p := p) (by omega)
      rw [h95] at HK
      unfold nextAt at HN
      rw [if_pos hplt] at HN
      by_cases h58 : peekOf rs (p + 1) = 58
      · rw [if_pos h58]
        rw [h58, show decide ((58 : Int) = ((58 : UInt8).toNat : Int)) = true from rfl] at HI
        simp only [if_true] at HI
        rw [show p + 1 + (⟨#[58]⟩ : ByteArray).size = p + 2 from rfl] at HI
        generalize wordE rs [95, 45] (p + 2) = q at *
        generalize strL (part rs (p + 2) q) = str at *
        clear h58 h60 h95
        go_enter Tryz.func259, Tryz.ntmps259
        go_wp2_with fail
        refine HK.out.mono ?_
        rintro e w1 ⟨rfl, hf1⟩
        have HX := Lib.hid (HN.out w1 (HS.out.frF hf1))
        go_wp2_with fail
        refine HX.out.mono ?_
        rintro e w2 ⟨rfl, hs2, hf2⟩
        have HX2 := Lib.hid (HI.out w2 hs2)
        go_wp2_with fail
        refine HX2.out.mono ?_
        rintro e w3 ⟨rfl, hs3, hf3⟩
        have hf0 : Fr (fun _ => False) w3 (w3.alloc (.cells #[.int .i32 95, .int .i32 45] 21)) := (Fr.refl _ _).alloc _
        have hown := World.ownsRow_lit (base := 0) (e := 21) (size := 1) w3 #[.int .i32 95, .int .i32 45] 2 (Nat.zero_le _) (by decide) rfl
        have HLL := Lib.hid (HL.out 0 w3.heap.size 2 _ hown (hs3.frF hf0))
        have HF := Lib.hid ((((hf1.mono (T := fun j => j = b) (fun _ _ h => h.elim)).trans' hf2).trans' hf3).trans hf0 (fun _ _ h => h.elim))
        clear hf1 hs2 hf2 hf0 hown hs3 hf3
        go_wp2_with fail
        refine HLL.out.mono ?_
        rintro e w4 ⟨rfl, hs4, hf4⟩
        go_wp2_with fail
        go_ret2
        exact ⟨⟨_, rfl, fun t h => by injection h with h; rw [← h]; rfl⟩, hs4, HF.out.trans' hf4⟩
      · rw [if_neg h58]
        rw [decide_eq_false (show ¬ peekOf rs (p + 1) = ((58 : UInt8).toNat : Int) from h58)] at HI
        simp only [Bool.false_eq_true, if_false] at HI
        clear h58 h60 h95
        go_enter Tryz.func259, Tryz.ntmps259
        go_wp2_with fail
        refine HK.out.mono ?_
        rintro e w1 ⟨rfl, hf1⟩
        have HX := Lib.hid (HN.out w1 (HS.out.frF hf1))
        go_wp2_with fail
        refine HX.out.mono ?_
        rintro e w2 ⟨rfl, hs2, hf2⟩
        have HX2 := Lib.hid (HI.out w2 hs2)
        go_wp2_with fail
        refine HX2.out.mono ?_
        rintro e w3 ⟨rfl, hs3, hf3⟩
        go_wp2_with fail
        go_ret2
        exact ⟨⟨_, rfl, fun t h => by cases h⟩, hs3, ((hf1.mono (fun _ _ h => h.elim)).trans' hf2).trans' hf3⟩
    · rw [if_neg h95]
      by_cases h34 : peekOf rs p = 34
      · rw [if_pos h34]
        rw [h34] at HK
        generalize quotR rs p = qr at *
        obtain ⟨qo, qp⟩ := qr
        unfold QtPost at HQ
        cases qo with
        | none =>
          have hqp := hqf.2
          dsimp only at hqp HQ ⊢
          simp only [Option.isSome_none, Bool.false_eq_true, if_false] at HQ
          unfold optS at HQ
          go_enter Tryz.func259, Tryz.ntmps259
          go_wp2_with fail
          refine HK.out.mono ?_
          rintro e w1 ⟨rfl, hf1⟩
          have HX := Lib.hid (HQ.out w1 (HS.out.frF hf1) (HES.out.frF hf1))
          go_wp2_with fail
          refine HX.out.mono ?_
          rintro e w2 ⟨rfl, hs2, hf2⟩
          have HX2 := Lib.hid (HBK.out qp w2 hs2 hqp)
          go_wp2_with fail
          refine HX2.out.mono ?_
          rintro e w3 ⟨rfl, hs3, hf3⟩
          go_wp2_with fail
          go_ret2
          exact ⟨⟨_, rfl, fun t h => by cases h⟩, hs3, ((hf1.mono (fun _ _ h => h.elim)).trans' hf2).trans' hf3⟩
        | some l =>
          dsimp only at HQ ⊢
          simp only [Option.isSome_some, if_true] at HQ
          unfold optS at HQ
          have HT := Lib.hid (fun w1 h1 => HTL.out qp w1 h1)
          generalize tailR rs qp = tr at *
          obtain ⟨ty, la, tp, tb⟩ := tr
          dsimp only at HT ⊢
          obtain ⟨fo, hfo⟩ : ∃ x, x = (if tb = true then some (Tm.lit (strL l) ty la) else none) := ⟨_, rfl⟩
          rw [← hfo]
          have HFO := Lib.hid hfo
          have HFB := Lib.hid (show fo.isSome = tb by rw [hfo]; cases tb <;> rfl)
          clear hfo
          go_enter Tryz.func259, Tryz.ntmps259
          go_wp2_with fail
          refine HK.out.mono ?_
          rintro e w1 ⟨rfl, hf1⟩
          have HX := Lib.hid (HQ.out w1 (HS.out.frF hf1) (HES.out.frF hf1))
          go_wp2_with fail
          refine HX.out.mono ?_
          rintro e w2 ⟨rfl, hs2, hf2⟩
          have HX2 := Lib.hid (HT.out w2 hs2)
          go_wp2_with fail
          refine HX2.out.mono ?_
          rintro e w3 ⟨rfl, hs3, hf3⟩
          go_wp2_with fail
          go_ret2
          have HFB2 := HFB.out
          subst HFB2
          exact ⟨⟨_, rfl, fun t (h : fo = some t) => by
            have h1 := HFO.out
            subst h
            rw [show (some t).isSome = true from rfl, if_pos rfl] at h1
            injection h1 with h1
            rw [h1]
            rfl⟩, hs3, ((hf1.mono (fun _ _ h => h.elim)).trans' hf2).trans' hf3⟩
      · rw [if_neg h34]
        have b60 : (peekOf rs p == 60) = false := by simpa using h60
        have b95 : (peekOf rs p == 95) = false := by simpa using h95
        have b34 : (peekOf rs p == 34) = false := by simpa using h34
        generalize peekOf rs p = r at *
        go_enter Tryz.func259, Tryz.ntmps259
        go_wp2_with fail
        refine HK.out.mono ?_
        rintro e w1 ⟨rfl, hf1⟩
        go_wp2_with fail
        go_ret2
        exact ⟨⟨_, rfl, fun t h => by cases h⟩, HS.out.frF hf1, hf1.mono (fun _ _ h => h.elim)⟩

/-- The place and the error of a term that is read; 0: none. -/
def readR (rs : List Int) (p : Nat) : Nat × Int :=
  match formR rs p with
  | (none, q) => (q, 1)
  | (some t, q) => if t.good = true then (q, 0) else (p, 3)
theorem size0 : (⟨#[]⟩ : ByteArray).size ≤ 4096 := by decide
theorem xLang_size : xLang.size ≤ 4096 := by decide
theorem xString_size : xString.size ≤ 4096 := by decide
theorem tail_short {rs : List Int} (hv : ∀ r, r ∈ rs → signR r = true) (hs : rs.length ≤ 1000) {q : Nat} (hq : q ≤ rs.length) : (tailR rs q).1.size ≤ 4096 ∧ (tailR rs q).2.1.size ≤ 4096 ∧ (tailR rs q).2.2.1 ≤ rs.length := by
  unfold tailR
  by_cases h1 : peekOf rs q = 94 ∧ peekOf rs (q + 1) = 94
  · rw [if_pos h1]
    have hl := peek_lt (rs := rs) (p := q + 1) (by omega)
    have hf := iriR_fits rs hv (q + 2) hl
    refine ⟨?_, size0, hf.2⟩
    show (optS (iriR rs (q + 2)).1).size ≤ 4096
    cases h : (iriR rs (q + 2)).1 with
    | none => show (⟨#[]⟩ : ByteArray).size ≤ 4096; decide
    | some l =>
      have h2 := (hf.1 l h).1
      have h3 := strL_size l
      show (strL l).size ≤ 4096
      have h4 : ([] : List Int).length = 0 := rfl
      omega
  · rw [if_neg h1]
    by_cases h2 : peekOf rs q = 64
    · rw [if_pos h2]
      have hl := peek_lt (rs := rs) (p := q) (by omega)
      have hw := wordE_le rs [45] (rs.length - (q + 1)) (q + 1) (Nat.le_refl _) hl
      refine ⟨xLang_size, ?_, hw.2⟩
      have h3 := strL_size (part rs (q + 1) (wordE rs [45] (q + 1)))
      have h4 := part_len rs (q + 1) (wordE rs [45] (q + 1))
      show (strL (part rs (q + 1) (wordE rs [45] (q + 1)))).size ≤ 4096
      omega
    · rw [if_neg h2]
      exact ⟨xString_size, size0, hq⟩
theorem form_short {rs : List Int} (hv : ∀ r, r ∈ rs → signR r = true) (hs : rs.length ≤ 1000) {p : Nat} (hp : p ≤ rs.length) : (∀ t, (formR rs p).1 = some t → t.short) ∧ (formR rs p).2 ≤ rs.length := by
  have h0 : ([] : List Int).length = 0 := rfl
  unfold formR
  by_cases h60 : peekOf rs p = 60
  · rw [if_pos h60]
    have hf := iriR_fits rs hv p hp
    refine ⟨fun t ht => ?_, hf.2⟩
    cases h : (iriR rs p).1 with
    | none => rw [h] at ht; cases ht
    | some l =>
      rw [h] at ht
      injection ht with ht
      rw [← ht]
      have h2 := (hf.1 l h).1
      have h3 := strL_size l
      show (strL l).size ≤ 4096
      omega
  · rw [if_neg h60]
    by_cases h95 : peekOf rs p = 95
    · rw [if_pos h95]
      have hl := peek_lt (rs := rs) (p := p) (by omega)
      by_cases h58 : peekOf rs (p + 1) = 58
      · rw [if_pos h58]
        have hl2 := peek_lt (rs := rs) (p := p + 1) (by omega)
        have hw := wordE_le rs [95, 45] (rs.length - (p + 2)) (p + 2) (Nat.le_refl _) hl2
        refine ⟨fun t ht => ?_, hw.2⟩
        injection ht with ht
        rw [← ht]
        have h3 := strL_size (part rs (p + 2) (wordE rs [95, 45] (p + 2)))
        have h4 := part_len rs (p + 2) (wordE rs [95, 45] (p + 2))
        show (strL (part rs (p + 2) (wordE rs [95, 45] (p + 2)))).size ≤ 4096
        omega
      · rw [if_neg h58]
        exact ⟨fun t ht => (by cases ht), hl⟩
    · rw [if_neg h95]
      by_cases h34 : peekOf rs p = 34
      · rw [if_pos h34]
        have hf := quotR_fits rs hv p hp
        generalize quotR rs p = qr at *
        obtain ⟨qo, qp⟩ := qr
        have hq := hf.2
        dsimp only at hq
        cases qo with
        | none => exact ⟨fun t ht => (by cases ht), hq⟩
        | some l =>
          have h2 := (hf.1 l rfl).1
          have h3 := strL_size l
          have ht3 := tail_short hv hs hq
          dsimp only
          refine ⟨fun t ht => ?_, ht3.2.2⟩
          split at ht
          · injection ht with ht
            rw [← ht]
            exact ⟨by omega, ht3.1, ht3.2.1⟩
          · cases ht
      · rw [if_neg h34]
        exact ⟨fun t ht => (by cases ht), hp⟩

set_option maxRecDepth 100000 in
set_option maxHeartbeats 4000000 in
theorem read_bad (b c p : Nat) (A : Option Addr) (rs : List Int) (w : World) (hl : rs.length ≤ 1000) (hb : (readR rs p).2 ≠ 0) (h : Sc w b A c rs p) (he : Es w) :
    Calls Tryz.prog 206 #[.pointer (some ⟨b, 0, none⟩)] w (ScPost w b A c rs p (.tuple #[.nilIface, .int .i64 ((readR rs p).1 : Int), .int .i64 (readR rs p).2])) := by
  have HP := Lib.hid (place_sc b c p A rs w h)
  have HF := Lib.hid (form_any b c p A rs w h he)
  have HP2 := Lib.hid (fun q w1 h1 => place_sc b c q A rs w1 h1)
  have HBK := Lib.hid (fun q w1 h1 => back_sc b c q p A rs w1 h1 h.le)
  have hsh := form_short h.signs hl h.le
  unfold readR at hb ⊢
  clear h he
  unfold FormPost at HF
  generalize formR rs p = fr at *
  obtain ⟨fo, fp⟩ := fr
  cases fo with
  | none =>
    dsimp only at HF ⊢
    go_enter Tryz.func206, Tryz.ntmps206
    go_wp2_with fail
    refine HP.out.mono ?_
    rintro e w1 ⟨rfl, rfl⟩
    go_wp2_with fail
    refine HF.out.mono ?_
    rintro e w2 ⟨⟨v, rfl, _⟩, hs2, hf2⟩
    have HPP := Lib.hid (HP2.out fp w2 hs2)
    go_wp2_with fail
    refine HPP.out.mono ?_
    rintro e w3 ⟨rfl, rfl⟩
    have HBB := Lib.hid (HBK.out fp w2 hs2)
    go_wp2_with fail
    refine HBB.out.mono ?_
    rintro e w4 ⟨rfl, hs4, hf4⟩
    go_wp2_with fail
    go_ret3
    exact ⟨rfl, hs4, hf2.trans' hf4⟩
  | some t =>
    dsimp only at HF hb ⊢
    have hgd : t.good = false := by
      cases hg : t.good with
      | false => rfl
      | true => rw [hg, if_pos rfl] at hb; exact absurd rfl hb
    rw [hgd, if_neg Bool.false_ne_true]
    have HG := Lib.hid (fun w1 => tgood_any t w1 (hsh.1 t rfl))
    rw [hgd] at HG
    clear hb
    go_enter Tryz.func206, Tryz.ntmps206
    go_wp2_with fail
    refine HP.out.mono ?_
    rintro e w1 ⟨rfl, rfl⟩
    go_wp2_with fail
    refine HF.out.mono ?_
    rintro e w2 ⟨⟨v, rfl, hv⟩, hs2, hf2⟩
    obtain rfl := hv t rfl
    have HPP := Lib.hid (HP2.out fp w2 hs2)
    go_wp2_with fail
    refine HPP.out.mono ?_
    rintro e w3 ⟨rfl, rfl⟩
    go_wp2_with fail
    refine (HG.out _).mono ?_
    rintro e w4 ⟨rfl, hf4⟩
    have HBB := Lib.hid (HBK.out fp w4 (hs2.frF hf4))
    go_wp2_with fail
    refine HBB.out.mono ?_
    rintro e w5 ⟨rfl, hs5, hf5⟩
    go_wp2_with fail
    go_ret3
    exact ⟨rfl, hs5, (hf2.trans hf4 (fun _ _ h => h.elim)).trans' hf5⟩

set_option maxRecDepth 100000 in
set_option maxHeartbeats 4000000 in
theorem term_bad (b c p : Nat) (A : Option Addr) (rs : List Int) (w : World) (hq : skip rs [0] p = p) (hl : rs.length ≤ 1000) (hbd : (readR rs p).2 ≠ 0) (h : Sc w b A c rs p) (he : Es w) :
    Calls Tryz.prog 145 #[.agg #[.pointer (some ⟨b, 0, none⟩)]] w fun e w' => Thrown (readR rs p).1 (readR rs p).2 e ∧ Fr (fun j => j = b) w w' := by
  have hf : Fr (fun _ => False) w (w.alloc (.cells #[.pointer (some ⟨b, 0, none⟩)] 108)) := (Fr.refl _ _).alloc _
  have HB := Lib.hid (blanks_sc b c p A rs _ (h.frF hf))
  rw [hq] at HB
  have HR := Lib.hid (fun w1 h1 h2 => read_bad b c p A rs w1 hl hbd h1 h2)
  have HX := Lib.hid (Blk.new w 108 #[.pointer (some ⟨b, 0, none⟩)])
  have HF := Lib.hid hf
  have HE1 := Lib.hid (he.frF hf)
  have hne := he.ne h
  have hbl := h.blk.lt
  have HFL := Lib.hid (fun pl co w1 => fail_sc (.pointer (some ⟨b, 0, none⟩)) pl co w1)
  unfold Thrown at *
  generalize readR rs p = rr at *
  obtain ⟨pl, co⟩ := rr
  dsimp only at hbd HR ⊢
  have hco : (co == 0) = false := by simpa using hbd
  clear h hf hq he
  go_enter Tryz.func145, Tryz.ntmps145
  go_wp2_with fail
  refine HB.out.mono ?_
  rintro e w1 ⟨⟨k, rfl⟩, hs1, hf1⟩
  have hx1 := box_keep HX.out hbl hf1
  have x1 : w1.cell? ⟨w.heap.size, 0, none⟩ = some (.pointer (some ⟨b, 0, none⟩)) := hx1.cell 0
  have HRR := Lib.hid (HR.out w1 hs1 (HE1.out.fr hf1 hne))
  have HF1 := Lib.hid ((HF.out.mono (T := fun j => j = b) (fun _ _ h => h.elim)).trans' hf1)
  have HX1 := Lib.hid hx1
  clear hx1 hs1 hf1
  go_wp2_with fail
  refine HRR.out.mono ?_
  rintro e w2 ⟨rfl, hs2, hf2⟩
  have hx2 := box_keep HX1.out hbl hf2
  have x2 : w2.cell? ⟨w.heap.size, 0, none⟩ = some (.pointer (some ⟨b, 0, none⟩)) := hx2.cell 0
  have HF2 := Lib.hid (HF1.out.trans' hf2)
  clear hx2 hs2 hf2 x1
  go_wp2_with fail
  refine (HFL.out _ _ _).mono ?_
  rintro e w3 ⟨rfl, hf3⟩
  go_wp2_with fail
  exact ⟨rfl, rfl, HF2.out.trans hf3 (fun _ _ h => h.elim)⟩

end Go.Proofs.YtebddgdkndmpjaaGreatDoor
