/- Letters, digits and marks of any text: walked. -/
import Derived.Test.YtebddgdkndmpjaaGreatDoorFe
import Derived.Lib.AppendStr
import Derived.Deep.CutBlock
import Derived.Deep.RegionLawGrows
import Derived.Deep.Cut
import Derived.Deep.CutRange
import Derived.WalkKit
import Derived.WalkLawsBesides
import Derived.WalkSpells
import Derived.Deep.QuietTactic
import Derived.BigRegion
import Derived.BigQuiet
import Derived.Lib.Hide
import Derived.Outline
import Derived.Deep.AppendLies
import Derived.Deep.RegionLaw
import Derived.Deep.RegionWith
import Derived.Deep.RegionHeld3
import Derived.Deep.LoopGhost
import Derived.Deep.DeepFit
import Derived.Laws.ResultCell
import Derived.Laws.RangeAny
import Derived.Deep.MidRow
import Derived.StillTailTactics
import Derived.OpenShut
namespace Go.Proofs.YtebddgdkndmpjaaGreatDoor
set_option linter.unusedVariables false
open Go.RowKit Go

set_option maxRecDepth 100000 in
set_option maxHeartbeats 4000000 in
/-- A text, written to a builder. -/
theorem wstr_any (B b : Nat) (l : List UInt8) (s : ByteArray) (w : World) (hl : l.length ≤ 100000) (hs : s.size ≤ 100000) (hB : B ≤ w.heap.size) (h : Bu w B b l) :
    Calls Tryz.prog 175 #[.pointer (some ⟨b, 0, none⟩), .string s] w fun e w' => (∃ k : Int, e = .returned (.tuple #[.int .i64 k, .nilIface])) ∧ Bu w' B b (l ++ s.data.toList) ∧ Fr (fun j => B ≤ j) w w' := by
  obtain ⟨i5, hi5, hz50, hz51, hz52⟩ := info_parts info5
  obtain ⟨p, v, hb, hp, hr, hBb⟩ := h
  have HC : Calls Tryz.prog 224 #[.pointer (some ⟨b, 0, none⟩)] w fun e w' => e = .returned (.tuple #[]) ∧ Blk w' b 263 #[.pointer (some ⟨b, 0, none⟩), v] ∧ w'.ownsRow B 5 1 v l.length (Lib.byteCells l) ∧ Fr (fun j => j = b) w w' := by
    rcases hp with rfl | rfl
    · refine (copy_fresh b v w hb).mono ?_
      rintro e w' ⟨rfl, rfl⟩
      have FS : Fr (fun j => j = b) w (w.setCell ⟨b, 0, none⟩ (.pointer (some ⟨b, 0, none⟩))) := (Fr.refl (fun j => j = b) w).setCell ⟨b, 0, none⟩ (fun _ => rfl) _
      exact ⟨rfl, hb.set_ 0 (.pointer (some ⟨b, 0, none⟩)), ownsRow_fr hr FS (fun j hj e => own_blk_ne hr hb (by decide) (by rw [hj, e])), FS⟩
    · refine (copy_used b v w hb).mono ?_
      rintro e w' ⟨rfl, rfl⟩
      exact ⟨rfl, hb, hr, Fr.refl _ _⟩
  obtain ⟨A, cc, hv⟩ := row_shape hr
  subst hv
  have HCH := Lib.hid HC
  have hsl : s.data.toList.length = s.size := rfl
  have HPU := Lib.hid (show Lib.byteCells l ++ Lib.strCells s = Lib.byteCells (l ++ s.data.toList) by unfold Lib.byteCells; rw [List.map_append]; first | rfl | (congr 1; unfold Lib.strCells; simp))
  clear HC hb hp hr
  go_enter Tryz.func175, Tryz.ntmps175
  go_wp2_with fail
  refine HCH.out.mono ?_
  rintro e w1 ⟨rfl, hb1, hr1, hf1⟩
  have c1 : w1.cell? ⟨b, 1, none⟩ = some (.slice A l.length cc) := hb1.cell 1
  have HB1 := Lib.hid hb1
  have HR1 := Lib.hid hr1
  have HF1 := Lib.hid (hf1.mono (T := fun j => B ≤ j) (fun j _ e => by omega))
  have hsz1 := hf1.size
  have hbl1 := hb1.lt
  clear hb1 hr1 hf1
  go_wp2_with (at_builtin; refine Lib.wpList_append_own_string _ rfl _ _ 86 9 rfl B 5 i5 Tryz.underlying86 Tryz.underlying9 hi5 hz50 hz51 hz52 (.slice A l.length cc) l.length (Lib.byteCells l) (by rfl) HR1.out s (by rfl) (by unfold maxLen; omega) (by omega) (by omega) ?_; intro v7 w7 hown7 hgr7 _; obtain ⟨A7, c7, hv7⟩ := row_shape hown7; subst hv7; have F7 := (show Fr (fun j => (Value.slice A l.length cc).ownBlock = some j) w1 w7 from (Fr.of_grown hgr7)); have hb7 := HB1.out.fr F7 (own_blk_ne HR1.out HB1.out (by decide)); have c7b : w7.cell? ⟨b, 1, none⟩ = some (.slice A l.length cc) := hb7.cell 1; have f7b := hb7.frozen 1; have l7b := hb7.lt; have HOWN7 := Lib.hid hown7; have HF7 := Lib.hid F7; have HB7 := Lib.hid hb7; clear hown7 hgr7 F7 hb7)
  have FS : Fr (fun j => j = b) w7 (w7.setCell ⟨b, 1, none⟩ (.slice A7 (l.length + s.size) c7)) := (Fr.refl (fun j => j = b) w7).setCell ⟨b, 1, none⟩ (fun _ => rfl) _
  go_ret2
  refine ⟨⟨_, rfl⟩, ⟨.pointer (some ⟨b, 0, none⟩), .slice A7 (l.length + s.size) c7, HB7.out.set_ 1 (.slice A7 (l.length + s.size) c7), .inr rfl, ?_, hBb⟩, (HF1.out.trans HF7.out (fun j _ e => (HR1.out.lt j e).1)).trans FS (fun j _ e => by omega)⟩
  rw [List.length_append, hsl, ← HPU.out]
  exact ownsRow_fr HOWN7.out FS (fun j hj e => own_blk_ne HOWN7.out HB7.out (by decide) (by rw [hj, e]))

/-- May a sign stand in a word? -/
def inW (ms : List Int) (r : Int) : Bool := [1, 2].contains (clsOf r) || ms.contains r
def wordE (rs ms : List Int) (p : Nat) : Nat := if h : p < rs.length ∧ inW ms (rs.getD p 0) = true then wordE rs ms (p + 1) else p
termination_by rs.length - p
decreasing_by omega
theorem wordE_step {rs ms : List Int} {p : Nat} (h : p < rs.length) (h2 : inW ms (rs.getD p 0) = true) : wordE rs ms p = wordE rs ms (p + 1) := by rw [wordE, dif_pos ⟨h, h2⟩]
theorem wordE_stop {rs ms : List Int} {p : Nat} (h : ¬ (p < rs.length ∧ inW ms (rs.getD p 0) = true)) : wordE rs ms p = p := by rw [wordE, dif_neg h]
theorem wordE_skip (rs ms : List Int) : ∀ m p, rs.length - p ≤ m → wordE rs ms (skip rs [1, 2] p) = wordE rs ms p
  | 0, p, h => by rw [skip_stop (by omega)]
  | m + 1, p, h => by
    by_cases hc : p < rs.length ∧ [1, 2].contains (clsOf (rs.getD p 0)) = true
    · rw [skip_step hc.1 hc.2, wordE_skip rs ms m (p + 1) (by omega)]
      exact (wordE_step hc.1 (by unfold inW; rw [hc.2]; rfl)).symm
    · rw [skip_stop hc]
theorem wordE_le (rs ms : List Int) : ∀ m p, rs.length - p ≤ m → p ≤ rs.length → p ≤ wordE rs ms p ∧ wordE rs ms p ≤ rs.length
  | 0, p, h, h2 => by rw [wordE_stop (by omega)]; exact ⟨Nat.le_refl _, h2⟩
  | m + 1, p, h, h2 => by
    by_cases hc : p < rs.length ∧ inW ms (rs.getD p 0) = true
    · rw [wordE_step hc.1 hc.2]
      have := wordE_le rs ms m (p + 1) (by omega) (by omega)
      omega
    · rw [wordE_stop hc]
      exact ⟨Nat.le_refl _, h2⟩
/-- The signs from a place to another. -/
def part (rs : List Int) (p q : Nat) : List Int := (rs.drop p).take (q - p)
theorem part_none (rs : List Int) (p : Nat) : part rs p p = [] := by unfold part; rw [Nat.sub_self, List.take_zero]
theorem part_add (rs : List Int) (p q r : Nat) (h1 : p ≤ q) (h2 : q ≤ r) : part rs p q ++ part rs q r = part rs p r := by
  unfold part
  rw [show r - p = (q - p) + (r - q) by omega, List.take_add, List.drop_drop, show p + (q - p) = q by omega]
theorem part_one (rs : List Int) (p q : Nat) (h1 : p ≤ q) (h2 : q < rs.length) : part rs p q ++ [rs.getD q 0] = part rs p (q + 1) := by
  rw [← part_add rs p q (q + 1) h1 (by omega)]
  congr 1
  unfold part
  rw [Nat.add_sub_cancel_left, List.drop_eq_getElem_cons h2, List.getD_eq_getElem?_getD, List.getElem?_eq_getElem h2]
  rfl
theorem part_len (rs : List Int) (p q : Nat) : (part rs p q).length ≤ rs.length := by
  unfold part
  rw [List.length_take, List.length_drop]
  omega
theorem encL_append (a b : List Int) : encL (a ++ b) = encL a ++ encL b := by unfold encL; rw [List.flatMap_append]
theorem encode_bytes (r : Int) : (Utf8.encode r).data.toList = Lib.encodeRune r := by
  have e (n : Nat) (z : Int) (h : z.toNat = n) : UInt8.ofNat n = z.toNat.toUInt8 := by rw [h]
  by_cases c0 : 0 ≤ r ∧ r ≤ 127
  · have hv : Utf8.valid r = true := by unfold Utf8.valid; simp; omega
    unfold Lib.encodeRune
    rw [Lib.encodeRuneZ_one c0.1 c0.2]
    unfold Utf8.encode
    rw [if_pos hv]
    dsimp only
    rw [if_pos (by omega)]
    rfl
  by_cases c1 : 128 ≤ r ∧ r ≤ 2047
  · have hv : Utf8.valid r = true := by unfold Utf8.valid; simp; omega
    unfold Lib.encodeRune
    rw [Lib.encodeRuneZ_two c1.1 c1.2]
    unfold Utf8.encode
    rw [if_pos hv]
    dsimp only
    rw [if_neg (by omega), if_pos (by omega)]
    simp only [List.map_cons, List.map_nil]
    rw [← e (192 + r.toNat / 64) (192 + r / 64) (by omega), ← e (128 + r.toNat % 64) (128 + r % 64) (by omega)]
  by_cases c2 : (2048 ≤ r ∧ r < 55296) ∨ (57343 < r ∧ r ≤ 65535)
  · have hv : Utf8.valid r = true := by unfold Utf8.valid; simp; omega
    unfold Lib.encodeRune
    rw [Lib.encodeRuneZ_three c2]
    unfold Utf8.encode
    rw [if_pos hv]
    dsimp only
    rw [if_neg (by omega), if_neg (by omega), if_pos (by omega)]
    simp only [List.map_cons, List.map_nil]
    rw [← e (224 + r.toNat / 4096) (224 + r / 4096) (by omega), ← e (128 + r.toNat / 64 % 64) (128 + r / 64 % 64) (by omega), ← e (128 + r.toNat % 64) (128 + r % 64) (by omega)]
  by_cases c3 : 65536 ≤ r ∧ r ≤ 1114111
  · have hv : Utf8.valid r = true := by unfold Utf8.valid; simp; omega
    unfold Lib.encodeRune Lib.encodeRuneZ
    rw [if_neg (by omega), if_neg (by omega), if_neg (by omega), if_pos c3]
    unfold Utf8.encode
    rw [if_pos hv]
    dsimp only
    rw [if_neg (by omega), if_neg (by omega), if_neg (by omega)]
    simp only [List.map_cons, List.map_nil]
    rw [← e (240 + r.toNat / 262144) (240 + r / 262144) (by omega), ← e (128 + r.toNat / 4096 % 64) (128 + r / 4096 % 64) (by omega), ← e (128 + r.toNat / 64 % 64) (128 + r / 64 % 64) (by omega), ← e (128 + r.toNat % 64) (128 + r % 64) (by omega)]
  · have hv : Utf8.valid r = false := by unfold Utf8.valid; simp; omega
    unfold Lib.encodeRune Lib.encodeRuneZ
    rw [if_neg (by omega), if_neg (by omega), if_neg (by omega), if_neg (by omega)]
    unfold Utf8.encode
    rw [hv, if_neg Bool.false_ne_true]
    decide
theorem runesBytes_str (l : List Int) : runesBytes l = strL l := by
  have : ∀ (l : List Int) (a : ByteArray), (l.foldl (fun r n => r ++ Utf8.encode n) a).data.toList = a.data.toList ++ encL l := by
    intro l
    induction l with
    | nil => intro a; show _ = a.data.toList ++ []; exact (List.append_nil _).symm
    | cons r l ih =>
      intro a
      rw [List.foldl_cons, ih, ByteArray.data_append, Array.toList_append, encode_bytes]
      show _ = a.data.toList ++ encL (r :: l)
      unfold encL
      rw [List.flatMap_cons, List.append_assoc]
  apply ByteArray.ext
  apply Array.ext'
  unfold runesBytes
  rw [this]
  rfl
theorem part_runes (rs : List Int) (p q : Nat) : (runesBytes ((rs.drop p).take (q - p))).data.toList = encL (part rs p q) := by
  rw [runesBytes_str]
  rfl

theorem skip_last (rs cs : List Int) : ∀ m p, rs.length - p ≤ m → ¬ (skip rs cs p < rs.length ∧ cs.contains (clsOf (rs.getD (skip rs cs p) 0)) = true)
  | 0, p, h => by rw [skip_stop (by omega)]; omega
  | m + 1, p, h => by
    by_cases hc : p < rs.length ∧ cs.contains (clsOf (rs.getD p 0)) = true
    · rw [skip_step hc.1 hc.2]
      exact skip_last rs cs m (p + 1) (by omega)
    · rw [skip_stop hc]
      exact hc
theorem word_last {rs ms : List Int} {p i : Nat} (h : i = skip rs [1, 2] p) (hn : ∀ m, m < ms.length → ¬ peekOf rs i = ms.getD m 0) : wordE rs ms i = i := by
  apply wordE_stop
  rintro ⟨h1, h2⟩
  have h3 := skip_last rs [1, 2] (rs.length - p) p (Nat.le_refl _)
  rw [← h] at h3
  unfold inW at h2
  rw [(by simpa using fun h4 => h3 ⟨h1, h4⟩ : [1, 2].contains (clsOf (rs.getD i 0)) = false), Bool.false_or] at h2
  have h5 : rs.getD i 0 ∈ ms := by simpa using h2
  obtain ⟨m, hm, he⟩ := List.getElem_of_mem h5
  refine hn m hm ?_
  unfold peekOf
  rw [if_pos h1, ← he, List.getD_eq_getElem?_getD, List.getElem?_eq_getElem hm]
  rfl
theorem word_mark {rs ms : List Int} {i m : Nat} (hm : m < ms.length) (h0 : 0 ≤ ms.getD m 0) (h : peekOf rs i = ms.getD m 0) : i < rs.length ∧ rs.getD i 0 = peekOf rs i ∧ wordE rs ms i = wordE rs ms (i + 1) := by
  have hl := peek_lt (rs := rs) (p := i) (by omega)
  have e : rs.getD i 0 = peekOf rs i := by unfold peekOf; rw [if_pos hl]
  refine ⟨hl, e, wordE_step hl ?_⟩
  unfold inW
  rw [e, h, (by simp only [List.contains_eq_mem, decide_eq_true_eq]; rw [List.getD_eq_getElem?_getD, List.getElem?_eq_getElem hm]; exact List.getElem_mem hm : ms.contains (ms.getD m 0) = true), Bool.or_true]

set_option maxRecDepth 100000 in
set_option maxHeartbeats 4000000 in
theorem letters_any (ms : List Int) (B mc : Nat) (mg : Nat) (b c p : Nat) (A : Option Addr) (rs : List Int) (w : World) (hms : ms.length ≤ 100) (hm0 : ∀ m, m ∈ ms → 0 ≤ m ∧ m ≤ 1000)
    (hr : w.ownsRow B 21 1 (.slice (some ⟨mg, 0, none⟩) ms.length mc) ms.length (ms.map (.int .i32))) (h : Sc w b A c rs p) :
    Calls Tryz.prog 293 #[.pointer (some ⟨b, 0, none⟩), .slice (some ⟨mg, 0, none⟩) ms.length mc] w (IriPost w b A c rs (wordE rs ms p) (.string (strL (part rs p (wordE rs ms p))))) := by
  obtain ⟨q, hq⟩ : ∃ x, x = wordE rs ms p := ⟨_, rfl⟩
  rw [← hq]
  have HR0 := Lib.hid (fun K kc B q w1 h1 hr => run_sc b c q B kc A K rs [1, 2] w1 (by decide) h1 hr)
  have HK := Lib.hid (fun q w1 h1 => peek_sc b c q A rs w1 h1)
  have HN := Lib.hid (fun q w1 h1 => next_sc b c q A rs w1 h1)
  have HS := Lib.hid h
  have HQ := Lib.hid hq
  have HMR := Lib.hid hr
  have hbl := h.blk.lt
  have hle := h.le
  have hsm := h.small
  clear h hq hr
  go_enter Tryz.func293, Tryz.ntmps293
  go_wp2_with fail
  have BU0 := Lib.hid (show Bu (w.alloc (.cells #[.pointer none, .slice none 0 0] 263)) w.heap.size w.heap.size (encL (part rs p p)) from by rw [part_none]; exact ⟨_, _, Blk.new _ _ _, .inl rfl, World.ownsRow_nil _ _ _ _, Nat.le_refl _⟩)
  have hmg : mg ≠ b := fun e => own_blk_ne HMR.out HS.out.blk (by decide) (by rw [← e]; rfl)
  have hmlt := (HMR.out.lt mg rfl).2
  go_loopg [] (rs.length + 1) (fun g wr => ∃ (i : Nat), rs.length + 1 ≤ i + g ∧ p ≤ i ∧ i ≤ rs.length ∧ wordE rs ms i = q ∧ Sc wr b A c rs i ∧ wr.ownsRow B 21 1 (.slice (some ⟨mg, 0, none⟩) ms.length mc) ms.length (ms.map (.int .i32)) ∧ Bu wr w.heap.size w.heap.size (encL (part rs p i)) ∧ Fr (fun j => j = b ∨ w.heap.size ≤ j) w wr ∧ w.heap.size < wr.heap.size)
  case atStart => exact ⟨p, by omega, Nat.le_refl _, hle, HQ.out.symm, HS.out.frF ((Fr.refl _ _).alloc _), HMR.out.alloc _, BU0.out, (Fr.refl _ _).alloc _, by simp⟩
  case round =>
    obtain ⟨i, hg, hpi, hi, hwe, hs, hmr, hbu, hfr, hszw⟩ := hrel
    have hf0 : Fr (fun _ => False) wr (wr.alloc (.cells #[.int .i64 1, .int .i64 2] 3)) := (Fr.refl _ _).alloc _
    have hown := World.ownsRow_lit (base := 0) (e := 3) (size := 1) wr #[.int .i64 1, .int .i64 2] 2 (Nat.zero_le _) (by decide) rfl
    have HRUN := Lib.hid (HR0.out (some ⟨wr.heap.size, 0, none⟩) 2 0 i _ (hs.frF hf0) hown)
    have hsl := skip_le rs [1, 2] (rs.length - i) i (Nat.le_refl _) hi
    have hwe2 := wordE_skip rs ms (rs.length - i) i (Nat.le_refl _)
    have HLST := Lib.hid (fun hn => word_last (rs := rs) (ms := ms) (p := i) (i := skip rs [1, 2] i) rfl hn)
    unfold RunPost at HRUN
    have HPR := Lib.hid (part_runes rs i (skip rs [1, 2] i))
    have HPA := Lib.hid (part_add rs p i (skip rs [1, 2] i) hpi hsl.1)
    generalize skip rs [1, 2] i = i1 at *
    have hpz : (runesBytes ((rs.drop i).take (i1 - i))).size ≤ 20000 := by
      have h1 := runesBytes_size_le ((rs.drop i).take (i1 - i))
      have h2 : ((rs.drop i).take (i1 - i)).length ≤ rs.length := by rw [List.length_take, List.length_drop]; omega
      omega
    generalize runesBytes ((rs.drop i).take (i1 - i)) = str at *
    have hel := encL_len (part rs p i)
    have hpl := part_len rs p i
    have HWS := Lib.hid (fun w2 hB hu => wstr_any w.heap.size w.heap.size (encL (part rs p i)) str w2 (by omega) (by omega) hB hu)
    rw [HPR.out, ← encL_append, HPA.out] at HWS
    have HMR2 := Lib.hid (hmr.alloc (.cells #[.int .i64 1, .int .i64 2] 3))
    have HSW := Lib.hid (hs.frF hf0)
    have HBU := Lib.hid (hbu.frF hf0)
    have HFR := Lib.hid (hfr.trans hf0 (fun _ _ h => h.elim))
    have HWE := Lib.hid (hwe2.trans hwe)
    clear hs hmr hbu hfr hf0 hown hwe hwe2
    go_wp2_with fail
    refine HRUN.out.mono ?_
    rintro e w2 ⟨rfl, hs2, hf2⟩
    have HS2 := Lib.hid hs2
    have HB2 := Lib.hid (HBU.out.fr HSW.out.blk hf2)
    have HF2 := Lib.hid (HFR.out.trans hf2 (fun _ _ h => .inl h))
    have HM2 := Lib.hid (ownsRow_fr HMR2.out hf2 (fun j hj e => own_blk_ne HMR2.out HSW.out.blk (by decide) (by rw [hj, e])))
    have hz2 := hf2.size
    have hzA : wr.heap.size < (wr.alloc (.cells #[.int .i64 1, .int .i64 2] 3)).heap.size := by simp
    clear hf2 hs2
    go_wp2_with fail
    refine (HWS.out _ (by omega) HB2.out).mono ?_
    rintro e w3 ⟨⟨kk, rfl⟩, hb3, hf3⟩
    have HS3 := Lib.hid (HS2.out.old HS.out (Nat.le_refl _) hf3)
    have HB3 := Lib.hid hb3
    have HF3 := Lib.hid (HF2.out.trans hf3 (fun _ _ h => .inr h))
    have HM3 := Lib.hid (ownsRow_fr HM2.out hf3 (fun j hj e => by have e2 : mg = j := Option.some.inj hj; have e4 : w.heap.size ≤ j := e; omega))
    have hz3 := hf3.size
    clear hf3 hb3
    go_wp2_with fail
    go_loopg [6, 15] (ms.length) (fun g a6 a15 wi => ∃ (j i2 : Nat) (mo : Bool), ms.length ≤ j + g ∧ j ≤ ms.length ∧ a6 = .bool mo ∧ a15 = .int .i64 (j : Int) ∧ i1 ≤ i2 ∧ i2 ≤ rs.length ∧ wordE rs ms i2 = q ∧ Sc wi b A c rs i2 ∧ wi.ownsRow B 21 1 (.slice (some ⟨mg, 0, none⟩) ms.length mc) ms.length (ms.map (.int .i32)) ∧ Bu wi w.heap.size w.heap.size (encL (part rs p i2)) ∧ Fr (fun j => j = b ∨ w.heap.size ≤ j) w wi ∧ w.heap.size < wi.heap.size ∧ (mo = false → i2 = i1 ∧ ∀ m, m < j → ¬ peekOf rs i1 = ms.getD m 0) ∧ (mo = true → i1 < i2))
    case atStart => exact ⟨0, i1, false, by omega, Nat.zero_le _, rfl, rfl, Nat.le_refl _, by omega, HWE.out, HS3.out, HM3.out, HB3.out, HF3.out, by omega, fun _ => ⟨rfl, fun m hm => absurd hm (Nat.not_lt_zero _)⟩, fun h => absurd h Bool.false_ne_true⟩
    case round =>
      obtain ⟨j, i2, mo, hjg, hj, rfl, rfl, hi12, hi2, hwi, hs4, hm4, hb4, hf4, hz4, hmoF, hmoT⟩ := hrel
      have HSI := Lib.hid hs4
      have HMI := Lib.hid hm4
      have HBI := Lib.hid hb4
      have HFI := Lib.hid hf4
      have HWI := Lib.hid hwi
      have HKK := Lib.hid (HK.out i2 _ hs4)
      by_cases hjl : j < ms.length
      · have cm := rune_cell hm4 j hjl
        have hm01 := hm0 (ms.getD j 0) (by rw [List.getD_eq_getElem?_getD, List.getElem?_eq_getElem hjl]; exact List.getElem_mem hjl)
        clear hs4 hm4 hb4 hf4 hwi
        by_cases hpk : peekOf rs i2 = ms.getD j 0
        · obtain ⟨hil, hgd, hst⟩ := word_mark (rs := rs) (ms := ms) (i := i2) hjl hm01.1 hpk
          have HNN := Lib.hid (fun w1 h1 => HN.out i2 w1 h1)
          unfold nextAt at HNN
          rw [if_pos hil] at HNN
          have hel2 := encL_len (part rs p i2)
          have hpl2 := part_len rs p i2
          have HPO := Lib.hid (part_one rs p i2 (by omega) hil)
          rw [hgd] at HPO
          have HWW := Lib.hid (fun w2 hB hu => wruneG_any w.heap.size w.heap.size (encL (part rs p i2)) (peekOf rs i2) w2 (by omega) (by omega) (by omega) hB hu)
          rw [encL_push, HPO.out] at HWW
          have HST := Lib.hid (hst.symm.trans HWI.out)
          have hmn : ∀ m, m < j + 1 → True := fun _ _ => trivial
          clear hst hgd
          rw [hpk] at HKK HNN HWW
          generalize ms.getD j 0 = r at *
          go_wp2_with fail
          refine HKK.out.mono ?_
          rintro e w4 ⟨rfl, hf4⟩
          have HS4 := Lib.hid (HSI.out.frF hf4)
          have HB4 := Lib.hid (HBI.out.frF hf4)
          have HF4 := Lib.hid (HFI.out.trans hf4 (fun _ _ h => h.elim))
          have HM4 := Lib.hid (ownsRow_fr HMI.out hf4 (fun _ _ h => h))
          have hz4' := hf4.size
          clear hf4
          go_wp2_with fail
          refine (HNN.out _ HS4.out).mono ?_
          rintro e w5 ⟨rfl, hs5, hf5⟩
          have HS5 := Lib.hid hs5
          have HB5 := Lib.hid (HB4.out.fr HS4.out.blk hf5)
          have HF5 := Lib.hid (HF4.out.trans hf5 (fun _ _ h => .inl h))
          have HM5 := Lib.hid (ownsRow_fr HM4.out hf5 (fun j hj e => own_blk_ne HM4.out HS4.out.blk (by decide) (by rw [hj, e])))
          have hz5 := hf5.size
          clear hf5 hs5
          go_wp2_with fail
          refine (HWW.out _ (by omega) HB5.out).mono ?_
          rintro e w6 ⟨⟨kk6, rfl⟩, hb6, hf6⟩
          have HS6 := Lib.hid (HS5.out.old HS.out (Nat.le_refl _) hf6)
          have HB6 := Lib.hid hb6
          have HF6 := Lib.hid (HF5.out.trans hf6 (fun _ _ h => .inr h))
          have HM6 := Lib.hid (ownsRow_fr HM5.out hf6 (fun j hj e => by have e2 : mg = j := Option.some.inj hj; have e4 : w.heap.size ≤ j := e; omega))
          have hz6 := hf6.size
          clear hf6 hb6
          go_wp2_with fail
          go_roundg (ms.length - (j + 1))
          case measure => omega
          case rel => exact ⟨j + 1, i2 + 1, true, by omega, by omega, rfl, rfl, by omega, by omega, HST.out, HS6.out, HM6.out, HB6.out, HF6.out, by omega, fun h => absurd h.symm Bool.false_ne_true, fun _ => by omega⟩
        · have hpk2 : (peekOf rs i2 == ms.getD j 0) = false := by simpa using hpk
          have HNX := Lib.hid (show mo = false → i2 = i1 ∧ ∀ m, m < j + 1 → ¬ peekOf rs i1 = ms.getD m 0 from fun h => ⟨(hmoF h).1, fun m hm => by
            by_cases hm2 : m < j
            · exact (hmoF h).2 m hm2
            · have e3 : m = j := by omega
              rw [e3, ← (hmoF h).1]
              exact hpk⟩)
          generalize ms.getD j 0 = r at *
          go_wp2_with fail
          refine HKK.out.mono ?_
          rintro e w4 ⟨rfl, hf4⟩
          have HS4 := Lib.hid (HSI.out.frF hf4)
          have HB4 := Lib.hid (HBI.out.frF hf4)
          have HF4 := Lib.hid (HFI.out.trans hf4 (fun _ _ h => h.elim))
          have HM4 := Lib.hid (ownsRow_fr HMI.out hf4 (fun _ _ h => h))
          have hz4' := hf4.size
          clear hf4
          go_wp2_with fail
          go_roundg (ms.length - (j + 1))
          case measure => omega
          case rel => exact ⟨j + 1, i2, mo, by omega, by omega, rfl, rfl, hi12, hi2, HWI.out, HS4.out, HM4.out, HB4.out, HF4.out, by omega, HNX.out, hmoT⟩
      · clear hs4 hm4 hb4 hf4 hwi
        cases mo with
        | true =>
          have hlt := hmoT rfl
          go_wp2_with fail
          go_roundg (rs.length + 1 - i2)
          case measure => omega
          case rel => exact ⟨i2, by omega, by omega, hi2, HWI.out, HSI.out, HMI.out, HBI.out, HFI.out, by omega⟩
        | false =>
          obtain ⟨e12, hnm⟩ := hmoF rfl
          have hje : j = ms.length := by omega
          have hlast := HLST.out (fun m hm => hnm m (by omega))
          subst e12
          have hq2 : i2 = q := hlast.symm.trans HWI.out
          subst hq2
          have HSTR := Lib.hid (fun w2 hB hu => bstringG_any w.heap.size w.heap.size (encL (part rs p i2)) w2 hB hu)
          go_wp2_with fail
          refine (HSTR.out _ (by omega) HBI.out).mono ?_
          rintro e w5 ⟨rfl, hf5⟩
          have HS5 := Lib.hid (HSI.out.old HS.out (Nat.le_refl _) hf5)
          have HF5 := Lib.hid (HFI.out.trans hf5 (fun _ _ h => .inr h))
          clear hf5
          go_wp2_with fail
          go_ret
          exact ⟨rfl, HS5.out, HF5.out.mono (fun j hj h => h.elim id (fun h => absurd h (by omega)))⟩

end Go.Proofs.YtebddgdkndmpjaaGreatDoor
