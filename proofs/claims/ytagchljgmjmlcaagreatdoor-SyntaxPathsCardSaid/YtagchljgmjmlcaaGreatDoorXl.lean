/- What the document calls good is good to the program, and the other way: plain. -/
import Derived.Test.YtagchljgmjmlcaaGreatDoorXk
import Derived.Lib.DecodeN
import Derived.Laws.RangeString
import Derived.Deep.CutBlock
import Derived.Deep.RegionLawGrows
import Derived.Deep.Cut
import Derived.Deep.CutRange
import Derived.WalkKit
import Derived.WalkLawsBesides
import Derived.WalkSpells
import Derived.Deep.QuietTactic
import Derived.BigRegion
import Derived.BigQuiet
import Derived.Lib.Hide
import Derived.Outline
import Derived.Deep.AppendLies
import Derived.Deep.RegionLaw
import Derived.Deep.RegionWith
import Derived.Deep.RegionHeld3
import Derived.Deep.LoopGhost
import Derived.Deep.DeepFit
import Derived.Laws.ResultCell
import Derived.Laws.RangeAny
import Derived.Deep.MidRow
import Derived.StillTailTactics
import Derived.OpenShut
namespace Go.Proofs.YtagchljgmjmlcaaGreatDoor
set_option linter.unusedVariables false
open Go.RowKit Go
set_option linter.unusedVariables false
open Go.RowKit Go

theorem ext_list (s : ByteArray) (p : Nat) : (s.extract p s.size).data.toList = s.data.toList.drop p := by
 rw [← Lib.toList_data, Lib.extract_toList, List.take_of_length_le (by simp)]
theorem ext_size (s : ByteArray) (p : Nat) : (s.extract p s.size).size = s.size - p := by
 simp
theorem byteAt_ext (s : ByteArray) (p k : Nat) : byteAt (s.extract p s.size) k = byteAt s (p + k) := by
 unfold byteAt
 rw [ext_list]
 simp [List.getD_eq_getElem?_getD, List.getElem?_drop]
theorem byteAt_get (s : ByteArray) (k : Nat) : byteAt s k = ((s.get! k).toNat : Int) := by
 unfold byteAt
 obtain ⟨⟨l⟩⟩ := s
 congr 2
 show l.getD k 0 = (Array.mk l)[k]!
 simp [List.getD_eq_getElem?_getD]
 rfl

/-- The first sign of a text, by its bytes. -/
def firstN (n : Nat) (b0 b1 b2 b3 : Int) : Int × Nat :=
 if b0 < 128 then (b0, 1) else if b0 < 192 then (-1, 0)
 else if b0 < 224 then (if n < 2 ∨ b1 < 128 ∨ 191 < b1 then (-1, 0) else if rSign ((b0 - 192) * 64 + b1 - 128) = true ∧ rBytesLen ((b0 - 192) * 64 + b1 - 128) = 2 then ((b0 - 192) * 64 + b1 - 128, 2) else (-1, 0))
 else if b0 < 240 then (if n < 3 ∨ b1 < 128 ∨ 191 < b1 ∨ b2 < 128 ∨ 191 < b2 then (-1, 0) else if rSign (((b0 - 224) * 64 + b1 - 128) * 64 + b2 - 128) = true ∧ rBytesLen (((b0 - 224) * 64 + b1 - 128) * 64 + b2 - 128) = 3 then (((b0 - 224) * 64 + b1 - 128) * 64 + b2 - 128, 3) else (-1, 0))
 else if b0 < 248 then (if n < 4 ∨ b1 < 128 ∨ 191 < b1 ∨ b2 < 128 ∨ 191 < b2 ∨ b3 < 128 ∨ 191 < b3 then (-1, 0) else if rSign ((((b0 - 240) * 64 + b1 - 128) * 64 + b2 - 128) * 64 + b3 - 128) = true ∧ rBytesLen ((((b0 - 240) * 64 + b1 - 128) * 64 + b2 - 128) * 64 + b3 - 128) = 4 then ((((b0 - 240) * 64 + b1 - 128) * 64 + b2 - 128) * 64 + b3 - 128, 4) else (-1, 0))
 else (-1, 0)
theorem rEnd2 (s : ByteArray) (n : Int) : rEnd s n 2 = if s.size < 2 ∨ byteAt s 1 < 128 ∨ 191 < byteAt s 1 then (-1, 0) else if rSign (n * 64 + byteAt s 1 - 128) = true ∧ rBytesLen (n * 64 + byteAt s 1 - 128) = 2 then (n * 64 + byteAt s 1 - 128, 2) else (-1, 0) := by
 unfold rEnd
 by_cases h : s.size < 2
 · rw [if_pos h, if_pos (.inl h)]
 · rw [if_neg h, rCont_step s 2 1 n (by decide)]
   by_cases h1 : byteAt s 1 < 128 ∨ 191 < byteAt s 1
   · rw [if_pos h1, if_pos (.inr h1)]
     rfl
   · rw [if_neg h1, rCont_end s 2 2 _ (by decide), rDone_some, if_neg (show ¬ (s.size < 2 ∨ byteAt s 1 < 128 ∨ 191 < byteAt s 1) by omega)]
theorem rEnd3 (s : ByteArray) (n : Int) : rEnd s n 3 = if s.size < 3 ∨ byteAt s 1 < 128 ∨ 191 < byteAt s 1 ∨ byteAt s 2 < 128 ∨ 191 < byteAt s 2 then (-1, 0) else if rSign ((n * 64 + byteAt s 1 - 128) * 64 + byteAt s 2 - 128) = true ∧ rBytesLen ((n * 64 + byteAt s 1 - 128) * 64 + byteAt s 2 - 128) = 3 then ((n * 64 + byteAt s 1 - 128) * 64 + byteAt s 2 - 128, 3) else (-1, 0) := by
 unfold rEnd
 by_cases h : s.size < 3
 · rw [if_pos h, if_pos (.inl h)]
 · rw [if_neg h, rCont_step s 3 1 n (by decide)]
   by_cases h1 : byteAt s 1 < 128 ∨ 191 < byteAt s 1
   · rw [if_pos h1, if_pos (by omega)]
     rfl
   · rw [if_neg h1, rCont_step s 3 2 _ (by decide)]
     by_cases h2 : byteAt s 2 < 128 ∨ 191 < byteAt s 2
     · rw [if_pos h2, if_pos (by omega)]
       rfl
     · rw [if_neg h2, rCont_end s 3 3 _ (by decide), rDone_some, if_neg (show ¬ (s.size < 3 ∨ byteAt s 1 < 128 ∨ 191 < byteAt s 1 ∨ byteAt s 2 < 128 ∨ 191 < byteAt s 2) by omega)]
theorem rEnd4 (s : ByteArray) (n : Int) : rEnd s n 4 = if s.size < 4 ∨ byteAt s 1 < 128 ∨ 191 < byteAt s 1 ∨ byteAt s 2 < 128 ∨ 191 < byteAt s 2 ∨ byteAt s 3 < 128 ∨ 191 < byteAt s 3 then (-1, 0) else if rSign (((n * 64 + byteAt s 1 - 128) * 64 + byteAt s 2 - 128) * 64 + byteAt s 3 - 128) = true ∧ rBytesLen (((n * 64 + byteAt s 1 - 128) * 64 + byteAt s 2 - 128) * 64 + byteAt s 3 - 128) = 4 then (((n * 64 + byteAt s 1 - 128) * 64 + byteAt s 2 - 128) * 64 + byteAt s 3 - 128, 4) else (-1, 0) := by
 unfold rEnd
 by_cases h : s.size < 4
 · rw [if_pos h, if_pos (.inl h)]
 · rw [if_neg h, rCont_step s 4 1 n (by decide)]
   by_cases h1 : byteAt s 1 < 128 ∨ 191 < byteAt s 1
   · rw [if_pos h1, if_pos (by omega)]
     rfl
   · rw [if_neg h1, rCont_step s 4 2 _ (by decide)]
     by_cases h2 : byteAt s 2 < 128 ∨ 191 < byteAt s 2
     · rw [if_pos h2, if_pos (by omega)]
       rfl
     · rw [if_neg h2, rCont_step s 4 3 _ (by decide)]
       by_cases h3 : byteAt s 3 < 128 ∨ 191 < byteAt s 3
       · rw [if_pos h3, if_pos (by omega)]
         rfl
       · rw [if_neg h3, rCont_end s 4 4 _ (by decide), rDone_some, if_neg (show ¬ (s.size < 4 ∨ byteAt s 1 < 128 ∨ 191 < byteAt s 1 ∨ byteAt s 2 < 128 ∨ 191 < byteAt s 2 ∨ byteAt s 3 < 128 ∨ 191 < byteAt s 3) by omega)]
theorem rFirst_N (s : ByteArray) : rFirst s = firstN s.size (byteAt s 0) (byteAt s 1) (byteAt s 2) (byteAt s 3) := by
 unfold rFirst firstN
 rw [rEnd2, rEnd3, rEnd4]
theorem rSign_iff (x : Int) : rSign x = true ↔ (0 ≤ x ∧ x ≤ 1114111 ∧ (x < 55296 ∨ 57343 < x)) := by
 unfold rSign
 exact decide_eq_true_iff
theorem rLen_iff2 (x : Int) : rBytesLen x = 2 ↔ (128 ≤ x ∧ x < 2048) := by
 unfold rBytesLen
 repeat' split
 all_goals omega
theorem rLen_iff3 (x : Int) : rBytesLen x = 3 ↔ (2048 ≤ x ∧ x < 65536) := by
 unfold rBytesLen
 repeat' split
 all_goals omega
theorem rLen_iff4 (x : Int) : rBytesLen x = 4 ↔ 65536 ≤ x := by
 unfold rBytesLen
 repeat' split
 all_goals omega
set_option maxRecDepth 100000 in
set_option maxHeartbeats 4000000 in
theorem firstN_decode (n b0 b1 b2 b3 : Nat) (h0 : b0 < 256) (h1 : b1 < 256) (h2 : b2 < 256) (h3 : b3 < 256) (h : (firstN n b0 b1 b2 b3).2 ≠ 0) :
    (((Lib.decodeN n b0 b1 b2 b3).1 : Nat) : Int) = (firstN n b0 b1 b2 b3).1 ∧ (Lib.decodeN n b0 b1 b2 b3).2 = (firstN n b0 b1 b2 b3).2 ∧
    rSign (firstN n b0 b1 b2 b3).1 = true ∧ ((firstN n b0 b1 b2 b3).1 = 65533 → 3 ≤ n ∧ b0 = 239 ∧ b1 = 191 ∧ b2 = 189) ∧ ((firstN n b0 b1 b2 b3).1 < 128 → (firstN n b0 b1 b2 b3).1 = b0) := by
 unfold firstN at h ⊢
 simp only [rSign_iff, rLen_iff2, rLen_iff3, rLen_iff4] at h ⊢
 unfold Lib.decodeN
 by_cases c0 : (b0 : Int) < 128
 · rw [if_pos c0, if_pos (by omega)]
   exact ⟨rfl, rfl, by omega, fun h => by omega, fun _ => rfl⟩
 · rw [if_neg c0] at h ⊢
   rw [if_neg (show ¬ b0 < 128 by omega)]
   by_cases c1 : (b0 : Int) < 192
   · rw [if_pos c1] at h
     exact absurd rfl h
   · rw [if_neg c1] at h ⊢
     by_cases c2 : (b0 : Int) < 224
     · rw [if_pos c2] at h ⊢
       split at h
       · exact absurd rfl h
       · rename_i d1
         rw [if_neg d1]
         split at h
         · rename_i d2
           rw [if_pos d2, if_pos (by omega), if_pos (by omega)]
           refine ⟨?_, rfl, ?_, ?_, ?_⟩ <;> simp only <;> omega
         · exact absurd rfl h
     · rw [if_neg c2] at h ⊢
       rw [if_neg (show ¬ (b0 / 32 = 6 ∧ (1 < n ∧ b1 / 64 = 2)) by omega)]
       by_cases c3 : (b0 : Int) < 240
       · rw [if_pos c3] at h ⊢
         split at h
         · exact absurd rfl h
         · rename_i d1
           rw [if_neg d1]
           split at h
           · rename_i d2
             rw [if_pos d2, if_pos (by omega), if_pos (by omega)]
             refine ⟨?_, rfl, ?_, ?_, ?_⟩ <;> simp only <;> omega
           · exact absurd rfl h
       · rw [if_neg c3] at h ⊢
         rw [if_neg (show ¬ (b0 / 16 = 14 ∧ (1 < n ∧ b1 / 64 = 2) ∧ (2 < n ∧ b2 / 64 = 2)) by omega)]
         by_cases c4 : (b0 : Int) < 248
         · rw [if_pos c4] at h ⊢
           split at h
           · exact absurd rfl h
           · rename_i d1
             rw [if_neg d1]
             split at h
             · rename_i d2
               rw [if_pos d2, if_pos (by omega), if_pos (by omega)]
               refine ⟨?_, rfl, ?_, ?_, ?_⟩ <;> simp only <;> omega
             · exact absurd rfl h
         · rw [if_neg c4] at h
           exact absurd rfl h
theorem drop3 (l : List UInt8) (p : Nat) (h : p + 3 ≤ l.length) : l.drop p = l.getD p 0 :: l.getD (p + 1) 0 :: l.getD (p + 2) 0 :: l.drop (p + 3) := by
 rw [List.drop_eq_getElem_cons (by omega), List.drop_eq_getElem_cons (i := p + 1) (by omega), List.drop_eq_getElem_cons (i := p + 2) (by omega)]
 simp [List.getD_eq_getElem?_getD, show p < l.length by omega, show p + 1 < l.length by omega, show p + 2 < l.length by omega]
/-- What the document reads as the first sign is what the library reads. -/
theorem first_decode (s : ByteArray) (p : Nat) (hp : p < s.size) (h : (rFirst (s.extract p s.size)).2 ≠ 0) :
    (((Utf8.decode s p).1 : Nat) : Int) = (rFirst (s.extract p s.size)).1 ∧ (Utf8.decode s p).2 = (rFirst (s.extract p s.size)).2 ∧ okS s p (Utf8.decode s p).1 = true ∧ rSign (rFirst (s.extract p s.size)).1 = true ∧
    ((rFirst (s.extract p s.size)).1 < 128 → (rFirst (s.extract p s.size)).1 = byteAt s p) := by
 rw [rFirst_N, ext_size, byteAt_ext, byteAt_ext, byteAt_ext, byteAt_ext] at *
 rw [show byteAt s p = byteAt s (p + 0) from rfl]
 rw [byteAt_get s (p + 0), byteAt_get s (p + 1), byteAt_get s (p + 2), byteAt_get s (p + 3)] at *
 have hb : ∀ k, (s.get! k).toNat < 256 := fun k => (s.get! k).toNat_lt
 obtain ⟨e1, e2, e3, e4, e5⟩ := firstN_decode (s.size - p) _ _ _ _ (hb _) (hb _) (hb _) (hb _) h
 rw [Lib.decode_at]
 refine ⟨e1, e2, ?_, e3, e5⟩
 unfold okS
 rw [← Lib.decode_at]
 rw [Bool.or_eq_true]
 by_cases hr : (Utf8.decode s p).1 = 65533
 · right
   have e6 : (firstN (s.size - p) ((s.get! (p + 0)).toNat : Int) ((s.get! (p + 1)).toNat : Int) ((s.get! (p + 2)).toNat : Int) ((s.get! (p + 3)).toNat : Int)).1 = 65533 := by
    rw [← e1]
    rw [Lib.decode_at] at hr
    exact congrArg (fun n : Nat => (n : Int)) hr
   obtain ⟨f0, f1, f2, f3⟩ := e4 e6
   have g : ∀ k m : Nat, (s.get! k).toNat = m → ((s.data.toList.getD k 0).toNat : Int) = m := fun k m e => by
    have := byteAt_get s k
    unfold byteAt at this
    rw [this, e]
   have g1 := g _ _ f1
   have g2 := g _ _ f2
   have g3 := g _ _ f3
   rw [ext_list, drop3 _ p (by have : s.data.toList.length = s.size := by simp
                               omega)]
   have u : ∀ (x : UInt8) (m : Nat), ((x.toNat : Nat) : Int) = m → m < 256 → x = UInt8.ofNat m := fun x m e hm => by
    apply UInt8.toNat_inj.1
    rw [UInt8.toNat_ofNat', Nat.mod_eq_of_lt (by omega)]
    omega
   rw [show s.data.toList.getD p 0 = 239 from u _ 239 g1 (by decide), u _ 191 g2 (by decide), u _ 189 g3 (by decide)]
   rfl
 · left
   simp [hr]

/-- The signs of a text, from a place on, as the library reads them. -/
def runesFrom (s : ByteArray) (p : Nat) : List Int :=
 if h : p < s.size then ((Utf8.decode s p).1 : Int) :: runesFrom s (p + (Utf8.decode s p).2) else []
termination_by s.size - p
decreasing_by have := width_pos s p h; omega
theorem runes_step (s : ByteArray) (p : Nat) (h : p < s.size) : runesFrom s p = ((Utf8.decode s p).1 : Int) :: runesFrom s (p + (Utf8.decode s p).2) := by
 rw [runesFrom, dif_pos h]
theorem runes_end (s : ByteArray) (p : Nat) (h : ¬ p < s.size) : runesFrom s p = [] := by
 rw [runesFrom, dif_neg h]
theorem signs_runes (s : ByteArray) : ∀ (m i : Nat) (l : List Int), s.size - i ≤ m → (rSignsFrom s i l).2 = true → (rSignsFrom s i l).1 = l ++ runesFrom s i ∧ textFrom s i = true ∧ (∀ x, x ∈ runesFrom s i → rSign x = true) ∧ ((58 : Int) ∈ runesFrom s i → (58 : UInt8) ∈ s.data.toList)
 | 0, i, l, hm, h => by
  have hn : ¬ i < s.size := by omega
  rw [rSignsFrom_end s i l hn, runes_end s i hn, textFrom_end s i hn, List.append_nil]
  exact ⟨rfl, rfl, fun x hx => absurd hx (List.not_mem_nil), fun hx => absurd hx (List.not_mem_nil)⟩
 | m + 1, i, l, hm, h => by
  by_cases hi : i < s.size
  · rw [rSignsFrom_step s i l hi] at h ⊢
    by_cases h0 : (rFirst (s.extract i s.size)).2 = 0
    · rw [if_pos h0] at h
      cases h
    · rw [if_neg h0] at h ⊢
      obtain ⟨d1, d2, d3, d4, d5⟩ := first_decode s i hi h0
      obtain ⟨i1, i2, i3, i4⟩ := signs_runes s m _ _ (by omega) h
      rw [i1, runes_step s i hi, textFrom_step s i hi, d1, d2, d3, i2]
      refine ⟨by simp only [List.append_assoc, List.singleton_append], rfl, fun x hx => ?_, fun hx => ?_⟩
      · rcases List.mem_cons.1 hx with hx | hx
        · rw [hx]
          exact d4
        · exact i3 x hx
      · rcases List.mem_cons.1 hx with hx | hx
        · have h5 := d5 (by omega)
          rw [← hx] at h5
          unfold byteAt at h5
          have hl : i < s.data.toList.length := by simpa using hi
          have : s.data.toList.getD i 0 = 58 := UInt8.toNat_inj.1 (by
           have h6 : (s.data.toList.getD i 0).toNat = 58 := by omega
           rw [h6]
           rfl)
          rw [← this, List.getD_eq_getElem?_getD, List.getElem?_eq_getElem hl]
          exact List.getElem_mem hl
        · exact i4 hx
  · rw [rSignsFrom_end s i l hi, runes_end s i hi, textFrom_end s i hi, List.append_nil]
    exact ⟨rfl, rfl, fun x hx => absurd hx (List.not_mem_nil), fun hx => absurd hx (List.not_mem_nil)⟩
theorem iriFrom_runes (s : ByteArray) : ∀ (m i : Nat), s.size - i ≤ m → iriFrom s i = (runesFrom s i).all iriSign
 | 0, i, hm => by
  have hn : ¬ i < s.size := by omega
  rw [iriFrom_end s i hn, runes_end s i hn]
  rfl
 | m + 1, i, hm => by
  by_cases hi : i < s.size
  · have := width_pos s i hi
    rw [iriFrom_step s i hi, runes_step s i hi, List.all_cons, iriFrom_runes s m _ (by omega)]
  · rw [iriFrom_end s i hi, runes_end s i hi]
    rfl
theorem rBad_forb (n : Int) : rBad n 0 = forbOf n := by
 rw [rBad_step n 0 (by decide), rBad_step n 1 (by decide), rBad_step n 2 (by decide), rBad_step n 3 (by decide), rBad_step n 4 (by decide), rBad_step n 5 (by decide), rBad_step n 6 (by decide), rBad_step n 7 (by decide), rBad_step n 8 (by decide), rBad_end n 9 (by decide)]
 rw [show byteAt badS 0 = 60 from rfl, show byteAt badS 1 = 62 from rfl, show byteAt badS 2 = 34 from rfl, show byteAt badS 3 = 123 from rfl, show byteAt badS 4 = 125 from rfl, show byteAt badS 5 = 124 from rfl, show byteAt badS 6 = 94 from rfl, show byteAt badS 7 = 96 from rfl, show byteAt badS 8 = 92 from rfl]
 unfold forbOf
 rw [Bool.eq_iff_iff]
 simp
theorem rClass_of {x : Int} (h : rSign x = true) : rClass x = classOf x := by
 unfold rClass classOf
 rw [h]
 rw [if_neg (by decide)]
 repeat' split
 all_goals first | rfl | (exfalso; omega)
theorem rIri_all (l : List Int) (hs : ∀ x, x ∈ l → rSign x = true) : ∀ (m i : Nat) (c : Int), l.length - i ≤ m → rIriFrom l i c = true → ∀ j, i ≤ j → j < l.length → iriSign (l.getD j 0) = true
 | 0, i, c, hm, h, j, h1, h2 => absurd h2 (by omega)
 | m + 1, i, c, hm, h, j, h1, h2 => by
  have hi : i < l.length := by omega
  rw [rIriFrom_step l i c hi] at h
  split at h
  · cases h
  · rename_i hc
    split at h
    · cases h
    · rename_i hb
      by_cases e : j = i
      · subst e
        have hm : l.getD j 0 ∈ l := by
         rw [List.getD_eq_getElem?_getD, List.getElem?_eq_getElem hi]
         exact List.getElem_mem hi
        rw [rClass_of (hs _ hm)] at hc
        rw [rBad_forb] at hb
        unfold iriSign
        rw [Bool.not_eq_true] at hb
        rw [hb]
        simp only [Bool.or_false, Bool.not_eq_true', Bool.or_eq_false_iff, beq_eq_false_iff_ne]
        omega
      · exact rIri_all l hs m (i + 1) _ (by omega) h j (by omega) h2
theorem rIri_zero (l : List Int) : ∀ (m i : Nat), l.length - i ≤ m → rIriFrom l i 0 = true → False
 | 0, i, hm, h => by
  rw [rIriFrom_end l i 0 (by omega)] at h
  cases h
 | m + 1, i, hm, h => by
  by_cases hi : i < l.length
  · rw [rIriFrom_step l i 0 hi] at h
    split at h
    · cases h
    · split at h
      · cases h
      · have e : rColon (l.getD i 0) i 0 = 0 := by
         unfold rColon
         rw [if_neg (by omega)]
        rw [e] at h
        exact rIri_zero l m (i + 1) (by omega) h
  · rw [rIriFrom_end l i 0 hi] at h
    cases h
theorem rIri_colon (l : List Int) : ∀ (m i : Nat), l.length - i ≤ m → rIriFrom l i (-1) = true → (58 : Int) ∈ l
 | 0, i, hm, h => by
  rw [rIriFrom_end l i (-1) (by omega)] at h
  cases h
 | m + 1, i, hm, h => by
  by_cases hi : i < l.length
  · rw [rIriFrom_step l i (-1) hi] at h
    split at h
    · cases h
    · split at h
      · cases h
      · by_cases e : l.getD i 0 = 58
        · rw [← e, List.getD_eq_getElem?_getD, List.getElem?_eq_getElem hi]
          exact List.getElem_mem hi
        · have e2 : rColon (l.getD i 0) i (-1) = -1 := by
           unfold rColon
           rw [if_neg (by omega)]
          rw [e2] at h
          exact rIri_colon l m (i + 1) (by omega) h
  · rw [rIriFrom_end l i (-1) hi] at h
    cases h
theorem indexByte_mem (c : UInt8) : ∀ l : List UInt8, c ∈ l → 0 ≤ Lib.indexByte l c
 | b :: l, h => by
  unfold Lib.indexByte
  split
  · exact Int.le_refl _
  · rename_i hb
    rcases List.mem_cons.1 h with e | h
    · rw [e] at hb
      simp at hb
    · have := indexByte_mem c l h
      split
      · rename_i h2
        simp at h2
        omega
      · omega
theorem iri_ok (s : ByteArray) (h : rIri s = true) : iriGood s = true := by
 unfold rIri rSigns at h
 rw [Bool.and_eq_true, Bool.and_eq_true] at h
 obtain ⟨h1, -, h2⟩ := h
 obtain ⟨e1, e2, e3, e4⟩ := signs_runes s _ 0 [] (Nat.le_refl _) h1
 rw [e1, List.nil_append] at h2
 unfold iriGood
 rw [e2, iriFrom_runes s _ 0 (Nat.le_refl _)]
 have hc := rIri_colon _ _ 0 (Nat.le_refl _) h2
 have h58 := e4 hc
 have h0 : (runesFrom s 0).getD 0 0 ≠ 58 := fun e => by
  have hl : 0 < (runesFrom s 0).length := List.length_pos_of_mem hc
  rw [rIriFrom_step _ 0 _ hl] at h2
  split at h2
  · cases h2
  · split at h2
    · cases h2
    · rw [e] at h2
      exact rIri_zero _ _ _ (Nat.le_refl _) h2
 have hall : (runesFrom s 0).all iriSign = true := by
  rw [List.all_eq_true]
  intro x hx
  obtain ⟨j, hj, rfl⟩ := List.getElem_of_mem hx
  have := rIri_all _ e3 _ 0 _ (Nat.le_refl _) h2 j (Nat.zero_le _) hj
  rw [List.getD_eq_getElem?_getD, List.getElem?_eq_getElem hj] at this
  exact this
 rw [hall]
 have hix : 1 ≤ Lib.indexByte s.data.toList 58 := by
  cases hl : s.data.toList with
  | nil =>
   rw [hl] at h58
   cases h58
  | cons b r =>
   rw [hl] at h58
   have hb : b ≠ 58 := fun e => h0 (by
    have hp : 0 < s.size := by
     have : s.data.toList.length = s.size := by simp
     rw [hl] at this
     simp at this
     omega
    have hb0 : (s[0]'hp) = b := by
     have h1 : (s[0]'hp) = s.data.toList[0]'(by simpa using hp) := by simp; rfl
     rw [h1]
     simp [hl]
    rw [runes_step s 0 hp, decode_ascii s 0 hp (by rw [hb0, e]; decide), hb0, e]
    rfl)
   unfold Lib.indexByte
   rw [if_neg (by simpa using hb)]
   have hr : (58 : UInt8) ∈ r := by
    rcases List.mem_cons.1 h58 with e | h
    · exact absurd e.symm hb
    · exact h
   have := indexByte_mem 58 r hr
   split
   · rename_i h2
     simp at h2
     omega
   · omega
 simp
 omega

theorem decode_b (s : ByteArray) (p : Nat) (hp : p < s.size) (h : byteAt s p < 128) : ((Utf8.decode s p).1 : Int) = byteAt s p ∧ (Utf8.decode s p).2 = 1 := by
 have e : byteAt s p = ((s[p]'hp).toNat : Int) := by
  unfold byteAt
  rw [List.getD_eq_getElem?_getD, List.getElem?_eq_getElem (by simpa using hp)]
  rfl
 rw [e] at h ⊢
 rw [decode_ascii s p hp (by omega)]
 exact ⟨rfl, rfl⟩
theorem plain_iff (c : Int) : plainOf c = (letterB c || digitB c) := by
 unfold plainOf classOf letterB digitB
 rw [Bool.eq_iff_iff]
 simp only [Bool.or_eq_true, decide_eq_true_eq, beq_iff_eq]
 repeat' split
 all_goals omega
theorem class1_iff (c : Int) : (classOf c == 1) = letterB c := by
 unfold classOf letterB
 rw [Bool.eq_iff_iff]
 simp only [decide_eq_true_eq, beq_iff_eq]
 repeat' split
 all_goals omega
theorem letter_lt {c : Int} (h : letterB c = true) : c < 128 := by
 unfold letterB at h
 simp at h
 omega
theorem digit_lt {c : Int} (h : digitB c = true) : c < 128 := by
 unfold digitB at h
 simp at h
 omega
theorem label_from (s : ByteArray) : ∀ (m i : Nat), s.size - i ≤ m → rLabelFrom s i = true → blankFrom s i = true
 | 0, i, hm, h => blankFrom_end s i (by omega)
 | m + 1, i, hm, h => by
  by_cases hi : i < s.size
  · rw [rLabelFrom_step s i hi, Bool.and_eq_true] at h
    obtain ⟨h1, h2⟩ := h
    have hlt : byteAt s i < 128 := by
     unfold rLabelB at h1
     simp only [Bool.or_eq_true, Bool.and_eq_true, decide_eq_true_eq] at h1
     rcases h1 with h1 | h1 | ⟨_, h1⟩
     · exact letter_lt h1
     · exact digit_lt h1
     · omega
    obtain ⟨d1, d2⟩ := decode_b s i hi hlt
    rw [blankFrom_step s i hi, d1, d2, label_from s m (i + 1) (by omega) h2, Bool.and_true]
    unfold blankSign
    unfold rLabelB at h1
    rw [plain_iff, Bool.or_assoc]
    exact h1
  · exact blankFrom_end s i hi
theorem label_ok (s : ByteArray) (h : rLabel s = true) : blankGood s = true := by
 unfold rLabel at h
 simp only [Bool.and_eq_true, decide_eq_true_eq] at h
 obtain ⟨h1, h2, h3⟩ := h
 unfold blankGood
 rw [label_from s _ 0 (Nat.le_refl _) h3]
 have : s.toList.isEmpty = false := by
  rw [Lib.toList_data]
  cases hl : s.data.toList with
  | nil =>
   have : s.data.toList.length = s.size := by simp
   rw [hl] at this
   simp at this
   omega
  | cons _ _ => rfl
 simp [this, h2]

theorem lang_shift (s : ByteArray) (p : Nat) : ∀ (m i part long : Nat), s.size - (p + i) ≤ m → rLangFrom (s.extract p s.size) i part long = rLangFrom s (p + i) part long
 | 0, i, part, long, hm => by
  rw [rLangFrom_end _ i _ _ (by rw [ext_size]; omega), rLangFrom_end _ (p + i) _ _ (by omega)]
 | m + 1, i, part, long, hm => by
  by_cases hi : p + i < s.size
  · rw [rLangFrom_step _ i _ _ (by rw [ext_size]; omega), rLangFrom_step _ (p + i) _ _ hi, byteAt_ext, lang_shift s p m (i + 1) _ _ (by omega), lang_shift s p m (i + 1) _ _ (by omega)]
    rfl
  · rw [rLangFrom_end _ i _ _ (by rw [ext_size]; omega), rLangFrom_end _ (p + i) _ _ (by omega)]
/-- A part of a language: what is told of its bytes. -/
theorem lang_part (s : ByteArray) (k : Nat) : ∀ (d i m long : Nat), m - i ≤ d → i ≤ m → m ≤ s.size → (∀ q, i ≤ q → q < m → byteAt s q ≠ 45) → long ≤ 8 → rLangFrom s i k long = true →
    (∀ q, i ≤ q → q < m → (letterB (byteAt s q) || (!decide (k = 0) && digitB (byteAt s q))) = true) ∧ long + (m - i) ≤ 8 ∧ rLangFrom s m k (long + (m - i)) = true
 | 0, i, m, long, hd, him, hms, hq, hl, h => by
  have e : i = m := by omega
  subst e
  refine ⟨fun q h1 h2 => absurd h2 (by omega), by omega, ?_⟩
  rw [show long + (i - i) = long by omega]
  exact h
 | d + 1, i, m, long, hd, him, hms, hq, hl, h => by
  by_cases e : i = m
  · subst e
    refine ⟨fun q h1 h2 => absurd h2 (by omega), by omega, ?_⟩
    rw [show long + (i - i) = long by omega]
    exact h
  · rw [rLangFrom_step s i k long (by omega), if_neg (hq i (Nat.le_refl _) (by omega))] at h
    rw [Bool.and_eq_true, Bool.and_eq_true, decide_eq_true_eq] at h
    obtain ⟨h1, h2, h3⟩ := h
    obtain ⟨a1, a2, a3⟩ := lang_part s k d (i + 1) m (long + 1) (by omega) (by omega) hms (fun q x y => hq q (by omega) y) (by omega) h3
    refine ⟨fun q x y => ?_, by omega, ?_⟩
    · by_cases e2 : q = i
      · rw [e2]
        exact h1
      · exact a1 q (by omega) y
    · rw [show long + (m - i) = long + 1 + (m - (i + 1)) by omega]
      exact a3
theorem part_from (k : Nat) (t : ByteArray) (h : ∀ q, q < t.size → (letterB (byteAt t q) || (!decide (k = 0) && digitB (byteAt t q))) = true) : ∀ (m i : Nat), t.size - i ≤ m → partFrom k t i = true
 | 0, i, hm => partFrom_end k t i (by omega)
 | m + 1, i, hm => by
  by_cases hi : i < t.size
  · have h1 := h i hi
    have hlt : byteAt t i < 128 := by
     simp only [Bool.or_eq_true, Bool.and_eq_true] at h1
     rcases h1 with h1 | ⟨_, h1⟩
     · exact letter_lt h1
     · exact digit_lt h1
    obtain ⟨d1, d2⟩ := decode_b t i hi hlt
    rw [partFrom_step k t i hi, d1, d2, part_from k t h m (i + 1) (by omega), Bool.and_true]
    unfold langSign
    rw [plain_iff, class1_iff]
    generalize letterB (byteAt t i) = x at *
    generalize digitB (byteAt t i) = y at *
    generalize decide (k = 0) = z at *
    clear h hm d1 d2 hlt
    revert x y z
    decide
  · exact partFrom_end k t i hi
theorem byteAt_pre (s : ByteArray) (m q : Nat) (h : q < m) : byteAt (s.extract 0 m) q = byteAt s q := by
 unfold byteAt
 have e : (s.extract 0 m).data.toList = s.data.toList.take m := by
  rw [← Lib.toList_data, Lib.extract_toList]
  simp
 rw [e]
 simp only [List.getD_eq_getElem?_getD, List.getElem?_take, if_pos h]
theorem pre_size (s : ByteArray) (m : Nat) (h : m ≤ s.size) : (s.extract 0 m).size = m := by
 simp
 omega
theorem langPart_ok (s : ByteArray) (k m : Nat) (hm : m ≤ s.size) (h0 : 0 < m) (h8 : m ≤ 8) (h : ∀ q, q < m → (letterB (byteAt s q) || (!decide (k = 0) && digitB (byteAt s q))) = true) : langPart k (s.extract 0 m) = true := by
 have hsz := pre_size s m hm
 unfold langPart
 rw [part_from k _ (fun q hq => by
  rw [hsz] at hq
  rw [byteAt_pre s m q hq]
  exact h q hq) _ 0 (Nat.le_refl _)]
 have : (s.extract 0 m).toList.isEmpty = false := by
  rw [Lib.toList_data]
  cases hl : (s.extract 0 m).data.toList with
  | nil =>
   have : (s.extract 0 m).data.toList.length = (s.extract 0 m).size := by simp only [Array.length_toList]; rfl
   rw [hl] at this
   simp only [List.length_nil] at this
   omega
  | cons _ _ => rfl
 rw [this, hsz]
 simp
 omega
theorem indexByte_lo (c : UInt8) : ∀ (l : List UInt8), Lib.indexByte l c < 0 → c ∉ l := fun l h hm => by
 have := indexByte_mem c l hm
 omega
/-- The first place of a byte. -/
theorem indexByte_at (c : UInt8) : ∀ (l : List UInt8) (m : Nat), Lib.indexByte l c = (m : Int) → m < l.length ∧ l.getD m 0 = c ∧ (∀ q, q < m → l.getD q 0 ≠ c) ∧ (l.drop (m + 1)).count c + 1 = l.count c
 | [], m, h => by
  unfold Lib.indexByte at h
  omega
 | b :: l, m, h => by
  unfold Lib.indexByte at h
  split at h
  · rename_i hb
    have e : m = 0 := by omega
    subst e
    have hb2 : b = c := by simpa using hb
    subst hb2
    refine ⟨by simp, rfl, fun q hq => absurd hq (by omega), ?_⟩
    simp
  · rename_i hb
    split at h
    · omega
    · cases m with
      | zero =>
       rename_i h2
       simp at h2
       have := Lib.indexByte_ge l c
       omega
      | succ m =>
       obtain ⟨a1, a2, a3, a4⟩ := indexByte_at c l m (by omega)
       refine ⟨by simpa using a1, by simpa using a2, fun q hq => ?_, ?_⟩
       · cases q with
         | zero => simpa using hb
         | succ q =>
          have := a3 q (by omega)
          simpa using this
       · rw [List.drop_succ_cons, List.count_cons_of_ne (by simpa using hb)]
         exact a4
theorem byteAt_eq (s : ByteArray) (q : Nat) : byteAt s q = 45 ↔ s.data.toList.getD q 0 = 45 := by
 unfold byteAt
 constructor
 · intro h
   apply UInt8.toNat_inj.1
   have : (s.data.toList.getD q 0).toNat = 45 := by omega
   rw [this]
   rfl
 · intro h
   rw [h]
   rfl
theorem lang_all : ∀ (n : Nat) (r : ByteArray) (k : Nat), Lib.countByte r.data.toList 45 ≤ n → rLangFrom r 0 k 0 = true → langAll k (splitF n r) = true := by
 have hno : ∀ (r : ByteArray) (k : Nat), (45 : UInt8) ∉ r.data.toList → rLangFrom r 0 k 0 = true → langAll k [r] = true := fun r k hn h => by
  obtain ⟨a1, a2, a3⟩ := lang_part r k _ 0 r.size 0 (Nat.le_refl _) (Nat.zero_le _) (Nat.le_refl _) (fun q _ hq e => hn (by
   rw [byteAt_eq] at e
   rw [← e, List.getD_eq_getElem?_getD, List.getElem?_eq_getElem (by simpa using hq)]
   exact List.getElem_mem _)) (Nat.zero_le _) h
  rw [rLangFrom_end _ _ _ _ (by omega)] at a3
  have hp := langPart_ok r k r.size (Nat.le_refl _) (by have := of_decide_eq_true a3; omega) (by omega) (fun q hq => a1 q (Nat.zero_le _) hq)
  rw [show r.extract 0 r.size = r by simp] at hp
  unfold langAll
  rw [hp]
  rfl
 intro n
 induction n with
 | zero =>
  intro r k hc h
  unfold splitF
  refine hno r k (fun hm => ?_) h
  have := List.count_pos_iff.2 hm
  unfold Lib.countByte at hc
  omega
 | succ n ih =>
  intro r k hc h
  unfold splitF
  by_cases hi : Lib.indexByte r.data.toList 45 < 0
  · rw [if_pos hi]
    exact hno r k (indexByte_lo 45 _ hi) h
  · rw [if_neg hi]
    obtain ⟨m, hm⟩ : ∃ m : Nat, Lib.indexByte r.data.toList 45 = (m : Int) := ⟨(Lib.indexByte r.data.toList 45).toNat, by omega⟩
    rw [hm, show ((m : Int)).toNat = m by omega, show ((m : Int) + 1).toNat = m + 1 by omega]
    obtain ⟨b1, b2, b3, b4⟩ := indexByte_at 45 _ m hm
    have hsz : r.data.toList.length = r.size := by simp
    rw [hsz] at b1
    obtain ⟨a1, a2, a3⟩ := lang_part r k _ 0 m 0 (Nat.le_refl _) (Nat.zero_le _) (by omega) (fun q _ hq e => b3 q hq ((byteAt_eq r q).1 e)) (Nat.zero_le _) h
    rw [rLangFrom_step r m _ _ b1, if_pos ((byteAt_eq r m).2 b2), Bool.and_eq_true] at a3
    obtain ⟨c1, c2⟩ := a3
    unfold langAll
    rw [langPart_ok r k m (by omega) (by simp at c1; omega) (by omega) (fun q hq => a1 q (Nat.zero_le _) hq), Bool.true_and]
    refine ih _ _ ?_ ?_
    · rw [ext_list]
      unfold Lib.countByte at hc ⊢
      omega
    · rw [lang_shift r (m + 1) _ 0 _ _ (Nat.le_refl _)]
      exact c2
theorem lang_ok (s : ByteArray) (h : rLang s = true) : langOf s = true := by
 unfold rLang at h
 simp only [Bool.and_eq_true, decide_eq_true_eq] at h
 obtain ⟨h1, h2, h3⟩ := h
 unfold langOf splitOf
 rw [lang_all _ s 0 (Nat.le_refl _) h3]
 simp
 omega
theorem lit_ok (a b c : ByteArray) (h : rLit a b c = true) : litGood a b c = true := by
 unfold rLit at h
 rw [Bool.and_eq_true, Bool.and_eq_true, Bool.and_eq_true] at h
 obtain ⟨h1, -, h2, h3⟩ := h
 obtain ⟨e1, e2, e3, e4⟩ := signs_runes a _ 0 [] (Nat.le_refl _) h1
 unfold litGood
 rw [e2, iri_ok b h2]
 cases hc : c.toList.isEmpty with
 | true =>
  rw [hc, if_pos rfl] at h3
  simp only [Bool.not_eq_true'] at h3
  rw [h3]
  rfl
 | false =>
  rw [hc, if_neg (by decide), Bool.and_eq_true] at h3
  rw [h3.1, lang_ok c h3.2]
  rfl
/-- What the document calls good is good to the program. -/
theorem good_ok (x : DT) (h0 : 0 ≤ x.kind) (h2 : x.kind ≤ 2) (h : rGood x = true) : (toTm x).good = true := by
 unfold rGood at h
 unfold toTm
 split
 · rename_i hk
   rw [if_pos hk] at h
   exact label_ok _ h
 · rename_i hk
   rw [if_neg hk] at h
   split
   · rename_i hk2
     rw [if_pos hk2] at h
     exact iri_ok _ h
   · rename_i hk2
     rw [if_neg hk2] at h
     exact lit_ok _ _ _ h

set_option maxRecDepth 100000 in
set_option maxHeartbeats 4000000 in
/-- What the library reads without an error, the document reads; what stands behind the first byte is no sign of ASCII. -/
theorem firstN_back (n b0 b1 b2 b3 : Nat) (hn : 0 < n) (h0 : b0 < 256) (h1 : b1 < 256) (h2 : b2 < 256) (h3 : b3 < 256) (h : (Lib.decodeN n b0 b1 b2 b3).1 ≠ 65533 ∨ (3 ≤ n ∧ b0 = 239 ∧ b1 = 191 ∧ b2 = 189)) :
    (firstN n b0 b1 b2 b3).2 ≠ 0 := by
 unfold firstN
 simp only [rSign_iff, rLen_iff2, rLen_iff3, rLen_iff4]
 unfold Lib.decodeN at h
 by_cases c0 : (b0 : Int) < 128
 · rw [if_pos c0]
   exact Nat.succ_ne_zero _
 · rw [if_neg c0]
   rw [if_neg (show ¬ b0 < 128 by omega)] at h
   by_cases c1 : (b0 : Int) < 192
   · exfalso
     rw [if_neg (by omega), if_neg (by omega), if_neg (by omega)] at h
     rcases h with h | h
     · exact h rfl
     · omega
   · rw [if_neg c1]
     by_cases c2 : (b0 : Int) < 224
     · rw [if_pos c2]
       by_cases d1 : b0 / 32 = 6 ∧ (1 < n ∧ b1 / 64 = 2)
       · rw [if_pos d1] at h
         rw [if_neg (by omega)]
         by_cases d2 : b0 % 32 * 64 + b1 % 64 ≥ 128
         · rw [if_pos (by omega)]
           exact Nat.succ_ne_zero _
         · exfalso
           rw [if_neg d2] at h
           rcases h with h | h
           · exact h rfl
           · omega
       · exfalso
         rw [if_neg d1, if_neg (by omega), if_neg (by omega)] at h
         rcases h with h | h
         · exact h rfl
         · omega
     · rw [if_neg c2]
       rw [if_neg (show ¬ (b0 / 32 = 6 ∧ (1 < n ∧ b1 / 64 = 2)) by omega)] at h
       by_cases c3 : (b0 : Int) < 240
       · rw [if_pos c3]
         by_cases d1 : b0 / 16 = 14 ∧ (1 < n ∧ b1 / 64 = 2) ∧ (2 < n ∧ b2 / 64 = 2)
         · rw [if_pos d1] at h
           rw [if_neg (by omega)]
           by_cases d2 : b0 % 16 * 4096 + b1 % 64 * 64 + b2 % 64 ≥ 2048 ∧ (b0 % 16 * 4096 + b1 % 64 * 64 + b2 % 64 < 55296 ∨ (57344 ≤ b0 % 16 * 4096 + b1 % 64 * 64 + b2 % 64 ∧ b0 % 16 * 4096 + b1 % 64 * 64 + b2 % 64 ≤ 1114111))
           · rw [if_pos (by omega)]
             exact Nat.succ_ne_zero _
           · exfalso
             rw [if_neg d2] at h
             rcases h with h | h
             · exact h rfl
             · omega
         · exfalso
           rw [if_neg d1, if_neg (by omega)] at h
           rcases h with h | h
           · exact h rfl
           · omega
       · rw [if_neg c3]
         rw [if_neg (show ¬ (b0 / 16 = 14 ∧ (1 < n ∧ b1 / 64 = 2) ∧ (2 < n ∧ b2 / 64 = 2)) by omega)] at h
         by_cases d1 : b0 / 8 = 30 ∧ (1 < n ∧ b1 / 64 = 2) ∧ (2 < n ∧ b2 / 64 = 2) ∧ (3 < n ∧ b3 / 64 = 2)
         · rw [if_pos d1] at h
           rw [if_pos (show (b0 : Int) < 248 by omega), if_neg (by omega)]
           by_cases d2 : b0 % 8 * 262144 + b1 % 64 * 4096 + b2 % 64 * 64 + b3 % 64 ≥ 65536 ∧ (b0 % 8 * 262144 + b1 % 64 * 4096 + b2 % 64 * 64 + b3 % 64 < 55296 ∨ (57344 ≤ b0 % 8 * 262144 + b1 % 64 * 4096 + b2 % 64 * 64 + b3 % 64 ∧ b0 % 8 * 262144 + b1 % 64 * 4096 + b2 % 64 * 64 + b3 % 64 ≤ 1114111))
           · rw [if_pos (by omega)]
             exact Nat.succ_ne_zero _
           · exfalso
             rw [if_neg d2] at h
             rcases h with h | h
             · exact h rfl
             · omega
         · exfalso
           rw [if_neg d1] at h
           rcases h with h | h
           · exact h rfl
           · omega
set_option maxRecDepth 100000 in
set_option maxHeartbeats 4000000 in
/-- Of a sign that is read: a low one is its byte; what stands behind the first byte is no sign of ASCII. -/
theorem decodeN_low (n b0 b1 b2 b3 : Nat) (h0 : b0 < 256) (h1 : b1 < 256) (h2 : b2 < 256) (h3 : b3 < 256) :
    ((Lib.decodeN n b0 b1 b2 b3).1 < 128 → (Lib.decodeN n b0 b1 b2 b3).1 = b0 ∧ (Lib.decodeN n b0 b1 b2 b3).2 = 1) ∧
    ((Lib.decodeN n b0 b1 b2 b3).1 ≠ 65533 ∨ (3 ≤ n ∧ b0 = 239 ∧ b1 = 191 ∧ b2 = 189) → (b0 < 128 → (Lib.decodeN n b0 b1 b2 b3).1 = b0) ∧ (1 < (Lib.decodeN n b0 b1 b2 b3).2 → 128 ≤ b0 ∧ 128 ≤ b1) ∧ (2 < (Lib.decodeN n b0 b1 b2 b3).2 → 128 ≤ b2) ∧ (3 < (Lib.decodeN n b0 b1 b2 b3).2 → 128 ≤ b3) ∧ (Lib.decodeN n b0 b1 b2 b3).2 ≤ 4) := by
 unfold Lib.decodeN
 repeat' split
 all_goals refine ⟨fun h => ?_, fun h => ⟨fun h => ?_, fun h => ?_, fun h => ?_, fun h => ?_, ?_⟩⟩
 all_goals first | omega | (exact ⟨rfl, rfl⟩) | rfl | (simp only at *; omega) | (exact ⟨by simp only at *; omega, by simp only at *; omega⟩)
theorem prefix3 : ∀ l : List UInt8, Lib.hasPrefix l [239, 191, 189] = true → 3 ≤ l.length ∧ l.getD 0 0 = 239 ∧ l.getD 1 0 = 191 ∧ l.getD 2 0 = 189
 | [], h => by cases h
 | [a], h => by
  unfold Lib.hasPrefix at h
  simp [List.isPrefixOf] at h
 | [a, b], h => by
  unfold Lib.hasPrefix at h
  simp [List.isPrefixOf] at h
 | a :: b :: c :: r, h => by
  unfold Lib.hasPrefix at h
  simp [List.isPrefixOf] at h
  obtain ⟨h1, h2, h3⟩ := h
  subst h1 h2 h3
  exact ⟨by simp, rfl, rfl, rfl⟩
def okD (s : ByteArray) (p : Nat) : Prop := (Lib.decodeN (s.size - p) (s.get! p).toNat (s.get! (p + 1)).toNat (s.get! (p + 2)).toNat (s.get! (p + 3)).toNat).1 ≠ 65533 ∨ (3 ≤ s.size - p ∧ (s.get! p).toNat = 239 ∧ (s.get! (p + 1)).toNat = 191 ∧ (s.get! (p + 2)).toNat = 189)
theorem ok_decode (s : ByteArray) (p : Nat) (h : okS s p (Utf8.decode s p).1 = true) : okD s p := by
 unfold okD
 rw [← Lib.decode_at]
 by_cases hr : (Utf8.decode s p).1 = 65533
 · right
   unfold okS at h
   rw [hr] at h
   have h2 : Lib.hasPrefix (s.extract p s.size).data.toList [239, 191, 189] = true := by simpa using h
   obtain ⟨g0, g1, g2, g3⟩ := prefix3 _ h2
   rw [ext_list] at g0 g1 g2 g3
   have hl : s.data.toList.length = s.size := by simp
   rw [List.length_drop, hl] at g0
   have g : ∀ k m : Nat, s.data.toList.getD k 0 = UInt8.ofNat m → m < 256 → (s.get! k).toNat = m := fun k m e hm => by
    have := byteAt_get s k
    unfold byteAt at this
    rw [e, UInt8.toNat_ofNat', Nat.mod_eq_of_lt (by omega)] at this
    omega
   simp only [List.getD_eq_getElem?_getD, List.getElem?_drop] at g1 g2 g3
   refine ⟨g0, g p 239 ?_ (by decide), g (p + 1) 191 ?_ (by decide), g (p + 2) 189 ?_ (by decide)⟩
   · rw [List.getD_eq_getElem?_getD]
     exact g1
   · rw [List.getD_eq_getElem?_getD]
     exact g2
   · rw [List.getD_eq_getElem?_getD]
     exact g3
 · exact .inl hr
theorem text_first (s : ByteArray) (p : Nat) (hp : p < s.size) (h : okS s p (Utf8.decode s p).1 = true) : (rFirst (s.extract p s.size)).2 ≠ 0 := by
 have hb : ∀ k, (s.get! k).toNat < 256 := fun k => (s.get! k).toNat_lt
 rw [rFirst_N, ext_size, byteAt_ext, byteAt_ext, byteAt_ext, byteAt_ext, byteAt_get s (p + 0), byteAt_get s (p + 1), byteAt_get s (p + 2), byteAt_get s (p + 3)]
 exact firstN_back _ _ _ _ _ (by omega) (hb _) (hb _) (hb _) (hb _) (ok_decode s p h)
theorem text_signs (s : ByteArray) : ∀ (m i : Nat) (l : List Int), s.size - i ≤ m → textFrom s i = true → (rSignsFrom s i l).2 = true
 | 0, i, l, hm, h => by
  rw [rSignsFrom_end s i l (by omega)]
 | m + 1, i, l, hm, h => by
  by_cases hi : i < s.size
  · rw [textFrom_step s i hi, Bool.and_eq_true] at h
    have h0 := text_first s i hi h.1
    obtain ⟨d1, d2, d3, d4, d5⟩ := first_decode s i hi h0
    rw [rSignsFrom_step s i l hi, if_neg h0]
    refine text_signs s m _ _ (by omega) ?_
    rw [← d2]
    exact h.2
  · rw [rSignsFrom_end s i l hi]
theorem decode_in (s : ByteArray) (p : Nat) (h : okD s p) : (byteAt s p < 128 → ((Utf8.decode s p).1 : Int) = byteAt s p) ∧ (∀ q, p < q → q < p + (Utf8.decode s p).2 → 128 ≤ byteAt s q) := by
 have hb : ∀ k, (s.get! k).toNat < 256 := fun k => (s.get! k).toNat_lt
 rw [Lib.decode_at]
 obtain ⟨a1, a2, a3, a4, a5⟩ := (decodeN_low (s.size - p) (s.get! p).toNat (s.get! (p + 1)).toNat (s.get! (p + 2)).toNat (s.get! (p + 3)).toNat (hb _) (hb _) (hb _) (hb _)).2 h
 refine ⟨fun h => ?_, fun q h1 h2 => ?_⟩
 · rw [byteAt_get] at h ⊢
   have := a1 (by omega)
   omega
 · rw [byteAt_get]
   rcases (show q = p + 1 ∨ q = p + 2 ∨ q = p + 3 by omega) with rfl | rfl | rfl
   · have := a2 (by omega)
     omega
   · have := a3 (by omega)
     omega
   · have := a4 (by omega)
     omega

end Go.Proofs.YtagchljgmjmlcaaGreatDoor
