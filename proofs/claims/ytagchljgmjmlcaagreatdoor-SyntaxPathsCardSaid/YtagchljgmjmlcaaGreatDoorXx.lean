/- Texts of the proof, one behind the other: Sa, Sb, Sc, Sh, Si, Sq, Sj, Sl. -/
import Derived.Test.YtagchljgmjmlcaaGreatDoorXl
import Derived.Test.YtagchljgmjmlcaaGreatDoorXm
import Derived.Test.YtagchljgmjmlcaaGreatDoorXt
import Derived.Test.YtagchljgmjmlcaaGreatDoorXv
import Derived.Test.YtagchljgmjmlcaaGreatDoorXw
import Derived.Test.YtagchljgmjmlcaaGreatDoorXg
import Derived.Test.YtagchljgmjmlcaaGreatDoorXu
import Derived.Lib.MapLaws
import Derived.Lib.TrimUEq
import Derived.Deep.CutBlock
import Derived.Deep.RegionLawGrows
import Derived.Deep.Cut
import Derived.Deep.CutRange
import Derived.WalkKit
import Derived.WalkLawsBesides
import Derived.WalkSpells
import Derived.Deep.QuietTactic
import Derived.BigRegion
import Derived.BigQuiet
import Derived.Lib.Hide
import Derived.Outline
import Derived.Deep.AppendLies
import Derived.Deep.RegionLaw
import Derived.Deep.RegionWith
import Derived.Deep.RegionHeld3
import Derived.Deep.LoopGhost
import Derived.Deep.DeepFit
import Derived.Laws.ResultCell
import Derived.Laws.RangeAny
import Derived.Deep.MidRow
import Derived.StillTailTactics
import Derived.OpenShut
import Derived.Lib.Join
namespace Go.Proofs.YtagchljgmjmlcaaGreatDoor
set_option linter.unusedVariables false
open Go.RowKit Go
set_option maxRecDepth 100000
set_option maxHeartbeats 40000000

theorem u8_nat {x : Int} (h0 : 0 ≤ x) (h1 : x < 256) : (x.toNat.toUInt8).toNat = x.toNat := by
 simp only [Nat.toUInt8, UInt8.toNat_ofNat']
 omega
theorem dec_enc (r : Int) (hr : signR r = true) (b : List UInt8) : Lib.decodeL (Lib.encodeRune r ++ b) = (r.toNat, (Lib.encodeRune r).length) := by
 obtain ⟨h0, h1, h2⟩ := (signR_iff r).1 hr
 rw [Lib.decodeL_N]
 unfold Lib.encodeRune
 by_cases c1 : r ≤ 127
 · rw [Lib.encodeRuneZ_one h0 c1]
   simp only [List.map_cons, List.map_nil, List.cons_append, List.nil_append, List.getD_cons_zero, List.length_cons, List.length_nil]
   rw [u8_nat h0 (by omega)]
   unfold Lib.decodeN
   rw [if_pos (by omega)]
 · by_cases c2 : r ≤ 2047
   · rw [Lib.encodeRuneZ_two (by omega) c2]
     simp only [List.map_cons, List.map_nil, List.cons_append, List.nil_append, List.getD_cons_zero, List.getD_cons_succ, List.length_cons, List.length_nil]
     rw [u8_nat (x := 192 + r / 64) (by omega) (by omega), u8_nat (x := 128 + r % 64) (by omega) (by omega)]
     unfold Lib.decodeN
     rw [if_neg (by omega), if_pos (by refine ⟨?_, ?_, ?_⟩ <;> omega), if_pos (by omega)]
     exact Prod.ext (by show _ = r.toNat; omega) rfl
   · by_cases c3 : r ≤ 65535
     · rw [Lib.encodeRuneZ_three (by omega)]
       simp only [List.map_cons, List.map_nil, List.cons_append, List.nil_append, List.getD_cons_zero, List.getD_cons_succ, List.length_cons, List.length_nil]
       rw [u8_nat (x := 224 + r / 4096) (by omega) (by omega), u8_nat (x := 128 + r / 64 % 64) (by omega) (by omega), u8_nat (x := 128 + r % 64) (by omega) (by omega)]
       unfold Lib.decodeN
       rw [if_neg (by omega), if_neg (by omega), if_pos (by refine ⟨?_, ⟨?_, ?_⟩, ?_, ?_⟩ <;> omega), if_pos (by omega)]
       exact Prod.ext (by show _ = r.toNat; omega) rfl
     · rw [Lib.encodeRuneZ_four (by omega) h1]
       simp only [List.map_cons, List.map_nil, List.cons_append, List.nil_append, List.getD_cons_zero, List.getD_cons_succ, List.length_cons, List.length_nil]
       rw [u8_nat (x := 240 + r / 262144) (by omega) (by omega), u8_nat (x := 128 + r / 4096 % 64) (by omega) (by omega), u8_nat (x := 128 + r / 64 % 64) (by omega) (by omega), u8_nat (x := 128 + r % 64) (by omega) (by omega)]
       unfold Lib.decodeN
       rw [if_neg (by omega), if_neg (by omega), if_neg (by omega), if_pos (by refine ⟨?_, ⟨?_, ?_⟩, ⟨?_, ?_⟩, ?_, ?_⟩ <;> omega), if_pos (by omega)]
       exact Prod.ext (by show _ = r.toNat; omega) rfl
theorem decode_mid (a l : List UInt8) : Utf8.decode ⟨(a ++ l).toArray⟩ a.length = Lib.decodeL l := by
 rw [Lib.decode_N, Lib.decodeL_N]
 have g : ∀ k, (a ++ l).getD (a.length + k) 0 = l.getD k 0 := fun k => by
  rw [List.getD_eq_getElem?_getD, List.getElem?_append_right (by omega), List.getD_eq_getElem?_getD, show a.length + k - a.length = k by omega]
 show Lib.decodeN ((a ++ l).length - a.length) ((a ++ l).getD (a.length + 0) 0).toNat _ _ _ = _
 rw [g 0]
 show Lib.decodeN ((a ++ l).length - a.length) _ ((a ++ l).getD (a.length + 1) 0).toNat ((a ++ l).getD (a.length + 2) 0).toNat ((a ++ l).getD (a.length + 3) 0).toNat = _
 rw [g 1, g 2, g 3, List.length_append, show a.length + l.length - a.length = l.length by omega]
theorem okS_enc (a b : List UInt8) (r : Nat) (h : r = 65533 → ∃ l, b = [239, 191, 189] ++ l) : okS ⟨(a ++ b).toArray⟩ a.length r = true := by
 unfold okS
 by_cases e : r = 65533
 · obtain ⟨l, rfl⟩ := h e
   rw [Bool.or_eq_true]
   refine .inr ?_
   have hx : ((⟨(a ++ ([239, 191, 189] ++ l)).toArray⟩ : ByteArray).extract a.length (⟨(a ++ ([239, 191, 189] ++ l)).toArray⟩ : ByteArray).size).data.toList = [239, 191, 189] ++ l := by
    simp [ByteArray.data_extract, ByteArray.size]
   rw [hx]
   rfl
 · rw [decide_eq_false e]
   rfl
theorem text_enc : ∀ (rs : List Int), (∀ r, r ∈ rs → signR r = true) → ∀ (a b : List UInt8), textFrom ⟨(a ++ (encL rs ++ b)).toArray⟩ a.length = textFrom ⟨(a ++ (encL rs ++ b)).toArray⟩ (a.length + (encL rs).length) ∧ runesFrom ⟨(a ++ (encL rs ++ b)).toArray⟩ a.length = rs ++ runesFrom ⟨(a ++ (encL rs ++ b)).toArray⟩ (a.length + (encL rs).length)
 | [], _, a, b => ⟨rfl, rfl⟩
 | r :: rs, hv, a, b => by
  have hr := hv r (List.mem_cons_self ..)
  obtain ⟨h0, h1, h2⟩ := (signR_iff r).1 hr
  have he : encL (r :: rs) = Lib.encodeRune r ++ encL rs := rfl
  have hp := encodeRune_pos r
  obtain ⟨i1, i2⟩ := text_enc rs (fun x hx => hv x (List.mem_cons_of_mem _ hx)) (a ++ Lib.encodeRune r) b
  have e1 : a ++ Lib.encodeRune r ++ (encL rs ++ b) = a ++ (encL (r :: rs) ++ b) := by rw [he]; simp only [List.append_assoc]
  have e2 : (a ++ Lib.encodeRune r).length = a.length + (Lib.encodeRune r).length := List.length_append
  have e3 : (a ++ Lib.encodeRune r).length + (encL rs).length = a.length + (encL (r :: rs)).length := by rw [he, List.length_append, List.length_append]; omega
  rw [e1, e3, e2] at i1 i2
  have hlt : a.length < (⟨(a ++ (encL (r :: rs) ++ b)).toArray⟩ : ByteArray).size := by
   show a.length < (a ++ (encL (r :: rs) ++ b)).toArray.size
   rw [List.size_toArray, he]
   simp only [List.length_append]
   omega
  have hd : Utf8.decode ⟨(a ++ (encL (r :: rs) ++ b)).toArray⟩ a.length = (r.toNat, (Lib.encodeRune r).length) := by
   rw [decode_mid, he, List.append_assoc]
   exact dec_enc r hr _
  rw [textFrom_step _ _ hlt, runes_step _ _ hlt, hd]
  dsimp only
  rw [okS_enc a (encL (r :: rs) ++ b) r.toNat (fun e => ⟨encL rs ++ b, by
   obtain rfl : r = 65533 := by omega
   rw [he, List.append_assoc]
   congr 1⟩), Bool.true_and]
  refine ⟨i1, ?_⟩
  rw [i2, show (r.toNat : Int) = r by omega]
  rfl
theorem signs_str (rs : List Int) (hv : ∀ r, r ∈ rs → signR r = true) : rSigns (strL rs) = (rs, true) := by
 obtain ⟨i1, i2⟩ := text_enc rs hv [] []
 have e : (⟨([] ++ (encL rs ++ [])).toArray⟩ : ByteArray) = strL rs := by
  unfold strL
  simp
 rw [e] at i1 i2
 have hs : ¬ ([] : List UInt8).length + (encL rs).length < (strL rs).size := by
  show ¬ 0 + (encL rs).length < (encL rs).toArray.size
  rw [List.size_toArray]
  omega
 rw [textFrom_end _ _ hs] at i1
 rw [runes_end _ _ hs, List.append_nil] at i2
 have h2 : (rSigns (strL rs)).2 = true := text_signs _ _ _ _ (Nat.le_refl _) i1
 have h1 := (signs_runes _ _ 0 [] (Nat.le_refl _) h2).1
 exact Prod.ext (h1.trans i2) h2

theorem peek_mid {rs A L : List Int} {x : Int} (h : rs = A ++ (x :: L)) : peekOf rs A.length = x := by
 subst h
 unfold peekOf
 rw [if_pos (by simp), List.getD_eq_getElem?_getD, List.getElem?_append_right (Nat.le_refl _)]
 simp
theorem peek_on {rs A L : List Int} {k : Nat} {x : Int} (h : rs = A ++ L) (h2 : L[k]? = some x) : peekOf rs (A.length + k) = x := by
 subst h
 have h3 := (List.getElem?_eq_some_iff.1 h2).1
 unfold peekOf
 rw [if_pos (by simp; omega), List.getD_eq_getElem?_getD, List.getElem?_append_right (by omega), show A.length + k - A.length = k by omega, h2]
 rfl
theorem skip_here {rs : List Int} {p : Nat} {x : Int} (h : peekOf rs p = x) (hx : clsOf x ≠ 0) : skip rs [0] p = p := by
 refine skip_stop fun hc => hx ?_
 have g : peekOf rs p = rs.getD p 0 := by unfold peekOf; rw [if_pos hc.1]
 have h3 := hc.2
 rw [← g, h] at h3
 simpa using h3
theorem mark_not {rs : List Int} {p : Nat} {x : UInt8} {y : Int} (h : peekOf rs (skip rs [0] p) = y) (hn : ¬ y = (x.toNat : Int)) : markAt rs p ⟨#[x]⟩ = false := by
 unfold markAt
 rw [isAt_one, h]
 exact decide_eq_false hn
theorem rIriFrom_all (l : List Int) : ∀ m i c, l.length - i ≤ m → rIriFrom l i c = true → ∀ j, i ≤ j → j < l.length → rClass (l.getD j 0) ≠ 0 ∧ rBad (l.getD j 0) 0 = false
 | 0, i, c, hm, h, j, h1, h2 => by omega
 | m + 1, i, c, hm, h, j, h1, h2 => by
  rw [rIriFrom_step l i c (by omega)] at h
  split at h
  · cases h
  · rename_i hc
    split at h
    · cases h
    · rename_i hb
      by_cases e : i = j
      · subst e
        exact ⟨fun h => hc (.inl h), by simpa using hb⟩
      · exact rIriFrom_all l m (i + 1) _ (by omega) h j (by omega) h2
theorem iri_raw {l : List Int} (hv : ∀ x, x ∈ l → signR x = true) (hg : rGood ⟨1, strL l, ⟨#[]⟩, ⟨#[]⟩⟩ = true) : (strL l).size ≤ 4096 ∧ ∀ x, x ∈ l → x ≠ 10 ∧ x ≠ 62 ∧ x ≠ 92 := by
 have h : rIri (strL l) = true := hg
 unfold rIri at h
 rw [signs_str l hv, Bool.and_eq_true, Bool.and_eq_true] at h
 obtain ⟨-, h1, h2⟩ := h
 refine ⟨of_decide_eq_true h1, fun x hx => ?_⟩
 obtain ⟨j, hj⟩ := List.getElem?_of_mem hx
 have hl := (List.getElem?_eq_some_iff.1 hj).1
 obtain ⟨k1, k2⟩ := rIriFrom_all l _ 0 (-1) (Nat.le_refl _) h2 j (Nat.zero_le _) hl
 rw [List.getD_eq_getElem?_getD, hj] at k1 k2
 refine ⟨fun e => ?_, fun e => ?_, fun e => ?_⟩
 · subst e
   exact k1 (by decide +kernel)
 · subst e
   exact absurd k2 (by decide +kernel)
 · subst e
   exact absurd k2 (by decide +kernel)
theorem iriT_raw {rs B : List Int} : ∀ (l A out : List Int), (∀ x, x ∈ l → x ≠ 10 ∧ x ≠ 62 ∧ x ≠ 92) → rs = A ++ (l ++ 62 :: B) → iriT rs A.length out = (some (out ++ l), A.length + l.length + 1)
 | [], A, out, _, h => by
  rw [iriT_shut out (peek_mid h), List.append_nil]
  rfl
 | x :: l, A, out, hx, h => by
  obtain ⟨h1, h2, h3⟩ := hx x (List.mem_cons_self ..)
  have hp := peek_mid (L := l ++ 62 :: B) h
  have hl : A.length < rs.length := by rw [h]; simp
  rw [iriT_go out hl (by rw [hp]; exact h1) (by rw [hp]; exact h2) (by rw [hp]; exact h3), hp]
  have ih := iriT_raw (rs := rs) (B := B) l (A ++ [x]) (out ++ [x]) (fun y hy => hx y (List.mem_cons_of_mem _ hy)) (by rw [h]; simp)
  rw [List.length_append, List.length_singleton] at ih
  rw [ih, List.append_assoc, List.length_cons]
  exact Prod.ext rfl (by show A.length + 1 + l.length + 1 = _; omega)
theorem iri_at {rs A B l : List Int} {p : Nat} (hv : ∀ x, x ∈ l → signR x = true) (hg : rGood ⟨1, strL l, ⟨#[]⟩, ⟨#[]⟩⟩ = true) (h : rs = A ++ (60 :: (l ++ 62 :: B))) (hs : skip rs [0] p = A.length) : IriP rs p (A.length + l.length + 2) (strL l) := by
 refine ⟨?_, hg⟩
 have h60 := peek_mid h
 have ht := iriT_raw (rs := rs) (B := B) l (A ++ [60]) [] (iri_raw hv hg).2 (by rw [h]; simp)
 rw [List.length_append, List.length_singleton] at ht
 rw [hs]
 unfold docR
 rw [if_pos h60]
 unfold iriR
 rw [if_pos h60, ht]
 exact Prod.ext rfl (by show A.length + 1 + l.length + 1 = _; omega)

def tailL (sep : List Int) (r : List (List Int)) : List Int := (r.map (sep ++ ·)).flatten
/-- Signs with others between. -/
def joinL (sep : List Int) : List (List Int) → List Int
 | [] => []
 | x :: r => x ++ tailL sep r
theorem joinL_snoc (sep : List Int) (ls : List (List Int)) (l : List Int) (h : ls ≠ []) : joinL sep (ls ++ [l]) = joinL sep ls ++ (sep ++ l) := by
 cases ls with
 | nil => exact absurd rfl h
 | cons x r => simp [joinL, tailL]
def preL (k : Int) : List Int := if k = 1 then [94] else []
def sepL (k : Int) : List Int := if k = 2 then [32, 47, 32] else if k = 3 then [32, 124, 32] else []
def endL (k : Int) : List Int := if k = 4 then [42] else if k = 5 then [43] else if k = 6 then [126] else []
/-- What a path is printed as. -/
inductive PrL : PT → List Int → Prop
 | leaf (k : Int) (l : List Int) (hk : k = 0 ∨ k = 1) (hv : ∀ x, x ∈ l → signR x = true) (hg : rGood ⟨1, strL l, ⟨#[]⟩, ⟨#[]⟩⟩ = true) : PrL (.leaf k (strL l)) (preL k ++ 60 :: (l ++ [62]))
 | node (k : Int) (ts : List PT) (ls : List (List Int)) (hl : ls.length = ts.length) (h : ∀ (i : Nat) t l, ts[i]? = some t → ls[i]? = some l → PrL t l) (hk : ((k = 2 ∨ k = 3) ∧ 2 ≤ ts.length) ∨ ((k = 4 ∨ k = 5 ∨ k = 6) ∧ ts.length = 1)) :
  PrL (.node k ts) (40 :: (joinL (sepL k) ls ++ 41 :: endL k))
theorem PrL.head {t : PT} {l : List Int} (h : PrL t l) : ∃ x l', l = x :: l' ∧ clsOf x ≠ 0 := by
 cases h with
 | leaf k l hk hv hg =>
  rcases hk with rfl | rfl
  · exact ⟨60, _, rfl, by decide⟩
  · exact ⟨94, _, rfl, by decide⟩
 | node k ts ls hl h hk => exact ⟨40, _, rfl, by decide⟩
theorem often_none {rs : List Int} {e : Nat} {y : Int} (h : peekOf rs (skip rs [0] e) = y) (h1 : y ≠ 42) (h2 : y ≠ 43) (h3 : y ≠ 126) : oftenP rs e = 0 := by
 unfold oftenP
 rw [show markAt rs e (mk1 42) = false from mark_not h h1, show markAt rs e (mk1 43) = false from mark_not h h2, show markAt rs e (mk1 126) = false from mark_not h h3]
 rfl
theorem run_of {rs : List Int} {One : Nat → PT → Nat → Nat → Prop} (x : UInt8) (Y : Int → Prop) (hY : Y (x.toNat : Int)) (hx : clsOf (x.toNat : Int) ≠ 0) : ∀ (m : Nat) (ps : List (PT × List Int)), ps.length ≤ m →
    (∀ q, q ∈ ps → (∃ a l', q.2 = a :: l' ∧ clsOf a ≠ 0) ∧ ∀ A B p y, rs = A ++ (q.2 ++ B) → skip rs [0] p = A.length → peekOf rs (skip rs [0] (A.length + q.2.length)) = y → Y y → ∃ d, One p q.1 (A.length + q.2.length) d) → ps ≠ [] →
    ∀ A B p y, rs = A ++ (joinL [32, (x.toNat : Int), 32] (ps.map Prod.snd) ++ B) → skip rs [0] p = A.length → peekOf rs (skip rs [0] (A.length + (joinL [32, (x.toNat : Int), 32] (ps.map Prod.snd)).length)) = y → Y y →
     ∃ d, RunP rs x One p (ps.map Prod.fst) (A.length + (joinL [32, (x.toNat : Int), 32] (ps.map Prod.snd)).length) d
 | 0, ps, hm, _, hne, _, _, _, _, _, _, _, _ => absurd (List.eq_nil_of_length_eq_zero (by omega)) hne
 | m + 1, ps, hm, hq, hne, A, B, p, y, hrs, hs, hp, hy => by
  obtain ⟨qs, q, rfl⟩ : ∃ qs q, ps = qs ++ [q] := ⟨ps.dropLast, ps.getLast hne, (List.dropLast_concat_getLast hne).symm⟩
  obtain ⟨hh, hone⟩ := hq q (by simp)
  by_cases h0 : qs = []
  · subst h0
    have ej : joinL [32, (x.toNat : Int), 32] (([] ++ [q]).map Prod.snd) = q.2 := by simp [joinL, tailL]
    rw [ej] at hrs hp ⊢
    obtain ⟨d, hd⟩ := hone A B p y hrs hs hp hy
    exact ⟨d, .one _ _ _ _ hd⟩
  · have ej : joinL [32, (x.toNat : Int), 32] ((qs ++ [q]).map Prod.snd) = joinL [32, (x.toNat : Int), 32] (qs.map Prod.snd) ++ ([32, (x.toNat : Int), 32] ++ q.2) := by
     rw [List.map_append]
     exact joinL_snoc _ _ _ (by simpa using h0)
    rw [ej] at hrs hp ⊢
    generalize hJ : joinL [32, (x.toNat : Int), 32] (qs.map Prod.snd) = J at *
    rw [List.length_append, List.length_append] at hp ⊢
    have e3 : [32, (x.toNat : Int), 32].length = 3 := rfl
    rw [e3] at hp ⊢
    have r1 : rs = A ++ (J ++ (32 :: (x.toNat : Int) :: 32 :: (q.2 ++ B))) := by rw [hrs]; simp
    have r2 : rs = (A ++ J) ++ (32 :: (x.toNat : Int) :: 32 :: (q.2 ++ B)) := by rw [r1]; simp
    have eAJ : (A ++ J).length = A.length + J.length := List.length_append
    have k0 : peekOf rs (A.length + J.length) = 32 := by have h := peek_on (k := 0) r2 rfl; rw [eAJ] at h; exact h
    have k1 : peekOf rs (A.length + J.length + 1) = (x.toNat : Int) := by have h := peek_on (k := 1) r2 rfl; rw [eAJ] at h; exact h
    have k2 : peekOf rs (A.length + J.length + 2) = 32 := by have h := peek_on (k := 2) r2 rfl; rw [eAJ] at h; exact h
    obtain ⟨a, l', hal, ha⟩ := hh
    have k3 : peekOf rs (A.length + J.length + 3) = a := by have h := peek_on (k := 3) (x := a) r2 (by rw [hal]; rfl); rw [eAJ] at h; exact h
    have s1 := skip_one k0 rfl k1 hx
    have s2 := skip_one k2 (show A.length + J.length + 3 = A.length + J.length + 2 + 1 from rfl) k3 ha
    have hmk := mark_at s1 k1
    have hJ0 : joinL [32, (x.toNat : Int), 32] (qs.map Prod.snd) = J := hJ
    have ih := run_of x Y hY hx m qs (by rw [List.length_append, List.length_singleton] at hm; omega) (fun q' h' => hq q' (by simp [h'])) h0 A (32 :: (x.toNat : Int) :: 32 :: (q.2 ++ B)) p (x.toNat : Int) (by rw [hJ0]; exact r1) hs (by rw [hJ0, s1]; exact k1) hY
    rw [hJ0] at ih
    obtain ⟨d, hd⟩ := ih
    obtain ⟨d1, hd1⟩ := hone (A ++ J ++ [32, (x.toNat : Int), 32]) B (A.length + J.length + 2) y (by rw [r1]; simp) (by rw [s2]; simp; omega) (by rw [show (A ++ J ++ [32, (x.toNat : Int), 32]).length + q.2.length = A.length + (J.length + (3 + q.2.length)) by simp; omega]; exact hp) hy
    rw [show (A ++ J ++ [32, (x.toNat : Int), 32]).length + q.2.length = A.length + (J.length + (3 + q.2.length)) by simp; omega] at hd1
    refine ⟨max d d1, ?_⟩
    rw [List.map_append]
    exact .more _ _ _ _ _ _ _ hd hmk.1 (by rw [show markTo rs (A.length + J.length) (mk1 x) = A.length + J.length + 2 from hmk.2]; exact hd1)
theorem joinL_ge (sep : List Int) : ∀ (ls : List (List Int)) (i : Nat) (l : List Int), ls[i]? = some l → l.length ≤ (joinL sep ls).length
 | [], i, l, h => by simp at h
 | x :: r, 0, l, h => by
  injection h with h
  subst h
  simp [joinL]
 | x :: r, i + 1, l, h => by
  have hm : l ∈ r := List.mem_of_getElem? h
  have : l.length ≤ (tailL sep r).length := by
   clear h
   unfold tailL
   induction r with
   | nil => cases hm
   | cons y r ih =>
    rcases List.mem_cons.1 hm with rfl | hm
    · simp; omega
    · have := ih hm
      simp at this ⊢
      omega
  simp [joinL]
  omega
theorem PrL.step {t : PT} {l : List Int} (h : PrL t l) : ∀ (n : Nat) (rs A B : List Int) (p : Nat) (y : Int), rs = A ++ (l ++ B) → skip rs [0] p = A.length → l.length ≤ n → peekOf rs (skip rs [0] (A.length + l.length)) = y → y ≠ 42 → y ≠ 43 → y ≠ 126 → ∃ d, StepP rs (PathP rs n) p t (A.length + l.length) d := by
 induction h with
 | leaf k l hk hv hg =>
  intro n rs A B p y hrs hs hn hp y1 y2 y3
  have ho := often_none hp y1 y2 y3
  rcases hk with rfl | rfl
  · have e : (preL 0 ++ 60 :: (l ++ [62])).length = l.length + 2 := by simp [preL]
    rw [e] at ho ⊢
    have r1 : rs = A ++ (60 :: (l ++ 62 :: B)) := by rw [hrs]; simp [preL]
    have h60 := peek_mid r1
    have hi := iri_at hv hg r1 hs
    exact ⟨1, .plain _ _ _ _ (.step _ _ _ (mark_not (y := 60) (by rw [hs]; exact h60) (by decide)) (mark_not (y := 60) (by rw [hs]; exact h60) (by decide)) hi) ho⟩
  · have e : (preL 1 ++ 60 :: (l ++ [62])).length = l.length + 3 := by simp [preL]
    rw [e] at ho ⊢
    have r0 : rs = A ++ (94 :: (60 :: (l ++ 62 :: B))) := by rw [hrs]; simp [preL]
    have r1 : rs = (A ++ [94]) ++ (60 :: (l ++ 62 :: B)) := by rw [r0]; simp
    have h94 := peek_mid r0
    have h60 := peek_mid r1
    have eA : (A ++ [(94 : Int)]).length = A.length + 1 := by simp
    have hm := mark_at (x := 94) hs h94
    rw [eA] at h60
    have hi := iri_at (p := A.length + 1) hv hg r1 (by rw [skip_here h60 (by decide), eA])
    rw [eA, show A.length + 1 + l.length + 2 = A.length + (l.length + 3) by omega] at hi
    exact ⟨1, .plain _ _ _ _ (.back _ _ _ (mark_not (y := 94) (by rw [hs]; exact h94) (by decide)) hm.1 (by rw [show markTo rs p (mk1 94) = A.length + 1 from hm.2]; exact hi)) ho⟩
 | node k ts ls hl h hk ih =>
  intro n rs A B p y hrs hs hn hp y1 y2 y3
  generalize hJ : joinL (sepL k) ls = J at *
  have r0 : rs = A ++ (40 :: (J ++ (41 :: (endL k ++ B)))) := by rw [hrs]; simp
  have r1 : rs = (A ++ [40]) ++ (J ++ (41 :: (endL k ++ B))) := by rw [r0]; simp
  have r2 : rs = (A ++ [40] ++ J) ++ (41 :: (endL k ++ B)) := by rw [r1]; simp
  have eA : (A ++ [(40 : Int)]).length = A.length + 1 := by simp
  have eJ : (A ++ [(40 : Int)] ++ J).length = A.length + 1 + J.length := by simp; omega
  have h40 := peek_mid r0
  have h41 := peek_mid r2
  rw [eJ] at h41
  have hm := mark_at (x := 40) hs h40
  have s41 := skip_here h41 (by decide)
  have hm2 := mark_at (x := 41) s41 h41
  have eL : (40 :: (J ++ 41 :: endL k)).length = J.length + 2 + (endL k).length := by simp; omega
  rw [eL] at hn hp ⊢
  have n41 : ∀ x : UInt8, ¬ (41 : Int) = (x.toNat : Int) → markAt rs (A.length + 1 + J.length) ⟨#[x]⟩ = false := fun x hx => mark_not (y := 41) (by rw [s41]; exact h41) hx
  obtain ⟨m, rfl⟩ : ∃ m, n = m + 1 := ⟨n - 1, by omega⟩
  have each : ∀ q, q ∈ ts.zip ls → ∃ i, ts[i]? = some q.1 ∧ ls[i]? = some q.2 := fun q hq => by
   obtain ⟨i, hi⟩ := List.getElem?_of_mem hq
   exact ⟨i, List.getElem?_zip_eq_some.1 hi⟩
  have small : ∀ (i : Nat) l, ls[i]? = some l → l.length ≤ m := fun i l hi => by
   have := joinL_ge (sepL k) ls i l hi
   rw [hJ] at this
   omega
  have hd0 : ∀ l, ls[0]? = some l → ∀ x l', l = x :: l' → clsOf x ≠ 0 → skip rs [0] (A.length + 1) = A.length + 1 := fun l h0 x l' e hx => by
   have h9 : peekOf rs ((A ++ [(40 : Int)]).length + 0) = x := peek_on r1 (by
    rw [← hJ]
    cases ls with
    | nil => simp at h0
    | cons a r =>
     injection h0 with h0
     rw [h0, e]
     rfl)
   rw [eA] at h9
   exact skip_here h9 hx
  have hz1 : (ts.zip ls).map Prod.fst = ts := List.map_fst_zip (by omega)
  have hz2 : (ts.zip ls).map Prod.snd = ls := List.map_snd_zip (by omega)
  rcases hk with ⟨hk, h2⟩ | ⟨hk, h1⟩
  · obtain ⟨t0, h0⟩ : ∃ t, ts[0]? = some t := ⟨_, List.getElem?_eq_getElem (by omega)⟩
    obtain ⟨l0, h0'⟩ : ∃ l, ls[0]? = some l := ⟨_, List.getElem?_eq_getElem (by omega)⟩
    obtain ⟨x0, l0', e0, hx0⟩ := (h 0 t0 l0 h0 h0').head
    have hsA := hd0 l0 h0' x0 l0' e0 hx0
    have hne : ts.zip ls ≠ [] := fun e => by
     have h9 := congrArg List.length e
     rw [List.length_zip, List.length_nil] at h9
     omega
    have hpath : ∃ d, PathP rs (m + 1) (A.length + 1) (.node k ts) (A.length + 1 + J.length) d := by
     rcases hk with rfl | rfl
     · have hr := run_of (rs := rs) (One := StepP rs (PathP rs m)) 47 (fun y => y = 47 ∨ y = 41) (.inl rfl) (by decide) _ (ts.zip ls) (Nat.le_refl _) (fun q hq => by
        obtain ⟨i, hi1, hi2⟩ := each q hq
        refine ⟨(h i _ _ hi1 hi2).head, fun A B p y hA hsp hpk hy => ?_⟩
        exact ih i _ _ hi1 hi2 m rs A B p y hA hsp (small i _ hi2) hpk (by omega) (by omega) (by omega)) hne (A ++ [40]) (41 :: (endL 2 ++ B)) (A.length + 1) 41
        (by rw [hz2]; show rs = A ++ [40] ++ (joinL (sepL 2) ls ++ _); rw [hJ]; exact r1) (by rw [hsA, eA])
        (by rw [hz2]; show peekOf rs (skip rs [0] ((A ++ [40]).length + (joinL (sepL 2) ls).length)) = 41; rw [hJ, eA, s41]; exact h41) (.inr rfl)
       rw [hz1, hz2, show joinL [32, ((47 : UInt8).toNat : Int), 32] ls = J from hJ, eA] at hr
       obtain ⟨d, hd⟩ := hr
       exact ⟨d + 1, SepP.one _ _ _ _ (.one _ _ _ _ (SepP.many _ _ _ _ hd h2 (n41 47 (by decide)))) (n41 124 (by decide))⟩
     · have hr := run_of (rs := rs) (One := SeqP rs (PathP rs m)) 124 (fun y => y = 124 ∨ y = 41) (.inl rfl) (by decide) _ (ts.zip ls) (Nat.le_refl _) (fun q hq => by
        obtain ⟨i, hi1, hi2⟩ := each q hq
        refine ⟨(h i _ _ hi1 hi2).head, fun A B p y hA hsp hpk hy => ?_⟩
        obtain ⟨d, hd⟩ := ih i _ _ hi1 hi2 m rs A B p y hA hsp (small i _ hi2) hpk (by omega) (by omega) (by omega)
        exact ⟨d, SepP.one _ _ _ _ (.one _ _ _ _ hd) (mark_not hpk (fun e => by
         have e : y = 47 := e
         omega))⟩) hne (A ++ [40]) (41 :: (endL 3 ++ B)) (A.length + 1) 41
        (by rw [hz2]; show rs = A ++ [40] ++ (joinL (sepL 3) ls ++ _); rw [hJ]; exact r1) (by rw [hsA, eA])
        (by rw [hz2]; show peekOf rs (skip rs [0] ((A ++ [40]).length + (joinL (sepL 3) ls).length)) = 41; rw [hJ, eA, s41]; exact h41) (.inr rfl)
       rw [hz1, hz2, show joinL [32, ((124 : UInt8).toNat : Int), 32] ls = J from hJ, eA] at hr
       obtain ⟨d, hd⟩ := hr
       exact ⟨d + 1, SepP.many _ _ _ _ hd h2 (n41 124 (by decide))⟩
    obtain ⟨d, hd⟩ := hpath
    have hend : endL k = [] := by rcases hk with rfl | rfl <;> rfl
    rw [hend, List.length_nil, show A.length + (J.length + 2 + 0) = A.length + 1 + J.length + 1 by omega] at hp ⊢
    refine ⟨d, .plain _ _ _ _ ?_ (often_none hp y1 y2 y3)⟩
    have ha := AtomP.paren (rs := rs) (P := PathP rs (m + 1)) p _ _ d hm.1 (by rw [show markTo rs p (mk1 40) = A.length + 1 from hm.2]; exact hd) hm2.1
    rw [show markTo rs (A.length + 1 + J.length) (mk1 41) = A.length + 1 + J.length + 1 from hm2.2] at ha
    exact ha
  · obtain ⟨u, rfl⟩ := List.length_eq_one_iff.1 h1
    obtain ⟨lu, rfl⟩ := List.length_eq_one_iff.1 (hl.trans h1)
    obtain ⟨x0, l0', e0, hx0⟩ := (h 0 u lu rfl rfl).head
    have hsA := hd0 lu rfl x0 l0' e0 hx0
    have eJu : J = lu := by rw [← hJ]; simp [joinL, tailL]
    subst eJu
    obtain ⟨d, hd⟩ := ih 0 u J rfl rfl m rs (A ++ [40]) (41 :: (endL k ++ B)) (A.length + 1) 41 r1 (by rw [hsA, eA]) (by omega) (by rw [eA, s41]; exact h41) (by decide) (by decide) (by decide)
    rw [eA] at hd
    have ha := AtomP.paren (rs := rs) (P := PathP rs (m + 1)) p u _ d hm.1 (by
     rw [show markTo rs p (mk1 40) = A.length + 1 from hm.2]
     exact SepP.one _ _ _ _ (.one _ _ _ _ (SepP.one _ _ _ _ (.one _ _ _ _ hd) (n41 47 (by decide)))) (n41 124 (by decide))) hm2.1
    rw [show markTo rs (A.length + 1 + J.length) (mk1 41) = A.length + 1 + J.length + 1 from hm2.2] at ha
    have key : ∀ (j : Nat) (c : UInt8), endL k = [(c.toNat : Int)] → clsOf (c.toNat : Int) ≠ 0 → (j : Int) = k → oftenX j = c → (∀ e, peekOf rs (skip rs [0] e) = (c.toNat : Int) → oftenP rs e = j) → j ≠ 0 → ∃ d, StepP rs (PathP rs (m + 1)) p (.node k [u]) (A.length + (J.length + 2 + (endL k).length)) d := fun j c he hc hj hx ho hj0 => by
     have r3 : rs = (A ++ [40] ++ J ++ [41]) ++ ((c.toNat : Int) :: B) := by rw [r2, he]; simp
     have hpc := peek_mid r3
     have e4 : (A ++ [(40 : Int)] ++ J ++ [41]).length = A.length + 1 + J.length + 1 := by simp; omega
     rw [e4] at hpc
     have sc := skip_here hpc hc
     have hoj := ho _ (by rw [sc]; exact hpc)
     have hmc := mark_at sc hpc
     refine ⟨d + 1, ?_⟩
     have h9 := StepP.often p u _ d ha (by rw [hoj]; exact hj0)
     rw [hoj, hx, show markTo rs (A.length + 1 + J.length + 1) (mk1 c) = A.length + 1 + J.length + 1 + 1 from hmc.2, hj] at h9
     rw [he, List.length_singleton, show A.length + (J.length + 2 + 1) = A.length + 1 + J.length + 1 + 1 by omega]
     exact h9
    rcases hk with rfl | rfl | rfl
    · exact key 4 42 rfl (by decide) rfl rfl (fun e he => by
       unfold oftenP
       rw [show markAt rs e (mk1 42) = true from (mark_at rfl he).1]
       rfl) (by decide)
    · exact key 5 43 rfl (by decide) rfl rfl (fun e he => by
       unfold oftenP
       rw [show markAt rs e (mk1 42) = false from mark_not he (by decide), show markAt rs e (mk1 43) = true from (mark_at rfl he).1]
       rfl) (by decide)
    · exact key 6 126 rfl (by decide) rfl rfl (fun e he => by
       unfold oftenP
       rw [show markAt rs e (mk1 42) = false from mark_not he (by decide), show markAt rs e (mk1 43) = false from mark_not he (by decide), show markAt rs e (mk1 126) = true from (mark_at rfl he).1]
       rfl) (by decide)

theorem DeepIs.fn {t : PT} {d : Nat} (h : DeepIs t d) : ∀ {d' : Nat}, DeepIs t d' → d = d' := by
 induction h with
 | leaf k i =>
  intro d' h'
  cases h'
  rfl
 | node k ts d f u h h2 h1 h3 ih ih3 =>
  intro d' h'
  cases h' with
  | node _ _ d2 f2 u2 g g2 g1 g3 =>
   have e1 := ih3 (g u h1)
   have e2 := ih u2 g1 g3
   have e3 := g2 u h1
   have e4 := h2 u2 g1
   omega
theorem PrL.path {t : PT} {l : List Int} (h : PrL t l) {n p : Nat} {rs A B : List Int} {y : Int} (hrs : rs = A ++ (l ++ B)) (hs : skip rs [0] p = A.length) (hn : l.length + 1 ≤ n) (hp : peekOf rs (skip rs [0] (A.length + l.length)) = y) (y1 : y ≠ 42) (y2 : y ≠ 43) (y3 : y ≠ 126) (y4 : y ≠ 47) (y5 : y ≠ 124) :
    ∃ d, PathP rs n p t (A.length + l.length) d := by
 obtain ⟨m, rfl⟩ : ∃ m, n = m + 1 := ⟨n - 1, by omega⟩
 obtain ⟨d, hd⟩ := h.step m rs A B p y hrs hs (by omega) hp y1 y2 y3
 exact ⟨d, SepP.one _ _ _ _ (.one _ _ _ _ (SepP.one _ _ _ _ (.one _ _ _ _ hd) (mark_not hp y4))) (mark_not hp y5)⟩
theorem PrL.signs {t : PT} {l : List Int} (h : PrL t l) : ∀ x, x ∈ l → signR x = true := by
 induction h with
 | leaf k l hk hv hg =>
  intro x hx
  rw [List.mem_append, List.mem_cons, List.mem_append, List.mem_singleton] at hx
  rcases hx with hx | rfl | hx | rfl
  · unfold preL at hx
    split at hx
    · rw [List.mem_singleton.1 hx]
      decide
    · cases hx
  · decide
  · exact hv x hx
  · decide
 | node k ts ls hl h hk ih =>
  have hj : ∀ (r : List (List Int)), (∀ l, l ∈ r → ∀ x, x ∈ l → signR x = true) → ∀ x, x ∈ joinL (sepL k) r → signR x = true := fun r hr x hx => by
   have hs : ∀ x, x ∈ sepL k → signR x = true := fun x hx => by
    unfold sepL at hx
    split at hx
    · simp at hx
      rcases hx with rfl | rfl | rfl <;> decide
    · split at hx
      · simp at hx
        rcases hx with rfl | rfl | rfl <;> decide
      · cases hx
   cases r with
   | nil => cases hx
   | cons a r =>
    unfold joinL tailL at hx
    rw [List.mem_append, List.mem_flatten] at hx
    rcases hx with hx | ⟨b, hb, hx⟩
    · exact hr a (List.mem_cons_self ..) x hx
    · obtain ⟨c, hc, rfl⟩ := List.mem_map.1 hb
      rcases List.mem_append.1 hx with hx | hx
      · exact hs x hx
      · exact hr c (List.mem_cons_of_mem _ hc) x hx
  intro x hx
  rw [List.mem_cons, List.mem_append, List.mem_cons] at hx
  rcases hx with rfl | hx | rfl | hx
  · decide
  · refine hj ls (fun l hm => ?_) x hx
    obtain ⟨i, hi⟩ := List.getElem?_of_mem hm
    have hlt := (List.getElem?_eq_some_iff.1 hi).1
    exact ih i _ l (List.getElem?_eq_getElem (by omega)) hi
  · decide
  · unfold endL at hx
    split at hx
    · rw [List.mem_singleton.1 hx]
      decide
    · split at hx
      · rw [List.mem_singleton.1 hx]
        decide
      · split at hx
        · rw [List.mem_singleton.1 hx]
          decide
        · cases hx
theorem PrL.good {t : PT} {l : List Int} (h : PrL t l) {d : Nat} (hd : DeepIs t d) (h40 : d ≤ 40) : PathGood (hdL ++ (l ++ tlL)) ∧ PathP (hdL ++ (l ++ tlL)) ((hdL ++ (l ++ tlL)).length + 1) 46 t (47 + l.length) d := by
 obtain ⟨x, l', hl, hx⟩ := h.head
 generalize hrs : hdL ++ (l ++ tlL) = rs
 have e1 : hdL.length = 47 := rfl
 have e2 : tlL.length = 7 := rfl
 have hlen : rs.length = 47 + l.length + 7 := by rw [← hrs, List.length_append, List.length_append]; omega
 have k46 : peekOf rs 46 = 32 := by
  have h := peek_on (rs := rs) (A := []) (L := hdL ++ (l ++ tlL)) (k := 46) (x := 32) hrs.symm (by rw [List.getElem?_append_left (by decide)]; rfl)
  simpa using h
 have k47 : peekOf rs 47 = x := by
  have h := peek_on (rs := rs) (A := hdL) (L := l ++ tlL) (k := 0) (x := x) hrs.symm (by rw [hl]; rfl)
  exact h
 have r2 : rs = (hdL ++ l) ++ tlL := by rw [← hrs]; simp
 have eHl : (hdL ++ l).length = 47 + l.length := by rw [List.length_append]; omega
 have t0 : peekOf rs (47 + l.length) = 32 := by have h := peek_on (k := 0) r2 (x := 32) rfl; rw [eHl] at h; exact h
 have t1 : peekOf rs (47 + l.length + 1) = 63 := by have h := peek_on (k := 1) r2 (x := 63) rfl; rw [eHl] at h; exact h
 have s1 := skip_one t0 rfl t1 (by decide)
 obtain ⟨d', hd'⟩ := h.path (n := rs.length + 1) (p := 46) (rs := rs) (A := hdL) (B := tlL) (y := 63) hrs.symm (skip_one k46 rfl k47 hx) (by omega) (by rw [e1, s1]; exact t1) (by decide) (by decide) (by decide) (by decide) (by decide)
 rw [e1] at hd'
 obtain rfl := hd'.deep.fn hd
 exact ⟨⟨t, _, d', hd', h40, by rw [s1]; omega, by omega⟩, hd'⟩

theorem wt_asc (x : Int) (h : 0 ≤ x) (h1 : x ≤ 127) : wt [x] = 1 := by
 unfold wt encL
 simp only [List.flatMap_cons, List.flatMap_nil, List.append_nil]
 unfold Lib.encodeRune
 rw [Lib.encodeRuneZ_one h h1]
 rfl
theorem wt_ac (x : Int) (l : List Int) (h : 0 ≤ x) (h1 : x ≤ 127) : wt (x :: l) = 1 + wt l := by rw [wt_cons, wt_asc x h h1]
theorem wt_join (sep : List Int) : ∀ ls : List (List Int), wt (joinL sep ls) ≤ (ls.map wt).sum + wt sep * (ls.length - 1)
 | [] => Nat.zero_le _
 | x :: r => by
  have h : wt (tailL sep r) ≤ (r.map wt).sum + wt sep * r.length := by
   unfold tailL
   induction r with
   | nil => exact Nat.zero_le _
   | cons y r ih =>
    rw [List.map_cons, List.flatten_cons, wt_append, wt_append, List.map_cons, List.sum_cons, List.length_cons, Nat.mul_succ]
    omega
  show wt (x ++ tailL sep r) ≤ ((x :: r).map wt).sum + wt sep * (r.length + 1 - 1)
  rw [wt_append, List.map_cons, List.sum_cons, Nat.add_sub_cancel]
  omega
/-- What is read as a path may be printed; what that weighs. -/
def PrOk (rs : List Int) (P : Nat → PT → Nat → Nat → Prop) : Prop := ∀ p t e d, p ≤ rs.length → P p t e d → p < e ∧ e ≤ rs.length ∧ ∃ l, PrL t l ∧ wt l + 5000 * p ≤ 5000 * e
theorem AtomP.pr {rs : List Int} (hv : ∀ r, r ∈ rs → signR r = true) {P : Nat → PT → Nat → Nat → Prop} (hP : PrOk rs P) : PrOk rs (AtomP rs P) := by
 intro p t e d hp h
 have key : ∀ (q e : Nat) (i : ByteArray) (k : Int), (k = 0 ∨ k = 1) → p ≤ q → q ≤ rs.length → IriP rs q e i → p < e ∧ e ≤ rs.length ∧ ∃ l, PrL (.leaf k i) l ∧ wt l + 5000 * p ≤ 5000 * e := fun q e i k hk hq hq2 hi => by
  have hpos := hi.pos hv hq2
  have hg := hi.2
  obtain ⟨h60, l, hir, rfl⟩ := hi.parts
  have hle := (skip_le rs [0] (rs.length - q) q (Nat.le_refl _) hq2).2
  have hvl := ((iriR_fits rs hv _ hle).1 l (by rw [hir])).2
  refine ⟨by omega, hpos.2, _, .leaf k l hk hvl hg, ?_⟩
  have h1 := (iri_raw hvl hg).1
  rw [strL_wt] at h1
  have h2 : wt (preL k) ≤ 1 := by
   unfold preL
   split
   · rw [wt_asc _ (by decide) (by decide)]
     exact Nat.le_refl _
   · exact Nat.zero_le _
  rw [wt_append, wt_cons, wt_append, wt_asc 60 (by decide) (by decide), wt_asc 62 (by decide) (by decide)]
  omega
 cases h with
 | paren t e d h1 h2 h3 =>
  have m1 : p < markTo rs p (mk1 40) ∧ markTo rs p (mk1 40) ≤ rs.length := (mark_in h1 hp).2
  obtain ⟨a, b, l, hl, hw⟩ := hP _ _ _ _ m1.2 h2
  have m2 : e < markTo rs e (mk1 41) ∧ markTo rs e (mk1 41) ≤ rs.length := (mark_in h3 b).2
  exact ⟨by omega, m2.2, l, hl, by omega⟩
 | back e i h1 h2 h3 =>
  have m1 : p < markTo rs p (mk1 94) ∧ markTo rs p (mk1 94) ≤ rs.length := (mark_in h2 hp).2
  exact key _ _ _ 1 (.inr rfl) (by omega) m1.2 h3
 | step e i h1 h2 h3 => exact key _ _ _ 0 (.inl rfl) (Nat.le_refl _) hp h3
theorem often_is {rs : List Int} {e : Nat} (h : oftenP rs e ≠ 0) : ((oftenP rs e : Int) = 4 ∨ (oftenP rs e : Int) = 5 ∨ (oftenP rs e : Int) = 6) ∧ markAt rs e (mk1 (oftenX (oftenP rs e))) = true := by
 unfold oftenP at *
 split
 · exact ⟨.inl rfl, by assumption⟩
 · rename_i c1
   rw [if_neg c1] at h
   split
   · exact ⟨.inr (.inl rfl), by assumption⟩
   · rename_i c2
     rw [if_neg c2] at h
     split
     · exact ⟨.inr (.inr rfl), by assumption⟩
     · rename_i c3
       rw [if_neg c3] at h
       exact absurd rfl h
theorem StepP.pr {rs : List Int} {P : Nat → PT → Nat → Nat → Prop} (hP : PrOk rs (AtomP rs P)) : PrOk rs (StepP rs P) := by
 intro p t e d hp h
 cases h with
 | plain _ _ _ h1 h2 => exact hP _ _ _ _ hp h1
 | often t e d h1 h2 =>
  obtain ⟨a, b, l, hl, hw⟩ := hP _ _ _ _ hp h1
  obtain ⟨hk, hm⟩ := often_is h2
  have m2 : e < markTo rs e (mk1 (oftenX (oftenP rs e))) ∧ markTo rs e (mk1 (oftenX (oftenP rs e))) ≤ rs.length := (mark_in hm b).2
  refine ⟨by omega, m2.2, _, .node _ [t] [l] rfl (fun i t' l' h1 h2 => by
   cases i with
   | zero =>
    injection h1 with h1
    injection h2 with h2
    rw [← h1, ← h2]
    exact hl
   | succ i => cases h1) (.inr ⟨hk, rfl⟩), ?_⟩
  have h5 : wt (endL (oftenP rs e : Int)) ≤ 1 := by
   rcases hk with hk | hk | hk <;> rw [hk]
   · rw [show endL 4 = [42] from rfl, wt_asc _ (by decide) (by decide)]; exact Nat.le_refl _
   · rw [show endL 5 = [43] from rfl, wt_asc _ (by decide) (by decide)]; exact Nat.le_refl _
   · rw [show endL 6 = [126] from rfl, wt_asc _ (by decide) (by decide)]; exact Nat.le_refl _
  have ej : joinL (sepL (oftenP rs e : Int)) [l] = l := by simp [joinL, tailL]
  rw [ej, wt_ac 40 _ (by decide) (by decide), wt_append, wt_ac 41 _ (by decide) (by decide)]
  omega
theorem RunP.pr {rs : List Int} {x : UInt8} {One : Nat → PT → Nat → Nat → Prop} (hP : PrOk rs One) {p e d : Nat} {ts : List PT} (h : RunP rs x One p ts e d) (hp : p ≤ rs.length) : p < e ∧ e ≤ rs.length ∧ ∃ ls : List (List Int), ls.length = ts.length ∧ (∀ (i : Nat) t l, ts[i]? = some t → ls[i]? = some l → PrL t l) ∧ (ls.map wt).sum + 5000 * p + 5000 * (ts.length - 1) ≤ 5000 * e := by
 induction h with
 | one t e d h =>
  obtain ⟨a, b, l, hl, hw⟩ := hP _ _ _ _ hp h
  refine ⟨a, b, [l], rfl, fun i t' l' h1 h2 => ?_, ?_⟩
  · cases i with
    | zero =>
     injection h1 with h1
     injection h2 with h2
     rw [← h1, ← h2]
     exact hl
    | succ i => cases h1
  · simp
    omega
 | more ts t e d e1 d1 h h1 h2 ih =>
  obtain ⟨a, b, ls, i1, i2, i3⟩ := ih
  have m1 : e < markTo rs e (mk1 x) ∧ markTo rs e (mk1 x) ≤ rs.length := (mark_in h1 b).2
  obtain ⟨a2, b2, l, hl, hw⟩ := hP _ _ _ _ m1.2 h2
  have hpos := h.pos
  refine ⟨by omega, b2, ls ++ [l], by simp [i1], fun i t' l' h1 h2 => ?_, ?_⟩
  · by_cases hi : i < ts.length
    · rw [List.getElem?_append_left hi] at h1
      rw [List.getElem?_append_left (by omega)] at h2
      exact i2 i _ _ h1 h2
    · rw [List.getElem?_append_right (by omega)] at h1
      rw [List.getElem?_append_right (by omega), i1] at h2
      generalize i - ts.length = m at h1 h2
      cases m with
      | zero =>
       injection h1 with h1
       injection h2 with h2
       rw [← h1, ← h2]
       exact hl
      | succ m => cases h1
  · simp only [List.map_append, List.map_cons, List.map_nil, List.sum_append, List.sum_cons, List.sum_nil, List.length_append, List.length_singleton]
    omega
theorem SepP.pr {rs : List Int} {x : UInt8} {k : Int} {One : Nat → PT → Nat → Nat → Prop} (hk : k = 2 ∨ k = 3) (hP : PrOk rs One) : PrOk rs (SepP rs x k One) := by
 intro p t e d hp h
 obtain ⟨ts, d', h1, h2, h3⟩ := h.run
 obtain ⟨a, b, ls, i1, i2, i3⟩ := h1.pr hP hp
 rcases h3 with ⟨rfl, -⟩ | ⟨h3, rfl, -⟩
 · obtain ⟨l, rfl⟩ := List.length_eq_one_iff.1 i1
   refine ⟨a, b, l, i2 0 _ _ rfl rfl, ?_⟩
   simp at i3
   omega
 · refine ⟨a, b, _, .node k ts ls i1 i2 (.inl ⟨hk, h3⟩), ?_⟩
   have h5 : endL k = [] ∧ wt (sepL k) ≤ 3 := by
    rcases hk with rfl | rfl
    · exact ⟨rfl, by decide +kernel⟩
    · exact ⟨rfl, by decide +kernel⟩
   have h6 := wt_join (sepL k) ls
   have h7 : wt (sepL k) * (ls.length - 1) ≤ 3 * (ls.length - 1) := Nat.mul_le_mul_right _ h5.2
   rw [h5.1, wt_ac 40 _ (by decide) (by decide), wt_append, wt_asc 41 (by decide) (by decide)]
   omega
theorem PathP.pr {rs : List Int} (hv : ∀ r, r ∈ rs → signR r = true) : ∀ n, PrOk rs (PathP rs n)
 | 0 => fun _ _ _ _ _ h => h.elim
 | n + 1 => SepP.pr (.inr rfl) (SepP.pr (.inl rfl) (StepP.pr (AtomP.pr hv (PathP.pr hv n))))

theorem strL_app (a b : List Int) : strL (a ++ b) = strL a ++ strL b := by
 unfold strL
 rw [encL_append]
 apply ByteArray.ext
 simp
theorem str_lt : strL [60] = ⟨#[60]⟩ ∧ strL [62] = ⟨#[62]⟩ ∧ strL [94] = ⟨#[94]⟩ ∧ strL [40] = ⟨#[40]⟩ ∧ strL [41] = ⟨#[41]⟩ ∧ strL [42] = ⟨#[42]⟩ ∧ strL [43] = ⟨#[43]⟩ ∧ strL [126] = ⟨#[126]⟩ ∧ strL [32, 47, 32] = ⟨#[32, 47, 32]⟩ ∧ strL [32, 124, 32] = ⟨#[32, 124, 32]⟩ ∧ strL [] = ⟨#[]⟩ := by decide +kernel
theorem join_str (sep : List Int) (ls : List (List Int)) : (⟨(Lib.join ((ls.map strL).map (·.data.toList)) (strL sep).data.toList).toArray⟩ : ByteArray) = strL (joinL sep ls) := by
 have e : ∀ l : List Int, (strL l).data.toList = encL l := fun l => by unfold strL; simp
 have key : Lib.join ((ls.map strL).map (·.data.toList)) (strL sep).data.toList = encL (joinL sep ls) := by
  rw [e sep]
  cases ls with
  | nil => rfl
  | cons x r =>
   rw [List.map_cons, List.map_cons, Lib.join_cons, e x]
   show _ = encL (x ++ tailL sep r)
   rw [encL_append]
   congr 1
   unfold Lib.joinTail tailL
   induction r with
   | nil => rfl
   | cons y r ih =>
    simp only [List.map_cons, List.flatten_cons] at ih ⊢
    rw [encL_append, encL_append, ih, e y, List.append_assoc]
 rw [key]
 rfl
theorem piri (s : ByteArray) (hs : s.size ≤ 1000000000) (w : World) : Calls Tryz.prog 21 #[.string s] w fun e w' => e = .returned (.string (⟨#[60]⟩ ++ s ++ ⟨#[62]⟩)) ∧ w = w' := by
 have h1 : ¬ 9223372036854775807 < 1 + s.size := by omega
 have h2 : ¬ 9223372036854775807 < 1 + s.size + 1 := by omega
 go_enter Tryz.func21, Tryz.ntmps21
 go_wp2_with fail
 go_ret
 exact ⟨rfl, rfl⟩
def PPr (b : List Int) (w : World) (e : Ending) (w' : World) : Prop := e = .returned (.string (strL b)) ∧ Fr (fun _ => False) w w'
theorem take_row {ls : List (List Int)} {j : Nat} (h : j < ls.length) : (ls.take (j + 1)).map (fun l => Value.string (strL l)) = (ls.take j).map (fun l => Value.string (strL l)) ++ #[Value.string (strL ls[j])].toList := by
 rw [List.take_succ_eq_append_getElem h, List.map_append]
 rfl
theorem pjoin (sep : List Int) (ts : List PT) (ls : List (List Int)) (hls : ls.length = ts.length) (h1 : 1 ≤ ts.length) (hlen : ts.length ≤ 9000) (w : World) (B : Nat) (A : Option Addr) (c : Nat) (L : List (List Value)) (h : PartAt w B A c ts L) (hsz : wt (joinL sep ls) ≤ 1000000000)
    (HN : ∀ (w1 : World) (i : Nat) (t : PT) (b : List Int) (l : List Value), ts[i]? = some t → ls[i]? = some b → Fr (fun j => w.heap.size ≤ j) w w1 → PAt 62 w1 B t l → Calls Tryz.prog 10 #[.agg l.toArray] w1 (PPr b w1)) :
    Calls Tryz.prog 22 #[.slice A ts.length c, .string (strL sep)] w (PPr (40 :: (joinL sep ls ++ [41])) w) := by
 have hcap : (ts.length : Int) ≤ (c : Int) := row_cap h.2.2
 obtain ⟨g, hA⟩ := row_addr h.2.2 (by omega)
 subst hA
 obtain ⟨n, hn⟩ : ∃ n, n = ts.length := ⟨_, rfl⟩
 have HPA := Lib.hid h
 have HNN := Lib.hid HN
 have HLS := Lib.hid hls
 have HSZ := Lib.hid hsz
 rw [← hn] at hlen hcap h1 ⊢
 have HN' := Lib.hid hn
 obtain ⟨sp, hsp⟩ : ∃ sp, sp = strL sep := ⟨_, rfl⟩
 rw [← hsp]
 have HSP := Lib.hid hsp
 clear h HN hls hsz hn hsp
 go_enter Tryz.func22, Tryz.ntmps22
 go_wp2_with fail
 go_loopg [5, 10] (n) (fun gk a b wr => ∃ (j : Nat) (A3 : Option Addr) (c3 : Nat), a = .slice A3 j c3 ∧ b = .int .i64 (j : Int) ∧ n ≤ j + gk ∧ j ≤ n ∧ wr.ownsRow w.heap.size 9 1 (.slice A3 j c3) j ((ls.take j).map (fun l => Value.string (strL l))) ∧ Fr (fun j => w.heap.size ≤ j) w wr)
 case atStart => exact ⟨0, none, 0, rfl, rfl, by omega, by omega, World.ownsRow_nil _ _ _ _, Fr.refl _ _⟩
 case round =>
  obtain ⟨j, A3, c3, rfl, rfl, hgk, hj, hrow, hfr⟩ := hrel
  obtain ⟨xs, hxs⟩ : ∃ xs, xs = (ls.take j).map (fun l => Value.string (strL l)) := ⟨_, rfl⟩
  rw [← hxs] at hrow
  have HXS := Lib.hid hxs
  have HROW := Lib.hid hrow
  have HFR := Lib.hid hfr
  clear hrow hfr hxs
  by_cases hjn : j < n
  · have hp := HPA.out.frF (HFR.out.shut (Nat.le_refl _))
    have hjt : j < ts.length := by rw [← HN'.out]; exact hjn
    have hjL : j < L.length := by rw [hp.1]; exact hjt
    have hjl : j < ls.length := by rw [HLS.out]; exact hjt
    have e1 := List.getElem?_eq_getElem hjL
    have e2 := List.getElem?_eq_getElem hjt
    have e3 := List.getElem?_eq_getElem hjl
    have hpa := hp.2.1 j _ _ e2 e1
    have HRA := Lib.hid (row_range hp.2.2 hp.three e1)
    obtain ⟨k2, i2, A2, n2, c2, hl⟩ := hpa.cells
    rw [hl, Nat.mul_comm] at HRA
    rw [hl] at hpa
    have htk := take_row hjl
    rw [← HXS.out] at htk
    have HTK := Lib.hid htk
    clear htk
    have HC := Lib.hid (fun w1 (hf : Fr (fun _ => False) wr w1) => HNN.out w1 j ts[j] ls[j] _ e2 e3 (HFR.out.andF hf) (hpa.frF hf))
    generalize ls[j] = bj at *
    generalize ts[j] = tj at *
    clear e1 e2 e3 hpa hp hl hjL hjt hjl HNN HPA
    have hj0 : (0 : Int) ≤ (j : Int) := by omega
    have hjn2 : (j : Int) < (n : Int) := by omega
    have hf4 : Fr (fun _ => False) wr (wr.alloc (.cells #[.int .i64 k2, .string i2, .slice A2 n2 c2] 62)) := (Fr.refl _ _).alloc _
    have HX4 := Lib.hid (blkRange (cs := [.int .i64 k2, .string i2, .slice A2 n2 c2]) (Blk.new wr 62 #[.int .i64 k2, .string i2, .slice A2 n2 c2]))
    have HC4 := Lib.hid (HC.out _ hf4)
    have HF4 := Lib.hid hf4
    unfold PPr at HC4
    clear HC hf4
    go_wp2_with ((with_reducible change wpList _ _ _ (Oper.mk _ (.load 62 _) _ _ _ _ :: _) _ _); first | refine wpList_load_mid rfl 62 _ rfl _ _ rfl _ _ HRA.out Tryz.underlying62 rfl inf62 ?_ | refine wpList_load_mid rfl 62 _ rfl _ _ rfl _ _ HX4.out Tryz.underlying62 rfl inf62 ?_)
    refine HC4.out.mono ?_
    rintro e w5 ⟨rfl, hf5⟩
    have hf6 := hf5.alloc (.cells #[.string (strL bj)] 9)
    have HF6 := Lib.hid (HFR.out.andF (HF4.out.trans' hf6))
    have HR6 := Lib.hid (ownsRow_fr HROW.out (HF4.out.trans' hf6) (fun _ _ h => h))
    have HL6 := Lib.hid (Blk.new w5 9 #[.string (strL bj)])
    have hs6 := HF6.out.size
    clear hf5 hf6 HC4 HF4 HX4 HRA HROW HFR
    go_wp2_with (at_builtin; refine wpList_append_H rfl _ _ 28 rfl w.heap.size 9 (.string ⟨#[]⟩) 1 16 Tryz.underlying28 infZ9 rfl (by decide) (.slice A3 j c3) j _ rfl HR6.out w5.heap.size #[.string (strL bj)] rfl HL6.out (cells1 _ rfl) (by omega) (by decide) (by omega) ?_)
    refine Lib.hid ?_
    rintro g1 cap1 w8 ho8 hgrow hor
    have HO8 := Lib.hid ho8
    have HF8 := Lib.hid (HF6.out.trans (Fr.of_grown hgrow) (fun j hj h => own_ge HR6.out h))
    clear ho8 hgrow hor
    go_wp2_with fail
    go_roundg (n - (j + 1))
    case measure => omega
    case rel => exact ⟨j + 1, _, _, rfl, by push_cast; rfl, by omega, by omega, by rw [HTK.out]; exact HO8.out, HF8.out⟩
  · obtain rfl : j = n := by omega
    obtain ⟨g3, rfl⟩ := row_addr HROW.out (by omega)
    have hl0 : ls.length = j := by rw [HLS.out, HN'.out]
    have hrow := HROW.out
    rw [HXS.out, List.take_of_length_le (by omega)] at hrow
    have hcells : ∀ (m : Nat) x, (ls.map strL)[m]? = some x → wr.cell? ⟨g3, 0 + m, none⟩ = some (.string x) := fun m x hx => by
     have hm : m < ls.length := by
      have := (List.getElem?_eq_some_iff.1 hx).1
      rwa [List.length_map] at this
     have h9 := World.ownsRow.cellAt hrow m (by omega)
     rw [Nat.zero_add, h9]
     rw [List.getElem?_map] at hx ⊢
     cases hq : ls[m]? with
     | none => rw [hq] at hx; cases hx
     | some l =>
      rw [hq] at hx
      injection hx with hx
      rw [← hx]
      rfl
    have hJ := Tryz.strings_Join g3 0 c3 (ls.map strL) sp wr hcells (World.ownsRow.lt hrow g3 rfl).2 (by rw [List.length_map]; omega) (by rw [List.length_map]; have := row_cap hrow; omega) (by
     have e := join_str sep ls
     rw [← HSP.out] at e
     have h7 := congrArg ByteArray.size e
     rw [strL_wt] at h7
     have h8 : (⟨(Lib.join ((ls.map strL).map (·.data.toList)) sp.data.toList).toArray⟩ : ByteArray).size = (Lib.join ((ls.map strL).map (·.data.toList)) sp.data.toList).length := List.size_toArray
     have := HSZ.out
     omega)
    rw [List.length_map, hl0, HSP.out, join_str] at hJ
    rw [← HSP.out] at hJ
    have HJ := Lib.hid hJ
    have HW := Lib.hid (show (strL (joinL sep ls)).size ≤ 1000000000 from HSZ.out)
    generalize hJs : strL (joinL sep ls) = Js at *
    have h2 : ¬ 9223372036854775807 < 1 + Js.size := by have := HW.out; omega
    have h3 : ¬ 9223372036854775807 < 1 + Js.size + 1 := by have := HW.out; omega
    have HR := Lib.hid (show ⟨#[40]⟩ ++ Js ++ ⟨#[41]⟩ = strL (40 :: (joinL sep ls ++ [41])) by
     rw [show (40 :: (joinL sep ls ++ [41])) = [40] ++ joinL sep ls ++ [41] by simp, strL_app, strL_app, hJs, str_lt.2.2.2.1, str_lt.2.2.2.2.1])
    clear hJs hJ hcells hrow hl0 HPA HNN HROW
    go_wp2_with fail
    refine HJ.out.mono ?_
    rintro e w5 ⟨rfl, hb5⟩
    have HFE := Lib.hid ((HFR.out.andF (Fr.of_below hb5 (fun _ => False))).shut (Nat.le_refl _))
    clear hb5
    go_wp2_with fail
    go_ret
    exact ⟨by rw [← HR.out]; rfl, HFE.out⟩

theorem Sg.low {w w' : World} (h : Sg w) (hf : Fr (fun j => w.heap.size ≤ j) w w') : Sg w' := Blk.fr h hf (fun e => by have := Blk.lt h; omega)
theorem wt_part_le (sep : List Int) : ∀ (ls : List (List Int)) (i : Nat) (l : List Int), ls[i]? = some l → wt l ≤ wt (joinL sep ls)
 | [], i, l, h => by simp at h
 | x :: r, 0, l, h => by
  injection h with h
  subst h
  show wt x ≤ wt (x ++ tailL sep r)
  rw [wt_append]
  omega
 | x :: r, i + 1, l, h => by
  have hm : l ∈ r := List.mem_of_getElem? h
  have : wt l ≤ wt (tailL sep r) := by
   clear h
   unfold tailL
   induction r with
   | nil => cases hm
   | cons y r ih =>
    rw [List.map_cons, List.flatten_cons, wt_append, wt_append]
    rcases List.mem_cons.1 hm with rfl | hm
    · omega
    · have := ih hm
      omega
  show wt l ≤ wt (x ++ tailL sep r)
  rw [wt_append]
  omega
theorem print_leaf (k : Int) (hk : k = 0 ∨ k = 1) (l : List Int) (hl : wt l ≤ 5000) (w : World) : Calls Tryz.prog 10 #[.agg #[.int .i64 k, .string (strL l), .slice none 0 0]] w (PPr (preL k ++ 60 :: (l ++ [62])) w) := by
 have hs : (strL l).size ≤ 5000 := hl
 have HI := Lib.hid (fun w1 => piri (strL l) (by omega) w1)
 have e1 : (⟨#[60]⟩ : ByteArray) ++ strL l ++ ⟨#[62]⟩ = strL (60 :: (l ++ [62])) := by
  rw [show (60 :: (l ++ [62])) = [60] ++ l ++ [62] by simp, strL_app, strL_app, str_lt.1, str_lt.2.1]
 have hsz : (strL (60 :: (l ++ [62]))).size ≤ 10000 := by
  rw [← e1, ByteArray.size_append, ByteArray.size_append]
  show 1 + (strL l).size + 1 ≤ 10000
  omega
 have e2 : (⟨#[94]⟩ : ByteArray) ++ strL (60 :: (l ++ [62])) = strL ([94] ++ 60 :: (l ++ [62])) := by
  rw [strL_app, str_lt.2.2.1]
 rw [e1] at HI
 have HE2 := Lib.hid e2
 have HF := Lib.hid ((Fr.refl (fun _ => False) w).alloc (.cells #[.int .i64 k, .string (strL l), .slice none 0 0] 62))
 have hb := Blk.new w 62 #[.int .i64 k, .string (strL l), .slice none 0 0]
 have c0 : (w.alloc (.cells #[.int .i64 k, .string (strL l), .slice none 0 0] 62)).cell? ⟨w.heap.size, 0, none⟩ = some (.int .i64 k) := hb.cell 0
 have c1 : (w.alloc (.cells #[.int .i64 k, .string (strL l), .slice none 0 0] 62)).cell? ⟨w.heap.size, 1, none⟩ = some (.string (strL l)) := hb.cell 1
 have HE0 := Lib.hid (show strL (preL 0 ++ 60 :: (l ++ [62])) = strL (60 :: (l ++ [62])) from rfl)
 generalize strL (60 :: (l ++ [62])) = out at *
 have h2 : ¬ 9223372036854775807 < 1 + out.size := by omega
 have HX := Lib.hid (show (preL 0 ++ 60 :: (l ++ [62])) = 60 :: (l ++ [62]) ∧ (preL 1 ++ 60 :: (l ++ [62])) = [94] ++ 60 :: (l ++ [62]) from ⟨rfl, rfl⟩)
 generalize strL l = s at *
 clear hb e1 e2 hsz hs
 rcases hk with rfl | rfl
 · go_enter Tryz.func10, Tryz.ntmps10
   go_wp2_with fail
   refine (HI.out _).mono ?_
   rintro e w1 ⟨rfl, rfl⟩
   go_wp2_with fail
   go_ret
   exact ⟨by rw [HE0.out]; rfl, HF.out⟩
 · go_enter Tryz.func10, Tryz.ntmps10
   go_wp2_with fail
   refine (HI.out _).mono ?_
   rintro e w1 ⟨rfl, rfl⟩
   go_wp2_with fail
   go_ret
   exact ⟨by rw [HX.out.2, ← HE2.out]; rfl, HF.out⟩
theorem print_node (k : Int) (n c : Nat) (A : Option Addr) (ls : List (List Int)) (w : World) (hk : (k = 2 ∨ k = 3) ∨ (k = 4 ∨ k = 5 ∨ k = 6)) (hg : Sg w) (hsz : wt (joinL (sepL k) ls) ≤ 1000000000)
    (HJ : ∀ w1, Fr (fun _ => False) w w1 → Calls Tryz.prog 22 #[.slice A n c, .string (strL (sepL k))] w1 (PPr (40 :: (joinL (sepL k) ls ++ [41])) w1)) :
    Calls Tryz.prog 10 #[.agg #[.int .i64 k, .string ⟨#[]⟩, .slice A n c]] w (PPr (40 :: (joinL (sepL k) ls ++ 41 :: endL k)) w) := by
 have hf0 := (Fr.refl (fun _ => False) w).alloc (.cells #[.int .i64 k, .string ⟨#[]⟩, .slice A n c] 62)
 have HF := Lib.hid hf0
 have hb := Blk.new w 62 #[.int .i64 k, .string ⟨#[]⟩, .slice A n c]
 have HB := Lib.hid hb
 have c0 : (w.alloc (.cells #[.int .i64 k, .string ⟨#[]⟩, .slice A n c] 62)).cell? ⟨w.heap.size, 0, none⟩ = some (.int .i64 k) := hb.cell 0
 have c2 : (w.alloc (.cells #[.int .i64 k, .string ⟨#[]⟩, .slice A n c] 62)).cell? ⟨w.heap.size, 2, none⟩ = some (.slice A n c) := hb.cell 2
 have hg0 := hg.frF hf0
 have HG := Lib.hid hg0
 have HJ1 := Lib.hid (fun w1 (h : Fr (fun _ => False) (w.alloc (.cells #[.int .i64 k, .string ⟨#[]⟩, .slice A n c] 62)) w1) => HJ w1 (hf0.trans' h))
 unfold PPr at HJ1
 have e1 : strL (40 :: (joinL (sepL k) ls ++ 41 :: endL k)) = strL (40 :: (joinL (sepL k) ls ++ [41])) ++ strL (endL k) := by
  rw [← strL_app]
  congr 1
  simp
 have HE := Lib.hid e1
 have hz : (strL (40 :: (joinL (sepL k) ls ++ [41]))).size ≤ 1000000002 := by
  rw [strL_wt, wt_ac 40 _ (by decide) (by decide), wt_append, wt_asc 41 (by decide) (by decide)]
  omega
 clear hb hg hf0 HJ e1 hg0
 generalize strL (40 :: (joinL (sepL k) ls ++ [41])) = js at *
 have h2 : ¬ 9223372036854775807 < js.size + 1 := by omega
 rcases hk with hk | hk
 · have HSE := Lib.hid (show strL (40 :: (joinL (sepL k) ls ++ 41 :: endL k)) = js by
    have h0 : endL k = [] := by rcases hk with rfl | rfl <;> rfl
    have h1 := HE.out
    rw [h0] at h1 ⊢
    rw [h1, str_lt.2.2.2.2.2.2.2.2.2.2]
    exact ByteArray.append_empty)
   have HS := Lib.hid (show (k = 2 → strL (sepL k) = ⟨#[32, 47, 32]⟩) ∧ (k = 3 → strL (sepL k) = ⟨#[32, 124, 32]⟩) from ⟨fun h => by subst h; exact str_lt.2.2.2.2.2.2.2.2.1, fun h => by subst h; exact str_lt.2.2.2.2.2.2.2.2.2.1⟩)
   rcases hk with rfl | rfl
   · rw [HS.out.1 rfl] at HJ1
     go_enter Tryz.func10, Tryz.ntmps10
     go_wp2_with fail
     refine (HJ1.out _ (Fr.refl _ _)).mono ?_
     rintro e w1 ⟨rfl, hf1⟩
     have HF1 := Lib.hid (HF.out.trans' hf1)
     clear hf1
     go_wp2_with fail
     go_ret
     exact ⟨by rw [HSE.out]; rfl, HF1.out⟩
   · rw [HS.out.2 rfl] at HJ1
     go_enter Tryz.func10, Tryz.ntmps10
     go_wp2_with fail
     refine (HJ1.out _ (Fr.refl _ _)).mono ?_
     rintro e w1 ⟨rfl, hf1⟩
     have HF1 := Lib.hid (HF.out.trans' hf1)
     clear hf1
     go_wp2_with fail
     go_ret
     exact ⟨by rw [HSE.out]; rfl, HF1.out⟩
 · have hsep : strL (sepL k) = ⟨#[]⟩ := by rcases hk with rfl | rfl | rfl <;> exact str_lt.2.2.2.2.2.2.2.2.2.2
   rw [hsep] at HJ1
   obtain ⟨x, hx, hx1, hxk⟩ : ∃ x : ByteArray, strL (endL k) = x ∧ x.size = 1 ∧ ∀ w1, Sg w1 → w1.cell? ⟨0, k.toNat, none⟩ = some (.string x) := by
    rcases hk with rfl | rfl | rfl
    · exact ⟨_, str_lt.2.2.2.2.2.1, rfl, fun w1 h => Blk.cell h 4⟩
    · exact ⟨_, str_lt.2.2.2.2.2.2.1, rfl, fun w1 h => Blk.cell h 5⟩
    · exact ⟨_, str_lt.2.2.2.2.2.2.2.1, rfl, fun w1 h => Blk.cell h 6⟩
   have hxs := HE.out
   rw [hx] at hxs
   have HXS := Lib.hid hxs
   have HXK := Lib.hid hxk
   have h3 : ¬ 9223372036854775807 < js.size + x.size := by omega
   clear hsep hx hxs hxk
   rcases hk with rfl | rfl | rfl
   · have g4 : (w.alloc (.cells #[.int .i64 4, .string ⟨#[]⟩, .slice A n c] 62)).cell? ⟨0, 4, none⟩ = some (.string x) := HXK.out _ HG.out
     have g5 : (w.alloc (.cells #[.int .i64 4, .string ⟨#[]⟩, .slice A n c] 62)).drew.cell? ⟨0, 4, none⟩ = some (.string x) := HXK.out _ (HG.out.frF (Fr.refl _ _).drew)
     go_enter Tryz.func10, Tryz.ntmps10
     go_wp2_with fail
     go_region_law (go_simp; go_at_call 22; refine (HJ1.out _ (by repeat' (first | exact Fr.refl _ _ | refine Fr.drew ?_))).mono ?_; rintro e w6 ⟨rfl, hf6⟩; have F6 : Fr (fun _ => False) (w.alloc (.cells #[.int .i64 4, .string ⟨#[]⟩, .slice A n c] 62)) w6 := Fr.trans' (by repeat' (first | exact Fr.refl _ _ | refine Fr.drew ?_)) hf6; have g6 : w6.cell? ⟨0, 4, none⟩ = some (.string x) := HXK.out _ (HG.out.frF F6); have d0 : w6.cell? ⟨w.heap.size, 0, none⟩ = some (.int .i64 4) := (HB.out.fr F6 (fun h => h)).cell 0)
     all_goals
      have HF9 := Lib.hid (HF.out.trans' F6)
      go_wp2_with fail
      go_ret
      exact ⟨by rw [HXS.out]; rfl, HF9.out⟩
   · have g4 : (w.alloc (.cells #[.int .i64 5, .string ⟨#[]⟩, .slice A n c] 62)).cell? ⟨0, 5, none⟩ = some (.string x) := HXK.out _ HG.out
     have g5 : (w.alloc (.cells #[.int .i64 5, .string ⟨#[]⟩, .slice A n c] 62)).drew.cell? ⟨0, 5, none⟩ = some (.string x) := HXK.out _ (HG.out.frF (Fr.refl _ _).drew)
     go_enter Tryz.func10, Tryz.ntmps10
     go_wp2_with fail
     go_region_law (go_simp; go_at_call 22; refine (HJ1.out _ (by repeat' (first | exact Fr.refl _ _ | refine Fr.drew ?_))).mono ?_; rintro e w6 ⟨rfl, hf6⟩; have F6 : Fr (fun _ => False) (w.alloc (.cells #[.int .i64 5, .string ⟨#[]⟩, .slice A n c] 62)) w6 := Fr.trans' (by repeat' (first | exact Fr.refl _ _ | refine Fr.drew ?_)) hf6; have g6 : w6.cell? ⟨0, 5, none⟩ = some (.string x) := HXK.out _ (HG.out.frF F6); have d0 : w6.cell? ⟨w.heap.size, 0, none⟩ = some (.int .i64 5) := (HB.out.fr F6 (fun h => h)).cell 0)
     all_goals
      have HF9 := Lib.hid (HF.out.trans' F6)
      go_wp2_with fail
      go_ret
      exact ⟨by rw [HXS.out]; rfl, HF9.out⟩
   · have g4 : (w.alloc (.cells #[.int .i64 6, .string ⟨#[]⟩, .slice A n c] 62)).cell? ⟨0, 6, none⟩ = some (.string x) := HXK.out _ HG.out
     have g5 : (w.alloc (.cells #[.int .i64 6, .string ⟨#[]⟩, .slice A n c] 62)).drew.cell? ⟨0, 6, none⟩ = some (.string x) := HXK.out _ (HG.out.frF (Fr.refl _ _).drew)
     go_enter Tryz.func10, Tryz.ntmps10
     go_wp2_with fail
     go_region_law (go_simp; go_at_call 22; refine (HJ1.out _ (by repeat' (first | exact Fr.refl _ _ | refine Fr.drew ?_))).mono ?_; rintro e w6 ⟨rfl, hf6⟩; have F6 : Fr (fun _ => False) (w.alloc (.cells #[.int .i64 6, .string ⟨#[]⟩, .slice A n c] 62)) w6 := Fr.trans' (by repeat' (first | exact Fr.refl _ _ | refine Fr.drew ?_)) hf6; have g6 : w6.cell? ⟨0, 6, none⟩ = some (.string x) := HXK.out _ (HG.out.frF F6); have d0 : w6.cell? ⟨w.heap.size, 0, none⟩ = some (.int .i64 6) := (HB.out.fr F6 (fun h => h)).cell 0)
     all_goals
      have HF9 := Lib.hid (HF.out.trans' F6)
      go_wp2_with fail
      go_ret
      exact ⟨by rw [HXS.out]; rfl, HF9.out⟩
theorem print_ok {t : PT} {b : List Int} (hp : PrL t b) : Wide t → wt b ≤ 1000000000 → ∀ (w : World) (B : Nat) (l : List Value), Sg w → PAt 62 w B t l → Calls Tryz.prog 10 #[.agg l.toArray] w (PPr b w) := by
 induction hp with
 | leaf k l hk hv hg =>
  intro _ _ w B v _ hv2
  cases hv2
  have h1 := (iri_raw hv hg).1
  exact print_leaf k hk l (by rw [strL_wt] at h1; omega) w
 | node k ts ls hl h hk ih =>
  intro hw hb w B v hsg hv
  have hJ : wt (joinL (sepL k) ls) ≤ wt (40 :: (joinL (sepL k) ls ++ 41 :: endL k)) := by
   rw [wt_ac 40 _ (by decide) (by decide), wt_append]
   omega
  cases hw with
  | node _ _ hn hw =>
   cases hv with
   | node _ _ A c L hL hpp hr =>
    refine print_node k ts.length c A ls w (hk.imp (·.1) (·.1)) hsg (by omega) (fun w1 hf1 => ?_)
    have hPA : PartAt w1 B A c ts L := PartAt.frF (w := w) ⟨hL, hpp, hr⟩ hf1
    refine pjoin (sepL k) ts ls hl (by rcases hk with h | h <;> omega) (by omega) w1 B A c L hPA (by omega) (fun w2 i t b l h1 h2 hf2 hpa => ?_)
    have hm : b.length ≤ b.length := Nat.le_refl _
    refine ih i t b h1 h2 (hw t (List.mem_of_getElem? h1)) ?_ w2 B l ((hsg.frF hf1).low hf2) hpa
    have h3 := wt_part_le (sepL k) ls i b h2
    omega

/-- What is known of a query's text up to its group, but what it selects. -/
def QC (rs : List Int) (l : List UInt8) (dis : Bool) (p1 p2 s2 p4 p5 p6 p7 s7 p8 : Nat) : Prop :=
 (wordAt rs 0 tREG = true ∧ wordTo rs 0 tREG = p1) ∧ (wordAt rs p1 tRS = true ∧ wordTo rs p1 tRS = p2 ∧ skip rs [0] (skip rs [0] p1) = skip rs [0] p1 ∧ wordAt rs (skip rs [0] p1) tRS = true ∧ wordTo rs (skip rs [0] p1) tRS = p2) ∧
 (skip rs [0] p2 = s2 ∧ skip rs [0] s2 = s2 ∧ (peekOf rs s2 = 60 ∧ (∀ i, i < l.length → peekOf rs (s2 + 1 + i) = ((l.getD i 0).toNat : Int) ∧ (l.getD i 0).toNat < 128 ∧ (l.getD i 0).toNat ≠ 10 ∧ (l.getD i 0).toNat ≠ 62 ∧ (l.getD i 0).toNat ≠ 92) ∧ peekOf rs (s2 + 1 + l.length) = 62)) ∧
 (wordAt rs (s2 + l.length + 2) tAS = true ∧ wordTo rs (s2 + l.length + 2) tAS = p4) ∧ (wordAt rs p4 tSEL = true ∧ wordTo rs p4 tSEL = p5) ∧ (wordAt rs p5 tDIS = dis ∧ wordTo rs p5 tDIS = p6) ∧
 (skip rs [0] p7 = s7 ∧ skip rs [0] s7 = s7 ∧ peekOf rs s7 ≠ 63 ∧ peekOf rs s7 ≠ 40) ∧ wordAt rs s7 tFROM = false ∧ (wordAt rs s7 tWH = true ∧ wordTo rs s7 tWH = p8)
instance (rs : List Int) (l : List UInt8) (dis : Bool) (p1 p2 s2 p4 p5 p6 p7 s7 p8 : Nat) : Decidable (QC rs l dis p1 p2 s2 p4 p5 p6 p7 s7 p8) := by unfold QC; infer_instance
theorem QC.text {rs : List Int} {l : List UInt8} {dis : Bool} {p1 p2 s2 p4 p5 p6 p7 s7 p8 : Nat} {sv : Value} (h : QC rs l dis p1 p2 s2 p4 p5 p6 p7 s7 p8) (h0 : l ≠ []) (h1 : l.length ≤ 4000) (h2 : (Tm.iri ⟨l.toArray⟩).good = true)
    (h3 : ∀ (b c : Nat) (A : Option Addr) (w : World), Sc w b A c rs p6 → Calls Tryz.prog 43 #[.agg #[.pointer (some ⟨b, 0, none⟩)]] w (ScPost w b A c rs p7 sv)) : QText rs l dis sv p1 p2 s2 p4 p5 p6 p7 s7 p8 := by
 obtain ⟨a1, a2, ⟨a3, a4, a5⟩, a6, a7, a8, a9, a10, a11⟩ := h
 exact ⟨a1, a2, ⟨a3, a4, a5, h0, h1, h2⟩, a6, a7, a8, h3, a9, a10, a11⟩
/-- A name, as it stands. -/
def NC (rs : List Int) (p s : Nat) (l : List UInt8) : Prop :=
 skip rs [0] p = s ∧ skip rs [0] s = s ∧ (peekOf rs s = 63 ∧ clsOf (peekOf rs (s + 1)) = 1 ∧ (∀ i, i < l.length → peekOf rs (s + 1 + i) = ((l.getD i 0).toNat : Int) ∧ (l.getD i 0).toNat < 128 ∧ letterOf ((l.getD i 0).toNat : Int) = true) ∧ letterOf (peekOf rs (s + 1 + l.length)) = false)
instance (rs : List Int) (p s : Nat) (l : List UInt8) : Decidable (NC rs p s l) := by unfold NC; infer_instance
theorem NC.name {rs : List Int} {p s : Nat} {l : List UInt8} (h : NC rs p s l) : Name rs s l := h.2.2

/-- The cells of a tree of one selected thing. -/
def PQs (G : World → Nat → Value → Prop) (kind t : ByteArray) (dis : Bool) (sv : Value) (w : World) (B : Nat) (cs : List Value) : Prop :=
 ∃ g v, cs = [.string kind, .string t, .bool dis, .slice (some ⟨g, 0, none⟩) 1 1, .slice none 0 0, v, .slice none 0 0] ∧ Blk w g 122 sv.cells ∧ G w B v
theorem plaw_pqs {G : World → Nat → Value → Prop} (HGL : GLawP G) (kind t : ByteArray) (dis : Bool) (sv : Value) : PLaw (PQs G kind t dis sv) := by
 constructor
 · rintro w B cs ⟨g, v, rfl, h1, h2⟩
   obtain ⟨A, n, c, rfl⟩ := HGL.slice h2
   exact ⟨_, _, _, _, _, _, _, _, _, _, _, _, _, _, _, rfl⟩
 · rintro w B B' cs hB ⟨g, v, rfl, h1, h2⟩
   exact ⟨g, v, rfl, h1, HGL.base hB h2⟩
 · rintro w w' B cs ⟨g, v, rfl, h1, h2⟩ hf
   exact ⟨g, v, rfl, h1.fr hf (fun h => h), HGL.frF h2 hf⟩
 · rintro w w' B x t cs ds ⟨g, v, rfl, h1, h2⟩ hx ht hf
   refine ⟨g, v, rfl, h1.fr hf (fun e => Blk.ne_ h1 hx (fun e2 => ?_) e), HGL.frB h2 hx ?_ ?_ ?_ hf⟩
   · subst e2
     rcases ht with h | h | h | h <;> exact absurd h (by decide)
   · rintro rfl
     rcases ht with h | h | h | h <;> exact absurd h (by decide)
   · rintro rfl
     rcases ht with h | h | h | h <;> exact absurd h (by decide)
   · rintro rfl
     rcases ht with h | h | h | h <;> exact absurd h (by decide)
theorem q_of_query {G : World → Nat → Value → Prop} {w : World} {b c q : Nat} {A : Option Addr} {rs : List Int} {pl : Int} {kind t : ByteArray} {dis : Bool} {sv : Value} {e : Ending} {w' : World} (h : QueryPost G w b A c rs q false pl kind t dis sv e w') : QPostS (PQs G kind t dis sv) w b A c rs q e w' := by
 unfold QueryPost at h
 rw [if_neg (by decide)] at h
 obtain ⟨g, v, rfl, h1, h2, h3, h4⟩ := h
 exact ⟨_, rfl, ⟨g, v, rfl, h1, h2⟩, h3, h4⟩
/-- The example's text. -/
def awkY : ByteArray := ⟨#[82, 69, 71, 73, 83, 84, 69, 82, 32, 82, 83, 84, 82, 69, 65, 77, 32, 60, 117, 58, 111, 62, 32, 65, 83, 32, 83, 69, 76, 69, 67, 84, 32, 63, 120, 32, 87, 72, 69, 82, 69, 32, 123, 32, 63, 120, 32, 60, 117, 58, 112, 62, 32, 49, 32, 46, 32, 125]⟩
def awkL : List Int := txt awkY
theorem awk_qc : QC awkL [117, 58, 111] false 8 16 17 25 32 33 35 36 41 := by decide +kernel
theorem awk_y : NC awkL 33 33 [120] := by decide +kernel
theorem awk_grp : (skip awkL [0] 41 = 42 ∧ peekOf awkL 42 = 123) ∧ (markAt awkL (42 + 1) ⟨#[125]⟩ = false ∧ markTo awkL (42 + 1) ⟨#[125]⟩ = 44) ∧ (skip awkL [0] 44 = 44 ∧ peekOf awkL 44 = 63) := by decide +kernel
theorem awk_s : NC awkL 44 44 [120] := by decide +kernel
theorem awk_o : clsOf (peekOf awkL 53) = 2 ∧ skip awkL [2] 53 = 54 ∧ skip awkL [0] 53 = 53 ∧ skip awkL [0] 52 = 53 := by decide +kernel
theorem awk_o2 : runesBytes ((awkL.drop 53).take (54 - 53)) = ⟨#[49]⟩ := by decide +kernel
theorem awk_e : (markAt awkL 54 ⟨#[46]⟩ = true ∧ markTo awkL 54 ⟨#[46]⟩ = 56) ∧ (markAt awkL 56 ⟨#[125]⟩ = true ∧ markTo awkL 56 ⟨#[125]⟩ = 58) ∧ wordAt awkL 58 tGR = false ∧ skip awkL [0] (skip awkL [0] 58) = awkL.length ∧ skip awkL [0] 58 = 58 := by decide +kernel
theorem awk_iri : IriP awkL 46 52 ⟨#[117, 58, 112]⟩ := ⟨by kernel_rfl, by decide +kernel⟩
theorem awk_m : markAt awkL 46 (mk1 40) = false ∧ markAt awkL 46 (mk1 94) = false ∧ oftenP awkL 52 = 0 ∧ markAt awkL 52 (mk1 47) = false ∧ markAt awkL 52 (mk1 124) = false := by decide +kernel
abbrev awkP : PT := .leaf 0 ⟨#[117, 58, 112]⟩
theorem awk_path : PathP awkL 1 46 awkP 52 1 :=
 .one _ _ _ _ (.one _ _ _ _ (.one _ _ _ _ (.one _ _ _ _ (.plain _ _ _ _ (.step _ _ _ awk_m.1 awk_m.2.1 awk_iri) awk_m.2.2.1)) awk_m.2.2.2.1)) awk_m.2.2.2.2
theorem awk_text : Text awkY awkL := ⟨by decide +kernel, by decide +kernel, by decide +kernel, by decide +kernel⟩
theorem awk_wt : awkL.length ≤ 4000 ∧ wt awkL ≤ 4000 ∧ ∀ r, r ∈ awkL → signR r = true := by decide +kernel
theorem one_parse (w : World) : Calls Tryz.prog 102 #[.string ⟨#[49]⟩] w fun e w' => e = .returned (.tuple #[.int .i64 1, .int .i64 0]) ∧ Fr (fun _ => False) w w' :=
 vparse_ok ⟨#[49]⟩ 1 w (by decide) (by decide) (by decide) (by decide) (by decide +kernel) (by decide +kernel)
/-- What the example's group is. -/
abbrev awkG : World → Nat → Value → Prop := GPath awkP ⟨#[120]⟩ ⟨#[]⟩ (intTerm ⟨#[49]⟩)
abbrev awkQ : World → Nat → List Value → Prop := PQs awkG tRS ⟨lUO.toArray⟩ false (selV [120])
theorem awk_parse (w : World) (hg : Sg w) : Calls Tryz.prog 7 #[.string awkY] w (ParsePostS awkQ w) := by
 refine parse_okG awkQ (plaw_pqs (glawp _ _ _ _) _ _ _ _) awkY 58 w awkL awk_text (by decide) awk_e.2.2.2.1 (fun b c A w1 hb hf1 hs1 => ?_)
 have hg1 := hg.frF hf1
 have htri : ∀ w2, Sg w2 → Sc w2 b A c awkL 44 → Calls Tryz.prog 105 #[.agg #[.pointer (some ⟨b, 0, none⟩)]] w2 (TriP awkL awkP ⟨#[120]⟩ ⟨#[]⟩ (intTerm ⟨#[49]⟩) 56 w2 b A c) := fun w2 hg2 hs2 =>
  ptriple awkP ⟨#[120]⟩ ⟨#[]⟩ (intTerm ⟨#[49]⟩) rfl (peekOf awkL (skip awkL [0] 46)) awkL 44 46 52 56 b c A w2 (fun w3 h3 => node_var [120] b c 44 44 A awkL w3 (by decide) awk_s.1 awk_s.2.1 awk_s.name h3) rfl (PathP.first 1 _ _ _ _ awk_path)
   (fun w3 hg3 hs3 => path_ok 1 awkL awk_wt.1 awk_wt.2.1 awk_wt.2.2 46 awkP 52 1 awk_path (by decide) (skip awkL [0] 46) b c A w3 Sm.skip hg3 hs3)
   (fun q w3 hq hs3 => ⟨54, awk_e.1.1, awk_e.1.2, node_int b c q 53 54 A awkL ⟨#[49]⟩ 1 w3 (by rw [← awk_o.2.2.2]; exact hq.symm) awk_o.2.2.1 awk_o.1 awk_o.2.1 awk_o2 (by decide) one_parse hs3⟩) hg2 hs2
 have hgrp : ∀ w2, Fr (fun j => j = b) w1 w2 → Sc w2 b A c awkL 41 → Calls Tryz.prog 46 #[.agg #[.pointer (some ⟨b, 0, none⟩)], .int .i64 40] w2 (GrpAny awkG w2 b A c awkL 58 false 0) := fun w2 hf2 hs2 => by
  refine Calls.mono ?_ (fun e' w' (h : GrpPostG awkG w2 b A c awkL 58 e' w') => show (if false = true then _ else _) by rw [if_neg Bool.false_ne_true]; exact h)
  refine pgroup awkP ⟨#[120]⟩ ⟨#[]⟩ (intTerm ⟨#[49]⟩) rfl 40 (by decide) (by decide) b c 41 42 44 56 58 A awkL w2 awk_grp.1.1 awk_grp.1.2 awk_grp.2.1 (fun w3 hg3 hs3 => ?_) awk_e.2.1 (hg1.frB hs1.blk (by decide) hf2) hs2
  exact pitem awkP ⟨#[120]⟩ ⟨#[]⟩ (intTerm ⟨#[49]⟩) rfl (40 - 1) awkL 44 56 b c A w3 (by rw [awk_grp.2.2.1]; exact awk_grp.2.2.2) (fun w4 hg4 hs4 => by rw [awk_grp.2.2.1] at hs4; exact htri w4 hg4 hs4) hg3 hs3
 refine (query_scP awkG (glawp _ _ _ _) awkL lUO false ⟨#[120]⟩ ⟨#[]⟩ ⟨#[]⟩ 8 16 17 25 32 33 35 36 41 58 false 0 (awk_qc.text (by decide) (by decide) uo_good (fun b c A w h => selected_sc [120] b c _ _ A _ w (by decide) awk_y.1 awk_y.2.1 awk_y.name h)) awk_e.2.2.1 b c A w1 hgrp hs1).mono (fun e' w' h => ?_)
 have h := q_of_query h
 rw [awk_e.2.2.2.2] at h
 exact h

theorem row_cells {w : World} {B e m n c g : Nat} {L : List Value} (h : w.ownsRow B e m (.slice (some ⟨g, 0, none⟩) n c) n L) : w.rangeAt g 0 L := by
 intro i v hv
 rcases h.2 with ⟨h0, _⟩ | ⟨gg, cap, cur, h0, _, hh, _, _, _, ht⟩
 · cases h0
 · injection h0 with h0 _ _
   injection h0 with h0
   injection h0 with h0
   subst h0
   rw [Nat.zero_add, cell_of_row w g i cur e (0, 0) hh, ← Array.getElem?_toList]
   have hf : L[i]? = some v := hv
   rw [← ht, List.getElem?_take] at hf
   split at hf
   · exact hf
   · cases hf
theorem awake12_any (w : World) (hg : Sg w) : Calls Tryz.prog 5 #[] w (IsB true w) := by
 have hp := awk_parse w hg
 unfold awkY at hp
 have HP := Lib.hid hp
 clear hp hg
 go_enter Tryz.func5, Tryz.ntmps5
 go_wp2_with fail
 refine HP.out.mono ?_
 rintro e w1 ⟨cs, rfl, ⟨g, v, rfl, hb1, ⟨A, c, pk, pi, pA, pn, pc, rfl, -, -⟩⟩, hf1⟩
 have HF := Lib.hid hf1
 have hlu : (⟨lUO.toArray⟩ : ByteArray) = ⟨#[117, 58, 111]⟩ := rfl
 unfold tRS at *
 rw [hlu]
 clear hb1 hf1 hlu
 go_wp2_with fail
 go_ret
 exact ⟨rfl, HF.out.alloc _⟩
theorem hd_str : strL hdL = ⟨#[82, 69, 71, 73, 83, 84, 69, 82, 32, 82, 83, 84, 82, 69, 65, 77, 32, 60, 117, 58, 111, 62, 32, 65, 83, 32, 83, 69, 76, 69, 67, 84, 32, 63, 120, 32, 87, 72, 69, 82, 69, 32, 123, 32, 63, 120, 32]⟩ ∧ strL tlL = ⟨#[32, 63, 121, 32, 46, 32, 125]⟩ := by decide +kernel
theorem hd_sign : (∀ x, x ∈ hdL → signR x = true) ∧ ∀ x, x ∈ tlL → signR x = true := by decide +kernel
theorem ours_of (s : ByteArray) : Ours (((⟨#[82, 69, 71, 73, 83, 84, 69, 82, 32, 82, 83, 84, 82, 69, 65, 77, 32, 60, 117, 58, 111, 62, 32, 65, 83, 32, 83, 69, 76, 69, 67, 84, 32, 63, 120, 32, 87, 72, 69, 82, 69, 32, 123, 32, 63, 120, 32]⟩ : ByteArray) ++ s) ++ ⟨#[32, 63, 121, 32, 46, 32, 125]⟩) s.data.toList := ⟨by
 apply ByteArray.ext
 rw [ByteArray.data_append, ByteArray.data_append]
 apply Array.toList_inj.1
 simp only [Array.toList_append]
 rfl⟩
theorem rparse_again {t : PT} {b : List Int} {d : Nat} (hp : PrL t b) (hd : DeepIs t d) (h40 : d ≤ 40) (hsz : (strL b).size ≤ 8000) (w : World) :
    Calls Tryz.prog 6 #[.string (((⟨#[82, 69, 71, 73, 83, 84, 69, 82, 32, 82, 83, 84, 82, 69, 65, 77, 32, 60, 117, 58, 111, 62, 32, 65, 83, 32, 83, 69, 76, 69, 67, 84, 32, 63, 120, 32, 87, 72, 69, 82, 69, 32, 123, 32, 63, 120, 32]⟩ : ByteArray) ++ strL b) ++ ⟨#[32, 63, 121, 32, 46, 32, 125]⟩)] w
     (fun e w' => ∃ (k i : ByteArray) (A1 : Option Addr) (n1 c1 g c : Nat) (A4 : Option Addr) (n4 c4 : Nat) (cs : Array Value), e = .returned (.tuple #[.agg #[.string k, .string i, .bool false, .slice A1 n1 c1, .slice none 0 0, .slice (some ⟨g, 0, none⟩) 1 c, .slice A4 n4 c4], .bool true]) ∧ Fr (fun _ => False) w w' ∧ w'.ownsRow w.heap.size 45 33 (.slice (some ⟨g, 0, none⟩) 1 c) 1 cs.toList ∧ PAt 39 w' w.heap.size t (sub cs 19 3)) := by
 have ho := ours_of (strL b)
 have e1 : ((⟨#[82, 69, 71, 73, 83, 84, 69, 82, 32, 82, 83, 84, 82, 69, 65, 77, 32, 60, 117, 58, 111, 62, 32, 65, 83, 32, 83, 69, 76, 69, 67, 84, 32, 63, 120, 32, 87, 72, 69, 82, 69, 32, 123, 32, 63, 120, 32]⟩ : ByteArray) ++ strL b) ++ ⟨#[32, 63, 121, 32, 46, 32, 125]⟩ = strL (hdL ++ (b ++ tlL)) := by
  rw [strL_app, strL_app, hd_str.1, hd_str.2]
  exact ByteArray.append_assoc
 have hlen := ho.size
 rw [e1] at ho hlen ⊢
 have hrs := signs_str (hdL ++ (b ++ tlL)) (fun x hx => by
  rcases List.mem_append.1 hx with h | h
  · exact hd_sign.1 x h
  · rcases List.mem_append.1 h with h | h
    · exact hp.signs x h
    · exact hd_sign.2 x h)
 obtain ⟨hg, hpt⟩ := hp.good hd h40
 have hl2 : (strL b).data.toList.length = (strL b).size := by simp
 refine (rparse_any _ _ w ho (by omega)).mono (fun e w' h => ?_)
 rw [hrs] at h
 obtain ⟨k, i, A1, n1, c1, A, n, c, A4, n4, c4, bb, rfl, hf, h1, h2⟩ := h
 obtain ⟨rfl, rfl⟩ := h2 rfl hg
 obtain ⟨-, h3⟩ := h1 rfl
 obtain ⟨cs, hrow, hN, pv, c7, h4, h5⟩ := h3 rfl
 obtain ⟨t', e', d', hp', hd', hs', he', hpa⟩ := h4 (h5 hg)
 obtain ⟨g, rfl⟩ := row_addr hrow (by decide)
 obtain ⟨rfl, -, -⟩ := hp'.fn hpt
 exact ⟨k, i, A1, n1, c1, g, c, A4, n4, c4, cs, rfl, hf, hrow, hpa⟩

theorem paths_law (s : ByteArray) (w : World) (hg : Sg w) : Calls Tryz.prog 3 #[.string s] w (IsB true w) := by
 have HAW := Lib.hid (fun w1 h1 => awake12_any w1 h1)
 have HG := Lib.hid hg
 clear hg
 go_enter Tryz.func3, Tryz.ntmps3
 go_wp2_with fail
 refine (HAW.out _ HG.out).mono ?_
 rintro e w1 ⟨rfl, hf1⟩
 have HG1 := Lib.hid (HG.out.frF hf1)
 have HF1 := Lib.hid hf1
 clear hf1 HG
 by_cases hlen : 3000 < s.size
 · have h3 : decide ((3000 : Int) < (s.size : Int)) = true := decide_eq_true (by omega)
   go_wp2_with fail
   refine (HAW.out _ HG1.out).mono ?_
   rintro e w2 ⟨rfl, hf2⟩
   go_wp2_with fail
   go_ret
   exact IsB.mk (HF1.out.trans' hf2)
 · have h3 : decide ((3000 : Int) < (s.size : Int)) = false := decide_eq_false (by omega)
   have ho := ours_of s
   go_wp2_with fail
   generalize hTE : ((⟨#[82, 69, 71, 73, 83, 84, 69, 82, 32, 82, 83, 84, 82, 69, 65, 77, 32, 60, 117, 58, 111, 62, 32, 65, 83, 32, 83, 69, 76, 69, 67, 84, 32, 63, 120, 32, 87, 72, 69, 82, 69, 32, 123, 32, 63, 120, 32]⟩ : ByteArray) ++ s ++ ⟨#[32, 63, 121, 32, 46, 32, 125]⟩) = T at *
   have HTE := Lib.hid hTE
   clear hTE
   have hTz : T.size = 54 + s.size := ho.size
   have m1 : ¬ 9223372036854775807 < 47 + s.size := by omega
   have m2 : ¬ 9223372036854775807 < 47 + s.size + 7 := by omega
   have hTs : T.size ≤ 3100 := by omega
   clear HAW h3 hTz hlen
   have HO := Lib.hid ho
   refine (rparse_any T _ w1 ho (by omega)).mono ?_
   clear ho
   rintro e w2 ⟨k, i, A1, n1, c1, A, n, c, A4, n4, c4, b, rfl, hf2, hb⟩
   have hfa : Fr (fun _ => False) w2 (w2.alloc (.cells #[.string k, .string i, .bool false, .slice A1 n1 c1, .slice none 0 0, .slice A n c, .slice A4 n4 c4] 30)) := (Fr.refl _ _).alloc _
   have HBX := Lib.hid (Blk.new w2 30 #[.string k, .string i, .bool false, .slice A1 n1 c1, .slice none 0 0, .slice A n c, .slice A4 n4 c4])
   have x5 : (w2.alloc (.cells #[.string k, .string i, .bool false, .slice A1 n1 c1, .slice none 0 0, .slice A n c, .slice A4 n4 c4] 30)).cell? ⟨w2.heap.size, 5, none⟩ = some (.slice A n c) := HBX.out.cell 5
   have HF2 := Lib.hid ((HF1.out.trans' hf2).trans' hfa)
   have HG2 := Lib.hid ((HG1.out.frF hf2).frF hfa)
   clear HG1 HF1
   cases b with
   | false =>
    clear hb
    go_wp2_with fail
    go_ret
    exact IsB.mk HF2.out
   | true =>
    obtain ⟨hok, hn1⟩ := hb.1 rfl
    clear hb
    by_cases hn : n = 1
    · subst hn
      obtain ⟨cs, hrow, hN, pv, hpv, hpath, -⟩ := hn1 rfl
      obtain ⟨gr, rfl⟩ := row_addr hrow (by decide)
      have hcap := row_cap hrow
      have hrow3 := ownsRow_fr hrow hfa (fun _ _ h => h)
      have hra := row_cells hrow3
      have r7 : (w2.alloc (.cells #[.string k, .string i, .bool false, .slice A1 n1 c1, .slice none 0 0, .slice (some ⟨gr, 0, none⟩) 1 c, .slice A4 n4 c4] 30)).cell? ⟨gr, 7, none⟩ = some (.string pv) := by
       have h := hra 7 (.string pv) (by rw [Array.getElem?_toList]; exact hpv)
       rwa [Nat.zero_add] at h
      by_cases hpe : pv = ⟨#[]⟩
      · subst hpe
        obtain ⟨t, e0, d, hP, hd, hske, hle, hpa⟩ := hpath rfl
        obtain ⟨hH, hTl, hv, hwt, hTx⟩ := HO.out.facts hok
        have hrl := hTx.le
        obtain ⟨-, -, b, hpr, hwb⟩ := PathP.pr hv _ _ _ _ _ (by have := hH.n; omega) hP
        have hD := hP.deep
        have hW := PathP.wd (by omega) hv _ _ _ _ _ hP (by have := hH.n; omega)
        have hpr0 := (our_parse T (rSigns T).1 hTx hH hTl (by omega) (by omega) (by omega) _ t e0 d hP hd hske _ HG2.out)
        rw [← HTE.out] at hpr0
        have HPR := Lib.hid hpr0
        clear hpr0
        have hpa3 := hpa.frF hfa
        obtain ⟨k3, i3, A3, n3, c3, hl3⟩ := hpa3.cells
        rw [hl3] at hpa3
        have hsub : ∀ m v, m < 3 → (sub cs 19 3)[m]? = some v → (w2.alloc (.cells #[.string k, .string i, .bool false, .slice A1 n1 c1, .slice none 0 0, .slice (some ⟨gr, 0, none⟩) 1 c, .slice A4 n4 c4] 30)).cell? ⟨gr, 19 + m, none⟩ = some v := fun m v hm h => by
         have h2 := hra (19 + m) v (by
          unfold sub at h
          rw [List.getElem?_take, if_pos hm, List.getElem?_drop] at h
          exact h)
         rwa [Nat.zero_add] at h2
        rw [hl3] at hsub
        have HS0 := Lib.hid (hsub 0 _ (by decide) rfl)
        have HS1 := Lib.hid (hsub 1 _ (by decide) rfl)
        have HS2 := Lib.hid (hsub 2 _ (by decide) rfl)
        have HPA := Lib.hid hpa3
        have hrlt := (World.ownsRow.lt hrow3 gr rfl).2
        have hxlt := HBX.out.lt
        have HDD := Lib.hid (And.intro hD hd)
        have HPRL := Lib.hid hpr
        have HWB := Lib.hid (show wt b ≤ 1000000000 by omega)
        have HW := Lib.hid hW
        have HG3 := Lib.hid HG2.out
        clear hD hpr hwb hW
        clear hpath hn1 hok hra hsub hl3 hpa hpa3 hrow hrow3 hpv hfa HO hP hd hske hle hH hTl hv hwt hTx hrl HG2 hN cs hf2 hTs
        go_wp2_with fail
        refine HPR.out.mono ?_
        generalize (w2.alloc (.cells #[.string k, .string i, .bool false, .slice A1 n1 c1, .slice none 0 0, .slice (some ⟨gr, 0, none⟩) 1 c, .slice A4 n4 c4] 30)) = w3 at *
        rintro e w4 ⟨cs2, rfl, hq, hf4⟩
        obtain ⟨g2, v2, rfl, A5, c5, pk, pi, pA, pn, pc, rfl, hr2, hp2⟩ := hq
        obtain ⟨gg, rfl⟩ := row_addr hr2 (by decide)
        have hcap2 := row_cap hr2
        have hfb : Fr (fun _ => False) w4 (w4.alloc (.cells #[.string tRS, .string ⟨lUO.toArray⟩, .bool false, .slice (some ⟨g2, 0, none⟩) 1 1, .slice none 0 0, .slice (some ⟨gg, 0, none⟩) 1 c5, .slice none 0 0] 52)) := (Fr.refl _ _).alloc _
        have hfc := hf4.trans' hfb
        have hra2 := row_cells (ownsRow_fr hr2 hfb (fun _ _ h => h))
        generalize tRS = z1 at *
        generalize (⟨lUO.toArray⟩ : ByteArray) = z2 at *
        have hz5 : (w4.alloc (.cells #[.string z1, .string z2, .bool false, .slice (some ⟨g2, 0, none⟩) 1 1, .slice none 0 0, .slice (some ⟨gg, 0, none⟩) 1 c5, .slice none 0 0] 52)).heap.size = w4.heap.size + 1 := by simp
        have y5 : (w4.alloc (.cells #[.string z1, .string z2, .bool false, .slice (some ⟨g2, 0, none⟩) 1 1, .slice none 0 0, .slice (some ⟨gg, 0, none⟩) 1 c5, .slice none 0 0] 52)).cell? ⟨w4.heap.size, 5, none⟩ = some (.slice (some ⟨gg, 0, none⟩) 1 c5) := (Blk.new w4 52 _).cell 5
        have p7 : (w4.alloc (.cells #[.string z1, .string z2, .bool false, .slice (some ⟨g2, 0, none⟩) 1 1, .slice none 0 0, .slice (some ⟨gg, 0, none⟩) 1 c5, .slice none 0 0] 52)).cell? ⟨gg, 7, none⟩ = some (.int .i64 pk) := hra2 7 _ rfl
        have p8 : (w4.alloc (.cells #[.string z1, .string z2, .bool false, .slice (some ⟨g2, 0, none⟩) 1 1, .slice none 0 0, .slice (some ⟨gg, 0, none⟩) 1 c5, .slice none 0 0] 52)).cell? ⟨gg, 8, none⟩ = some (.string pi) := hra2 8 _ rfl
        have p9 : (w4.alloc (.cells #[.string z1, .string z2, .bool false, .slice (some ⟨g2, 0, none⟩) 1 1, .slice none 0 0, .slice (some ⟨gg, 0, none⟩) 1 c5, .slice none 0 0] 52)).cell? ⟨gg, 9, none⟩ = some (.slice pA pn pc) := hra2 9 _ rfl
        have hf6 : Fr (fun _ => False) (w4.alloc (.cells #[.string z1, .string z2, .bool false, .slice (some ⟨g2, 0, none⟩) 1 1, .slice none 0 0, .slice (some ⟨gg, 0, none⟩) 1 c5, .slice none 0 0] 52)) ((w4.alloc (.cells #[.string z1, .string z2, .bool false, .slice (some ⟨g2, 0, none⟩) 1 1, .slice none 0 0, .slice (some ⟨gg, 0, none⟩) 1 c5, .slice none 0 0] 52)).alloc (.cells #[.int .i64 pk, .string pi, .slice pA pn pc] 62)) := (Fr.refl _ _).alloc _
        have hfd := hfc.trans' hf6
        have hq := Blk.new (w4.alloc (.cells #[.string z1, .string z2, .bool false, .slice (some ⟨g2, 0, none⟩) 1 1, .slice none 0 0, .slice (some ⟨gg, 0, none⟩) 1 c5, .slice none 0 0] 52)) 62 #[.int .i64 pk, .string pi, .slice pA pn pc]
        rw [hz5] at hq
        have HQB := Lib.hid hq
        have x5 : ((w4.alloc (.cells #[.string z1, .string z2, .bool false, .slice (some ⟨g2, 0, none⟩) 1 1, .slice none 0 0, .slice (some ⟨gg, 0, none⟩) 1 c5, .slice none 0 0] 52)).alloc (.cells #[.int .i64 pk, .string pi, .slice pA pn pc] 62)).cell? ⟨w2.heap.size, 5, none⟩ = some (.slice (some ⟨gr, 0, none⟩) 1 c) := (HBX.out.fr hfd (fun h => h)).cell 5
        have q0 : ((w4.alloc (.cells #[.string z1, .string z2, .bool false, .slice (some ⟨g2, 0, none⟩) 1 1, .slice none 0 0, .slice (some ⟨gg, 0, none⟩) 1 c5, .slice none 0 0] 52)).alloc (.cells #[.int .i64 pk, .string pi, .slice pA pn pc] 62)).cell? ⟨w4.heap.size + 1, 0, none⟩ = some (.int .i64 pk) := hq.cell 0
        have q1 : ((w4.alloc (.cells #[.string z1, .string z2, .bool false, .slice (some ⟨g2, 0, none⟩) 1 1, .slice none 0 0, .slice (some ⟨gg, 0, none⟩) 1 c5, .slice none 0 0] 52)).alloc (.cells #[.int .i64 pk, .string pi, .slice pA pn pc] 62)).cell? ⟨w4.heap.size + 1, 1, none⟩ = some (.string pi) := hq.cell 1
        have q2 : ((w4.alloc (.cells #[.string z1, .string z2, .bool false, .slice (some ⟨g2, 0, none⟩) 1 1, .slice none 0 0, .slice (some ⟨gg, 0, none⟩) 1 c5, .slice none 0 0] 52)).alloc (.cells #[.int .i64 pk, .string pi, .slice pA pn pc] 62)).cell? ⟨w4.heap.size + 1, 2, none⟩ = some (.slice pA pn pc) := hq.cell 2
        have s0 : ((w4.alloc (.cells #[.string z1, .string z2, .bool false, .slice (some ⟨g2, 0, none⟩) 1 1, .slice none 0 0, .slice (some ⟨gg, 0, none⟩) 1 c5, .slice none 0 0] 52)).alloc (.cells #[.int .i64 pk, .string pi, .slice pA pn pc] 62)).cell? ⟨gr, 19, none⟩ = some (.int .i64 k3) := cell_fr hfd HS0.out
        have s1 : ((w4.alloc (.cells #[.string z1, .string z2, .bool false, .slice (some ⟨g2, 0, none⟩) 1 1, .slice none 0 0, .slice (some ⟨gg, 0, none⟩) 1 c5, .slice none 0 0] 52)).alloc (.cells #[.int .i64 pk, .string pi, .slice pA pn pc] 62)).cell? ⟨gr, 20, none⟩ = some (.string i3) := cell_fr hfd HS1.out
        have s2 : ((w4.alloc (.cells #[.string z1, .string z2, .bool false, .slice (some ⟨g2, 0, none⟩) 1 1, .slice none 0 0, .slice (some ⟨gg, 0, none⟩) 1 c5, .slice none 0 0] 52)).alloc (.cells #[.int .i64 pk, .string pi, .slice pA pn pc] 62)).cell? ⟨gr, 21, none⟩ = some (.slice A3 n3 c3) := cell_fr hfd HS2.out
        have HX6 := Lib.hid (HBX.out.fr hfd (fun h => h))
        have HPA6 := Lib.hid (HPA.out.frF hfd)
        have HPP6 := Lib.hid (hp2.frF (hfb.trans' hf6))
        have HF6 := Lib.hid (HF2.out.trans' hfd)
        have HG6 := Lib.hid (HG3.out.frF hfd)
        have HCV := Lib.hid (fun w1 (h1 : Fr (fun _ => False) ((w4.alloc (.cells #[.string z1, .string z2, .bool false, .slice (some ⟨g2, 0, none⟩) 1 1, .slice none 0 0, .slice (some ⟨gg, 0, none⟩) 1 c5, .slice none 0 0] 52)).alloc (.cells #[.int .i64 pk, .string pi, .slice pA pn pc] 62)) w1) => conv_ok t HW.out w1 _ _ (HPP6.out.frF h1))
        have HSM := Lib.hid (fun w1 (h1 : Fr (fun _ => False) ((w4.alloc (.cells #[.string z1, .string z2, .bool false, .slice (some ⟨g2, 0, none⟩) 1 1, .slice none 0 0, .slice (some ⟨gg, 0, none⟩) 1 c5, .slice none 0 0] 52)).alloc (.cells #[.int .i64 pk, .string pi, .slice pA pn pc] 62)) w1) B1 l1 h2 => same_ok t HW.out w1 B1 _ l1 _ h2 (HPA6.out.frF h1))
        unfold CPost at HCV
        clear hr2 hp2 hfb hfc hra2 HPA HBX HF2 HG3 HS0 HS1 HS2 r7 hf4 HPR hfd hf6 hq hz5
        go_wp2_with fail
        generalize ((w4.alloc (.cells #[.string z1, .string z2, .bool false, .slice (some ⟨g2, 0, none⟩) 1 1, .slice none 0 0, .slice (some ⟨gg, 0, none⟩) 1 c5, .slice none 0 0] 52)).alloc (.cells #[.int .i64 pk, .string pi, .slice pA pn pc] 62)) = v6 at *
        clear y5 p7 p8 p9
        have HSX := Lib.hid (show ∀ wy, Fr (fun _ => False) v6 wy → (wy.cell? ⟨w2.heap.size, 5, none⟩ = some (.slice (some ⟨gr, 0, none⟩) 1 c) ∧ wy.cell? ⟨w4.heap.size + 1, 0, none⟩ = some (.int .i64 pk) ∧ wy.cell? ⟨w4.heap.size + 1, 1, none⟩ = some (.string pi) ∧ wy.cell? ⟨w4.heap.size + 1, 2, none⟩ = some (.slice pA pn pc) ∧ wy.cell? ⟨gr, 19, none⟩ = some (.int .i64 k3) ∧ wy.cell? ⟨gr, 20, none⟩ = some (.string i3) ∧ wy.cell? ⟨gr, 21, none⟩ = some (.slice A3 n3 c3)) from fun wy h => ⟨cell_fr h x5, cell_fr h q0, cell_fr h q1, cell_fr h q2, cell_fr h s0, cell_fr h s1, cell_fr h s2⟩)
        go_region_held3 (fun wy => wy.cell? ⟨w2.heap.size, 5, none⟩ = some (.slice (some ⟨gr, 0, none⟩) 1 c) ∧ wy.cell? ⟨w4.heap.size + 1, 0, none⟩ = some (.int .i64 pk) ∧ wy.cell? ⟨w4.heap.size + 1, 1, none⟩ = some (.string pi) ∧ wy.cell? ⟨w4.heap.size + 1, 2, none⟩ = some (.slice pA pn pc) ∧ wy.cell? ⟨gr, 19, none⟩ = some (.int .i64 k3) ∧ wy.cell? ⟨gr, 20, none⟩ = some (.string i3) ∧ wy.cell? ⟨gr, 21, none⟩ = some (.slice A3 n3 c3))
         (first | exact HSX.out _ (F6.trans' F7) | exact HSX.out _ F6 | exact HSX.out _ (Fr.refl _ _) | exact HSX.out _ (Fr.refl _ _).drew)
         (first
         | (go_at_call 9; refine (HCV.out _ (by repeat' (first | exact Fr.refl _ _ | refine Fr.drew ?_))).mono ?_; rintro e w6 ⟨k6, i6, A6, n6, c6, rfl, hna, hf6⟩; have F6 : Fr (fun _ => False) v6 w6 := Fr.trans' (by repeat' (first | exact Fr.refl _ _ | refine Fr.drew ?_)) hf6; have HN2 := Lib.hid (fun w7 (h7 : Fr (fun _ => False) w6 w7) => HSM.out w7 (F6.trans' h7) _ _ (PAt.frF hna h7)))
         | (go_at_call 8; refine (HN2.out _ (by repeat' (first | exact Fr.refl _ _ | refine Fr.drew ?_))).mono ?_; rintro e w7 ⟨rfl, hf7⟩; have F7 : Fr (fun _ => False) w6 w7 := Fr.trans' (by repeat' (first | exact Fr.refl _ _ | refine Fr.drew ?_)) hf7))
        all_goals
         have F67 := F6.trans' F7
         have y0 := cell_fr F67 q0
         have y1 := cell_fr F67 q1
         have y2 := cell_fr F67 q2
         have HPRN := Lib.hid (print_ok HPRL.out HW.out HWB.out w7 _ _ (HG6.out.frF F67) (HPP6.out.frF F67))
         have HF7 := Lib.hid (HF6.out.trans' F67)
         have HX7 := Lib.hid (HX6.out.fr F67 (fun h => h))
         have HPA7 := Lib.hid (HPA6.out.frF F67)
         have HT0 := Lib.hid (cell_fr F67 s0)
         have HT1 := Lib.hid (cell_fr F67 s1)
         have HT2 := Lib.hid (cell_fr F67 s2)
         unfold PPr at HPRN
         clear HSX s0 s1 s2 x5 q0 q1 q2 hf6 hf7 hna F6 F7 F67 HN2 HCV HSM HPP6 HG6 HF6 HX6 HPA6 HQB
         go_wp2_with fail
         refine HPRN.out.mono ?_
         rintro e w8 ⟨rfl, hf8⟩
         by_cases hb8 : 8000 < (strL b).size
         · have h8 : decide ((8000 : Int) < ((strL b).size : Int)) = true := decide_eq_true (by omega)
           have HF8 := Lib.hid (HF7.out.trans' hf8)
           clear hf8
           go_wp2_with fail
           go_ret
           exact IsB.mk HF8.out
         · have h8 : decide ((8000 : Int) < ((strL b).size : Int)) = false := decide_eq_false (by omega)
           have HAG := Lib.hid (rparse_again HPRL.out HDD.out.1 HDD.out.2 (by omega) w8)
           have HX8 := Lib.hid (HX7.out.fr hf8 (fun h => h))
           have HF8 := Lib.hid (HF7.out.trans' hf8)
           have HPA8 := Lib.hid (HPA7.out.frF hf8)
           have HU0 := Lib.hid (cell_fr hf8 HT0.out)
           have HU1 := Lib.hid (cell_fr hf8 HT1.out)
           have HU2 := Lib.hid (cell_fr hf8 HT2.out)
           clear hf8 HPRN HX7 HF7 HPA7 HT0 HT1 HT2 HDD HPRL HWB y0 y1 y2
           generalize strL b = tb at *
           have n1 : ¬ 9223372036854775807 < 47 + tb.size := by omega
           have n2 : ¬ 9223372036854775807 < 47 + tb.size + 7 := by omega
           go_wp2_with fail
           refine HAG.out.mono ?_
           rintro e w9 ⟨k9, i9, A91, n91, c91, g9, c9, A94, n94, c94, cs9, rfl, hf9, hrow9, hpa9⟩
           have hfe : Fr (fun _ => False) w9 (w9.alloc (.cells #[.string k9, .string i9, .bool false, .slice A91 n91 c91, .slice none 0 0, .slice (some ⟨g9, 0, none⟩) 1 c9, .slice A94 n94 c94] 30)) := (Fr.refl _ _).alloc _
           have hff := hf9.trans' hfe
           have hcap9 := row_cap hrow9
           have hrow9' := ownsRow_fr hrow9 hfe (fun _ _ h => h)
           have hra9 := row_cells hrow9'
           have hpa9' := hpa9.frF hfe
           obtain ⟨k10, i10, A10, n10, c10, hl10⟩ := hpa9'.cells
           rw [hl10] at hpa9'
           have hsub9 : ∀ m v, m < 3 → (sub cs9 19 3)[m]? = some v → (w9.alloc (.cells #[.string k9, .string i9, .bool false, .slice A91 n91 c91, .slice none 0 0, .slice (some ⟨g9, 0, none⟩) 1 c9, .slice A94 n94 c94] 30)).cell? ⟨g9, 19 + m, none⟩ = some v := fun m v hm h => by
            have h2 := hra9 (19 + m) v (by
             unfold sub at h
             rw [List.getElem?_take, if_pos hm, List.getElem?_drop] at h
             exact h)
            rwa [Nat.zero_add] at h2
           rw [hl10] at hsub9
           have u0 := hsub9 0 _ (by decide) rfl
           have u1 := hsub9 1 _ (by decide) rfl
           have u2 := hsub9 2 _ (by decide) rfl
           have z5 : (w9.alloc (.cells #[.string k9, .string i9, .bool false, .slice A91 n91 c91, .slice none 0 0, .slice (some ⟨g9, 0, none⟩) 1 c9, .slice A94 n94 c94] 30)).cell? ⟨w9.heap.size, 5, none⟩ = some (.slice (some ⟨g9, 0, none⟩) 1 c9) := (Blk.new w9 30 _).cell 5
           have x5 : (w9.alloc (.cells #[.string k9, .string i9, .bool false, .slice A91 n91 c91, .slice none 0 0, .slice (some ⟨g9, 0, none⟩) 1 c9, .slice A94 n94 c94] 30)).cell? ⟨w2.heap.size, 5, none⟩ = some (.slice (some ⟨gr, 0, none⟩) 1 c) := (HX8.out.fr hff (fun h => h)).cell 5
           have s0 := cell_fr hff HU0.out
           have s1 := cell_fr hff HU1.out
           have s2 := cell_fr hff HU2.out
           have HF9 := Lib.hid (HF8.out.trans' hff)
           have HS9 := Lib.hid (fun w1 (h1 : Fr (fun _ => False) (w9.alloc (.cells #[.string k9, .string i9, .bool false, .slice A91 n91 c91, .slice none 0 0, .slice (some ⟨g9, 0, none⟩) 1 c9, .slice A94 n94 c94] 30)) w1) => same_ok t HW.out w1 _ _ _ _ (hpa9'.frF h1) ((HPA8.out.frF hff).frF h1))
           clear hf9 hrow9 hpa9 hfe hff hrow9' hra9 hpa9' hl10 hsub9 HX8 HU0 HU1 HU2 HF8 HPA8 HAG
           go_wp2_with fail
           generalize (w9.alloc (.cells #[.string k9, .string i9, .bool false, .slice A91 n91 c91, .slice none 0 0, .slice (some ⟨g9, 0, none⟩) 1 c9, .slice A94 n94 c94] 30)) = v9 at *
           have HSX := Lib.hid (show ∀ wy, Fr (fun _ => False) v9 wy → (wy.cell? ⟨w9.heap.size, 5, none⟩ = some (.slice (some ⟨g9, 0, none⟩) 1 c9) ∧ wy.cell? ⟨w2.heap.size, 5, none⟩ = some (.slice (some ⟨gr, 0, none⟩) 1 c) ∧ wy.cell? ⟨g9, 19, none⟩ = some (.int .i64 k10) ∧ wy.cell? ⟨g9, 20, none⟩ = some (.string i10) ∧ wy.cell? ⟨g9, 21, none⟩ = some (.slice A10 n10 c10) ∧ wy.cell? ⟨gr, 19, none⟩ = some (.int .i64 k3) ∧ wy.cell? ⟨gr, 20, none⟩ = some (.string i3) ∧ wy.cell? ⟨gr, 21, none⟩ = some (.slice A3 n3 c3)) from fun wy h => ⟨cell_fr h z5, cell_fr h x5, cell_fr h u0, cell_fr h u1, cell_fr h u2, cell_fr h s0, cell_fr h s1, cell_fr h s2⟩)
           go_region_held3 (fun wy => wy.cell? ⟨w9.heap.size, 5, none⟩ = some (.slice (some ⟨g9, 0, none⟩) 1 c9) ∧ wy.cell? ⟨w2.heap.size, 5, none⟩ = some (.slice (some ⟨gr, 0, none⟩) 1 c) ∧ wy.cell? ⟨g9, 19, none⟩ = some (.int .i64 k10) ∧ wy.cell? ⟨g9, 20, none⟩ = some (.string i10) ∧ wy.cell? ⟨g9, 21, none⟩ = some (.slice A10 n10 c10) ∧ wy.cell? ⟨gr, 19, none⟩ = some (.int .i64 k3) ∧ wy.cell? ⟨gr, 20, none⟩ = some (.string i3) ∧ wy.cell? ⟨gr, 21, none⟩ = some (.slice A3 n3 c3))
            (first | exact HSX.out _ FA | exact HSX.out _ (Fr.refl _ _) | exact HSX.out _ (Fr.refl _ _).drew)
            (first | (go_at_call 8; refine (HS9.out _ (by repeat' (first | exact Fr.refl _ _ | refine Fr.drew ?_))).mono ?_; rintro e wA ⟨rfl, hfA⟩; have FA : Fr (fun _ => False) v9 wA := Fr.trans' (by repeat' (first | exact Fr.refl _ _ | refine Fr.drew ?_)) hfA))
           all_goals
            have HFA := Lib.hid (HF9.out.trans' FA)
            go_wp2_with fail
            go_ret
            exact IsB.mk HFA.out
      · have hpb : pv.toList.isEmpty = false := by
         cases h : pv.toList.isEmpty with
         | false => rfl
         | true => exact absurd (bytes_inj.1 ((List.isEmpty_iff.1 h).trans (show [] = (⟨#[]⟩ : ByteArray).toList by decide +kernel))) hpe
        clear hpath hn1
        go_wp2_with fail
        go_ret
        exact IsB.mk HF2.out
    · have hnb : ((n : Int) == 1) = false := by simpa using (by omega : ¬ (n : Int) = 1)
      clear hn1
      go_wp2_with fail
      go_ret
      exact IsB.mk HF2.out

end Go.Proofs.YtagchljgmjmlcaaGreatDoor
