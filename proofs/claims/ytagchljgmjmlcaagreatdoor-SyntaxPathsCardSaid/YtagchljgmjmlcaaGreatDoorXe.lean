/- Texts of the proof, one behind the other: Gv, Bg. -/
import Derived.Test.YtagchljgmjmlcaaGreatDoorXc
import Derived.Test.YtagchljgmjmlcaaGreatDoorXd
import Derived.Lib.Strings
import Derived.Deep.CutBlock
import Derived.Deep.RegionLawGrows
import Derived.Deep.Cut
import Derived.Deep.CutRange
import Derived.WalkKit
import Derived.WalkLawsBesides
import Derived.WalkSpells
import Derived.Deep.QuietTactic
import Derived.BigRegion
import Derived.BigQuiet
import Derived.Lib.Hide
import Derived.Outline
import Derived.Deep.AppendLies
import Derived.Deep.RegionLaw
import Derived.Deep.RegionWith
import Derived.Deep.RegionHeld3
import Derived.Deep.LoopGhost
import Derived.Deep.DeepFit
import Derived.Laws.ResultCell
import Derived.Laws.RangeAny
import Derived.Deep.MidRow
import Derived.StillTailTactics
import Derived.OpenShut
import Derived.Laws.Cover4
namespace Go.Proofs.YtagchljgmjmlcaaGreatDoor
set_option linter.unusedVariables false
open Go.RowKit Go
set_option maxRecDepth 100000
set_option maxHeartbeats 40000000

/-- A row of integers of the call's own. -/
def IntRow (w : World) (B : Nat) (v : Value) (xs : List Int) : Prop := w.ownsRow B 3 1 v xs.length (xs.map (.int .i64))
theorem int_cell {w : World} {B g c : Nat} {xs : List Int} {n : Nat} (h : IntRow w B (.slice (some ⟨g, 0, none⟩) n c) xs) (j : Nat) (hj : j < xs.length) : w.cell? ⟨g, j, none⟩ = some (.int .i64 (xs.getD j 0)) := by
 have hn : n = xs.length := by
  obtain ⟨A, c', e⟩ := row_shape h
  injection e
 unfold IntRow at h
 subst hn
 rw [World.ownsRow.cellAt h j (by omega), List.getElem?_map, List.getD_eq_getElem?_getD]
 rw [List.getElem?_eq_getElem (by omega)]
 rfl

theorem IntRow.fr {S : Nat → Prop} {w w' : World} {B : Nat} {v : Value} {xs : List Int} (h : IntRow w B v xs) (hf : Fr S w w') (hs : ∀ k, v.ownBlock = some k → ¬ S k) : IntRow w' B v xs := ownsRow_fr h hf hs
theorem ownsRow_base {w : World} {B B' e size n : Nat} {v : Value} {xs : List Value} (h : w.ownsRow B e size v n xs) (hB : B' ≤ B) : w.ownsRow B' e size v n xs := by
 refine ⟨h.1, ?_⟩
 rcases h.2 with hn | ⟨g, cap, cur, rfl, hb, hgg, rest⟩
 · exact .inl hn
 · exact .inr ⟨g, cap, cur, rfl, Nat.le_trans hB hb, hgg, rest⟩
theorem info3 : (Tryz.prog.info? 3).map (fun i => (i.zero, i.size, i.bytes)) = some (some (.int .i64 0), 1, 8) := by kernel_rfl

/-- A scanner of signs, at a place. -/
structure Sc (w : World) (b : Nat) (A : Option Addr) (c : Nat) (rs : List Int) (p : Nat) : Prop where
 blk : Blk w b 161 #[.slice A rs.length c, .int .i64 (p : Int)]
 row : w.ownsRow 0 21 1 (.slice A rs.length c) rs.length (rs.map (.int .i32))
 le : p ≤ rs.length
 small : rs.length ≤ 4096
 pos : 0 < rs.length
 valid : ∀ r, r ∈ rs → Lib.validRune r = true ∧ 0 ≤ r
theorem Sc.fr {S : Nat → Prop} {w w' : World} {b c p : Nat} {A : Option Addr} {rs : List Int} (h : Sc w b A c rs p) (hf : Fr S w w') (h1 : ¬ S b) (h2 : ∀ j, (Value.slice A rs.length c).ownBlock = some j → ¬ S j) : Sc w' b A c rs p :=
 ⟨h.blk.fr hf h1, ownsRow_fr h.row hf h2, h.le, h.small, h.pos, h.valid⟩
theorem Sc.frF {w w' : World} {b c p : Nat} {A : Option Addr} {rs : List Int} (h : Sc w b A c rs p) (hf : Fr (fun _ => False) w w') : Sc w' b A c rs p := h.fr hf (fun h => h) (fun _ _ h => h)
theorem Sc.go {w : World} {b c p : Nat} {A : Option Addr} {rs : List Int} (h : Sc w b A c rs p) (q : Nat) (hq : q ≤ rs.length) : Sc (w.setCell ⟨b, 1, none⟩ (.int .i64 (q : Int))) b A c rs q ∧ Fr (fun j => j = b) w (w.setCell ⟨b, 1, none⟩ (.int .i64 (q : Int))) := by
 have FS : Fr (fun j => j = b) w (w.setCell ⟨b, 1, none⟩ (.int .i64 (q : Int))) := (Fr.refl (fun j => j = b) w).setCell ⟨b, 1, none⟩ (fun _ => rfl) _
 exact ⟨⟨h.blk.set_ 1 (.int .i64 (q : Int)), ownsRow_fr h.row FS (fun j hj e => own_blk_ne h.row h.blk (by decide) (by rw [hj, e])), hq, h.small, h.pos, h.valid⟩, FS⟩
theorem rune_cell {w : World} {B g c : Nat} {rs : List Int} {n : Nat} (h : w.ownsRow B 21 1 (.slice (some ⟨g, 0, none⟩) n c) n (rs.map (.int .i32))) (j : Nat) (hj : j < n) : w.cell? ⟨g, j, none⟩ = some (.int .i32 (rs.getD j 0)) := by
 have hl : rs.length = n := by have := h.1; simpa using this
 rw [World.ownsRow.cellAt h j (by omega), List.getElem?_map, List.getElem?_eq_getElem (by omega), List.getD_eq_getElem?_getD, List.getElem?_eq_getElem (by omega)]
 rfl

/-- The sign at a place; none: -1. -/
def peekOf (rs : List Int) (p : Nat) : Int := if p < rs.length then rs.getD p 0 else -1
def nextAt (rs : List Int) (p : Nat) : Nat := if p < rs.length then p + 1 else p

theorem place_sc (b c p : Nat) (A : Option Addr) (rs : List Int) (w : World) (h : Sc w b A c rs p) : Calls Tryz.prog 38 #[.pointer (some ⟨b, 0, none⟩)] w fun e w' => e = .returned (.int .i64 (p : Int)) ∧ w = w' := by
 have c1 : w.cell? ⟨b, 1, none⟩ = some (.int .i64 (p : Int)) := h.blk.cell 1
 clear h
 go_enter Tryz.func38, Tryz.ntmps38
 go_wp2_with fail
 go_ret
 exact ⟨rfl, rfl⟩

theorem int_beq (p n : Nat) : (((p : Int) == (n : Int))) = decide (p = n) := by
 by_cases h : p = n
 · subst h; simp
 · rw [decide_eq_false h]
   simp
   omega

theorem end_sc (b c p : Nat) (A : Option Addr) (rs : List Int) (w : World) (h : Sc w b A c rs p) : Calls Tryz.prog 36 #[.pointer (some ⟨b, 0, none⟩)] w fun e w' => e = .returned (.bool (decide (p = rs.length))) ∧ Fr (fun _ => False) w w' := by
 have c0 : w.cell? ⟨b, 0, none⟩ = some (.slice A rs.length c) := h.blk.cell 0
 have c1 : w.cell? ⟨b, 1, none⟩ = some (.int .i64 (p : Int)) := h.blk.cell 1
 generalize rs.length = n at *
 clear h
 go_enter Tryz.func36, Tryz.ntmps36
 go_wp2_with fail
 go_big_quiet (fail)
 go_wp2_with fail
 go_ret
 exact ⟨by rw [int_beq]; rfl, (Fr.refl _ _).drewN _⟩

theorem peek_sc (b c p : Nat) (A : Option Addr) (rs : List Int) (w : World) (h : Sc w b A c rs p) : Calls Tryz.prog 72 #[.pointer (some ⟨b, 0, none⟩)] w fun e w' => e = .returned (.int .i32 (peekOf rs p)) ∧ Fr (fun _ => False) w w' := by
 have HE := Lib.hid (end_sc b c p A rs w h)
 have HS := Lib.hid h
 unfold peekOf
 by_cases hp : p < rs.length
 · rw [decide_eq_false (by omega)] at HE
   rw [if_pos hp]
   obtain ⟨r, hrr⟩ : ∃ r, r = rs.getD p 0 := ⟨_, rfl⟩
   rw [← hrr]
   clear h
   go_enter Tryz.func72, Tryz.ntmps72
   go_wp2_with fail
   refine HE.out.mono ?_
   rintro e w1 ⟨rfl, hf1⟩
   have hs := HS.out.frF hf1
   have hr := hs.row
   obtain ⟨g, rfl, _, _, _⟩ := row_form hr (by omega)
   have cc := rune_cell hr p hp
   rw [← hrr] at cc
   have c0 : w1.cell? ⟨b, 0, none⟩ = some (.slice (some ⟨g, 0, none⟩) rs.length c) := hs.blk.cell 0
   have c1 : w1.cell? ⟨b, 1, none⟩ = some (.int .i64 (p : Int)) := hs.blk.cell 1
   have hlt : (p : Int) < (rs.length : Int) := by omega
   have HF := Lib.hid hf1
   clear hs hr hf1 HE HS hrr
   go_wp2_with fail
   go_big_quiet (fail)
   go_wp2_with fail
   go_ret
   exact ⟨rfl, HF.out.drewN _⟩
 · rw [decide_eq_true (by have := h.le; omega)] at HE
   rw [if_neg hp]
   clear h
   go_enter Tryz.func72, Tryz.ntmps72
   go_wp2_with fail
   refine HE.out.mono ?_
   rintro e w1 ⟨rfl, hf1⟩
   go_wp2_with fail
   go_ret
   exact ⟨rfl, hf1⟩

/-- The scanner stands at a place; what it is made of stays. -/
def ScPost (w : World) (b : Nat) (A : Option Addr) (c : Nat) (rs : List Int) (q : Nat) (v : Value) (e : Ending) (w' : World) : Prop := e = .returned v ∧ Sc w' b A c rs q ∧ Fr (fun j => j = b) w w'

theorem peek_ne {w : World} {b c p : Nat} {A : Option Addr} {rs : List Int} (h : Sc w b A c rs p) (hp : p < rs.length) : ¬ rs.getD p 0 = -1 := by
 have := (h.valid (rs.getD p 0) (by rw [List.getD_eq_getElem?_getD, List.getElem?_eq_getElem hp]; exact List.getElem_mem hp)).2
 omega

theorem next_sc (b c p : Nat) (A : Option Addr) (rs : List Int) (w : World) (h : Sc w b A c rs p) : Calls Tryz.prog 100 #[.pointer (some ⟨b, 0, none⟩)] w (ScPost w b A c rs (nextAt rs p) (.int .i32 (peekOf rs p))) := by
 have HE := Lib.hid (peek_sc b c p A rs w h)
 have HS := Lib.hid h
 unfold nextAt
 by_cases hp : p < rs.length
 · have hne := peek_ne h hp
   unfold peekOf at HE ⊢
   rw [if_pos hp] at HE ⊢
   rw [if_pos hp]
   have hsm := h.small
   clear h
   generalize rs.getD p 0 = r at *
   go_enter Tryz.func100, Tryz.ntmps100
   go_wp2_with fail
   refine HE.out.mono ?_
   rintro e w1 ⟨rfl, hf1⟩
   have hs := HS.out.frF hf1
   have c1 : w1.cell? ⟨b, 1, none⟩ = some (.int .i64 (p : Int)) := hs.blk.cell 1
   have f1 := hs.blk.frozen 1
   have hlt := hs.blk.lt
   have HG := Lib.hid (hs.go (p + 1) (by omega))
   have HF := Lib.hid hf1
   clear hs hf1 HE HS
   go_wp2_with fail
   go_ret
   exact ⟨rfl, HG.out.1, (HF.out.mono (fun _ _ h => h.elim)).trans' HG.out.2⟩
 · unfold peekOf at HE ⊢
   rw [if_neg hp] at HE ⊢
   rw [if_neg hp]
   clear h
   go_enter Tryz.func100, Tryz.ntmps100
   go_wp2_with fail
   refine HE.out.mono ?_
   rintro e w1 ⟨rfl, hf1⟩
   go_wp2_with fail
   go_ret
   exact ⟨rfl, HS.out.frF hf1, hf1.mono (fun _ _ h => h.elim)⟩

theorem back_sc (b c p q : Nat) (A : Option Addr) (rs : List Int) (w : World) (h : Sc w b A c rs p) (hq : q ≤ rs.length) : Calls Tryz.prog 73 #[.pointer (some ⟨b, 0, none⟩), .int .i64 (q : Int)] w (ScPost w b A c rs q (.bool true)) := by
 have c0 : w.cell? ⟨b, 0, none⟩ = some (.slice A rs.length c) := h.blk.cell 0
 have c1 : w.cell? ⟨b, 1, none⟩ = some (.int .i64 (p : Int)) := h.blk.cell 1
 have f1 := h.blk.frozen 1
 have hlt := h.blk.lt
 have HG := Lib.hid (h.go q hq)
 have h0 : ¬ (q : Int) < 0 := by omega
 have h1 : ¬ (q : Int) > (rs.length : Int) := by omega
 clear h
 go_enter Tryz.func73, Tryz.ntmps73
 go_wp2_with fail
 go_ret
 exact ⟨rfl, HG.out.1, HG.out.2⟩

theorem class_none (w : World) : Calls Tryz.prog 98 #[.int .i32 (-1)] w fun e w' => e = .returned (.int .i64 6) ∧ w = w' := by
 have HV := Tryz.utf8_ValidRune (-1) w
 rw [show Lib.validRune (-1) = false from rfl] at HV
 go_enter Tryz.func98, Tryz.ntmps98
 go_wp2_with fail
 refine HV.mono ?_
 rintro e w1 ⟨rfl, rfl⟩
 go_wp2_with fail
 go_ret
 exact ⟨rfl, rfl⟩

/-- A sign's class; none: 6. -/
def clsOf (r : Int) : Int := if r = -1 then 6 else classOf r
theorem cls_any (r : Int) (w : World) (hv : r = -1 ∨ Lib.validRune r = true) : Calls Tryz.prog 98 #[.int .i32 r] w fun e w' => e = .returned (.int .i64 (clsOf r)) ∧ w = w' := by
 unfold clsOf
 by_cases h : r = -1
 · subst h
   rw [if_pos rfl]
   exact class_none w
 · rw [if_neg h]
   exact class_of r w (hv.resolve_left h)

/-- May a sign go on in a word? -/
def letterOf (r : Int) : Bool := (clsOf r == 1) || (clsOf r == 2) || (r == 95)
theorem letter_any (r : Int) (w : World) (hv : r = -1 ∨ Lib.validRune r = true) : Calls Tryz.prog 71 #[.int .i32 r] w fun e w' => e = .returned (.bool (letterOf r)) ∧ w = w' := by
 have HC := Lib.hid (fun w => cls_any r w hv)
 unfold letterOf
 generalize clsOf r = k at *
 by_cases h1 : k = 1
 · subst h1
   go_enter Tryz.func71, Tryz.ntmps71
   go_wp2_with fail
   refine (HC.out _).mono ?_
   rintro e w1 ⟨rfl, rfl⟩
   go_wp2_with fail
   go_ret
   exact ⟨rfl, rfl⟩
 · have h1' : (k == 1) = false := by simpa using h1
   rw [h1']
   by_cases h2 : k = 2
   · subst h2
     go_enter Tryz.func71, Tryz.ntmps71
     go_wp2_with fail
     refine (HC.out _).mono ?_
     rintro e w1 ⟨rfl, rfl⟩
     go_wp2_with fail
     refine (HC.out _).mono ?_
     rintro e w1 ⟨rfl, rfl⟩
     go_wp2_with fail
     go_ret
     exact ⟨rfl, rfl⟩
   · have h2' : (k == 2) = false := by simpa using h2
     rw [h2']
     go_enter Tryz.func71, Tryz.ntmps71
     go_wp2_with fail
     refine (HC.out _).mono ?_
     rintro e w1 ⟨rfl, rfl⟩
     go_wp2_with fail
     refine (HC.out _).mono ?_
     rintro e w1 ⟨rfl, rfl⟩
     go_wp2_with fail
     go_ret
     exact ⟨by simp, rfl⟩

/-- A text's signs. -/
def txt (T : ByteArray) : List Int := T.data.toList.map fun c => (c.toNat : Int)
/-- Do signs follow at a place? -/
def isAt (rs : List Int) (p : Nat) (ts : List Int) : Bool := (List.range ts.length).all fun i => peekOf rs (p + i) == ts.getD i 0
theorem isAt_true {rs ts : List Int} {p : Nat} (h : ∀ i, i < ts.length → peekOf rs (p + i) = ts.getD i 0) : isAt rs p ts = true := by
 unfold isAt
 rw [List.all_eq_true]
 intro i hi
 rw [List.mem_range] at hi
 simpa using h i hi
theorem isAt_false {rs ts : List Int} {p i : Nat} (hi : i < ts.length) (h : ¬ peekOf rs (p + i) = ts.getD i 0) : isAt rs p ts = false := by
 unfold isAt
 rw [List.all_eq_false]
 exact ⟨i, List.mem_range.2 hi, by simpa using h⟩
theorem txt_len (T : ByteArray) : (txt T).length = T.size := by unfold txt; simp
theorem txt_get (T : ByteArray) (i : Nat) (h : i < T.size) : (txt T).getD i 0 = ((T[i]'h).toNat : Int) := by
 unfold txt
 rw [List.getD_eq_getElem?_getD, List.getElem?_map, List.getElem?_eq_getElem (by simpa using h)]
 simp
 rfl
def Ascii (T : ByteArray) : Prop := ∀ i (h : i < T.size), (T[i]'h).toNat < 128
theorem peek_lt {rs : List Int} {p : Nat} (h : 0 ≤ peekOf rs p) : p < rs.length := by
 unfold peekOf at h
 by_cases hp : p < rs.length
 · exact hp
 · rw [if_neg hp] at h
   omega

def IsPost (w : World) (b : Nat) (A : Option Addr) (c : Nat) (rs : List Int) (p n : Nat) (r : Bool) (e : Ending) (w' : World) : Prop := e = .returned (.bool r) ∧ Sc w' b A c rs (if r = true then p + n else p) ∧ Fr (fun j => j = b) w w'

theorem is_sc (T : ByteArray) (b c p : Nat) (A : Option Addr) (rs : List Int) (w : World) (hT : Ascii T) (hsz : T.size ≤ 100) (h : Sc w b A c rs p) :
    Calls Tryz.prog 70 #[.pointer (some ⟨b, 0, none⟩), .string T] w (IsPost w b A c rs p T.size (isAt rs p (txt T))) := by
 have HN := Lib.hid (fun q w1 h1 => next_sc b c q A rs w1 h1)
 have c1 : w.cell? ⟨b, 1, none⟩ = some (.int .i64 (p : Int)) := h.blk.cell 1
 have hbl := h.blk.lt
 have HS := Lib.hid h
 have hsm := h.small
 have HP := Lib.hid h.le
 clear h
 obtain ⟨bb, hbb⟩ : ∃ bb, bb = isAt rs p (txt T) := ⟨_, rfl⟩
 rw [← hbb]
 have HBB := Lib.hid hbb
 clear hbb
 go_enter Tryz.func70, Tryz.ntmps70
 go_wp2_with fail
 go_loopg [7] (T.size) (fun g nv wr => ∃ q : Nat, T.size ≤ q + g ∧ q ≤ T.size ∧ p + q ≤ rs.length ∧ ItAt wr w.heap.size T q ∧ Sc wr b A c rs (p + q) ∧ Fr (fun j => j = b ∨ w.heap.size ≤ j) w wr ∧ ∀ i, i < q → peekOf rs (p + i) = (txt T).getD i 0)
 case atStart => exact ⟨0, by omega, Nat.zero_le _, by have := HP.out; omega, ItAt.new w T 0, HS.out.frF ((Fr.refl _ _).alloc _), (Fr.refl _ _).alloc _, fun i hi => absurd hi (by omega)⟩
 case round =>
  obtain ⟨q, hg, hq, hle, hit, hs, hf, hm⟩ := hrel
  by_cases hp : q < T.size
  · have hnx := run_next_it hit hp
    rw [decode_ascii T q hp (hT q hp)] at hnx
    have hit2 := hit.set (q + 1)
    have FI := hit.frS (q + 1)
    have hs2 := hs.fr FI (fun e => by have := hs.blk.lt; have := hf.size; omega) (fun j hj e => by
     subst e
     rcases hs.row.2 with ⟨h0, _⟩ | ⟨gg, cap, cur, hv, _, hh, _⟩
     · rw [h0] at hj; cases hj
     · rw [hv] at hj
       injection hj with hj
       subst hj
       rw [show wr.heap[w.heap.size]? = some (.stringIter T q) from hit] at hh
       cases hh)
    have hf2 : Fr (fun j => j = b ∨ w.heap.size ≤ j) w (World.itSet wr w.heap.size T (q + 1)) := hf.trans FI (fun i hi e => .inr (by omega))
    have HIT := Lib.hid hit2
    have HS2 := Lib.hid hs2
    have HF := Lib.hid hf2
    generalize World.itSet wr w.heap.size T (q + 1) = w2 at *
    have HM := Lib.hid hm
    have HT2 := Lib.hid (txt_get T q hp)
    have hr0 : (0 : Int) ≤ ((T[q]'hp).toNat : Int) := by omega
    have HNX := Lib.hid (HN.out (p + q) w2 hs2)
    generalize hrr : ((T[q]'hp).toNat) = r at *
    clear hit hf hit2 hf2 hs hs2 FI hm hrr
    by_cases hpk : peekOf rs (p + q) = (r : Int)
    · have hlt := peek_lt (rs := rs) (p := p + q) (by rw [hpk]; exact hr0)
      unfold nextAt at HNX
      rw [if_pos hlt, hpk] at HNX
      go_wp2_with fail
      refine HNX.out.mono ?_
      rintro e w3 ⟨rfl, hs3, hf3⟩
      have HS3 := Lib.hid hs3
      have hi3 := HIT.out.fr hf3 (fun e => by have := HF.out.size; omega)
      have HI3 := Lib.hid hi3
      have HF3 := Lib.hid (HF.out.trans hf3 (fun j _ e => .inl e))
      clear hs3 hf3 hi3
      go_wp2_with fail
      go_roundg (T.size - (q + 1))
      case measure => omega
      case rel => exact ⟨q + 1, by omega, by omega, by omega, HI3.out, HS3.out, HF3.out, fun i hi => by
       by_cases hiq : i < q
       · exact HM.out i hiq
       · have : i = q := by omega
         subst this
         rw [hpk, HT2.out]⟩
    · have HFL := Lib.hid (isAt_false (rs := rs) (p := p) (ts := txt T) (i := q) (by rw [txt_len]; exact hp) (by rw [HT2.out]; exact hpk))
      have hbf : bb = false := by rw [HBB.out, HFL.out]
      subst hbf
      have hpk' : (peekOf rs (p + q) == (r : Int)) = false := by simpa using hpk
      have hpk2 : (peekOf rs (p + q) != (r : Int)) = true := by simpa using hpk
      generalize peekOf rs (p + q) = pk at *
      go_wp2_with fail
      refine HNX.out.mono ?_
      rintro e w3 ⟨rfl, hs3, hf3⟩
      have c13 : w3.cell? ⟨b, 1, none⟩ = some (.int .i64 ((nextAt rs (p + q) : Nat) : Int)) := hs3.blk.cell 1
      have f13 := hs3.blk.frozen 1
      have hl3 := hs3.blk.lt
      have HG := Lib.hid (hs3.go p HP.out)
      have HF3 := Lib.hid (HF.out.trans hf3 (fun j _ e => .inl e))
      clear hs3 hf3
      go_wp2_with fail
      go_ret
      exact ⟨rfl, HG.out.1, (HF3.out.trans HG.out.2 (fun j _ e => .inl e)).mono (fun j hj h => h.elim id (fun h => absurd h (by omega)))⟩
  · have hnx := run_next_it_end hit hp
    have hqe : q = T.size := by omega
    subst hqe
    have hbt : bb = true := by rw [HBB.out]; exact isAt_true (fun i hi => hm i (by rw [txt_len] at hi; exact hi))
    subst hbt
    have HS2 := Lib.hid hs
    have HF := Lib.hid hf
    clear hit hs hf hm
    go_wp2_with fail
    go_ret
    exact ⟨rfl, HS2.out, HF.out.mono (fun j hj h => h.elim id (fun h => absurd h (by omega)))⟩

/-- Whether an int stands in a list. -/
def IdxPost (w : World) (r : Bool) (e : Ending) (w' : World) : Prop := ∃ k : Int, e = .returned (.int .i64 k) ∧ decide (k ≥ 0) = r ∧ Fr (fun _ => False) w w'

theorem idxI_any (B c : Nat) (A : Option Addr) (cs : List Int) (x : Int) (w : World) (hn : cs.length ≤ 100) (hr : IntRow w B (.slice A cs.length c) cs) : Calls Tryz.prog 126 #[.slice A cs.length c, .int .i64 x] w (IdxPost w (cs.contains x)) := by
 have HR := Lib.hid hr
 obtain ⟨bb, hbb⟩ : ∃ bb, bb = cs.contains x := ⟨_, rfl⟩
 rw [← hbb]
 have HBB := Lib.hid hbb
 clear hbb hr
 go_enter Tryz.func126, Tryz.ntmps126
 go_wp2_with fail
 go_loopw [8] (fun iv wr => ∃ k : Nat, iv = .int .i64 (k : Int) ∧ k ≤ cs.length ∧ Fr (fun _ => False) w wr ∧ ∀ j, j < k → ¬ x = cs.getD j 0) (fun iv _ => cs.length - (intOf iv).toNat)
 case atStart => exact ⟨0, rfl, Nat.zero_le _, Fr.refl _ _, fun j hj => absurd hj (by omega)⟩
 case round =>
  obtain ⟨k, rfl, hk, hf, hno⟩ := hrel
  have HF := Lib.hid hf
  have HNO := Lib.hid hno
  by_cases hlt : k < cs.length
  · have hlt' : (k : Int) < (cs.length : Int) := by omega
    have hr1 := HR.out.fr hf (fun _ _ h => h)
    unfold IntRow at hr1
    obtain ⟨g, rfl, _, _, _⟩ := row_form hr1 (by omega)
    have cc := int_cell hr1 k hlt
    have HG := Lib.hid (show cs.getD k 0 ∈ cs by rw [List.getD_eq_getElem?_getD, List.getElem?_eq_getElem hlt]; exact List.getElem_mem hlt)
    generalize hy : cs.getD k 0 = y at *
    have HY := Lib.hid hy
    clear hr1 hf hno hy
    by_cases hxy : x = y
    · subst hxy
      have hbt : bb = true := by rw [HBB.out]; simpa using HG.out
      subst hbt
      go_wp2_with fail
      go_ret
      exact ⟨_, rfl, decide_eq_true (by omega), HF.out⟩
    · have hxy' : (x == y) = false := by simpa using hxy
      go_wp2_with fail
      go_roundw
      case rel => exact ⟨k + 1, by go_num, by omega, HF.out, fun j hj => by
       by_cases hjk : j < k
       · exact HNO.out j hjk
       · have : j = k := by omega
         subst this
         rw [HY.out]; exact hxy⟩
      case measure => simp only [intOf]; omega
  · have hlt' : ¬ (k : Int) < (cs.length : Int) := by omega
    have hbf : bb = false := by
     rw [HBB.out]
     rw [List.contains_eq_any_beq, List.any_eq_false]
     intro y hy
     obtain ⟨j, hj, rfl⟩ := List.mem_iff_getElem.1 hy
     have h := hno j (by omega)
     rw [List.getD_eq_getElem?_getD, List.getElem?_eq_getElem hj] at h
     simpa using h
    subst hbf
    clear hf hno
    go_wp2_with fail
    go_ret
    exact ⟨_, rfl, rfl, HF.out⟩

theorem hasI_any (B c : Nat) (A : Option Addr) (cs : List Int) (x : Int) (w : World) (hn : cs.length ≤ 100) (hr : IntRow w B (.slice A cs.length c) cs) : Calls Tryz.prog 97 #[.slice A cs.length c, .int .i64 x] w (IsB (cs.contains x) w) := by
 have HI := Lib.hid (idxI_any B c A cs x w hn hr)
 generalize cs.contains x = bb at *
 clear hr
 go_enter Tryz.func97, Tryz.ntmps97
 go_wp2_with fail
 refine HI.out.mono ?_
 rintro e w1 ⟨k, rfl, hk, hf⟩
 go_wp2_with fail
 go_ret
 exact ⟨by rw [← hk]; rfl, hf⟩

/-- How far signs of some classes go. -/
def skipF (rs cs : List Int) : Nat → Nat → Nat
 | 0, p => p
 | f + 1, p => if p < rs.length ∧ cs.contains (clsOf (rs.getD p 0)) = true then skipF rs cs f (p + 1) else p
def skip (rs cs : List Int) (p : Nat) : Nat := skipF rs cs (rs.length - p) p
theorem skip_step {rs cs : List Int} {p : Nat} (h : p < rs.length) (hc : cs.contains (clsOf (rs.getD p 0)) = true) : skip rs cs p = skip rs cs (p + 1) := by
 unfold skip
 rw [show rs.length - p = (rs.length - (p + 1)) + 1 by omega, skipF, if_pos ⟨h, hc⟩]
theorem skip_stop {rs cs : List Int} {p : Nat} (h : ¬ (p < rs.length ∧ cs.contains (clsOf (rs.getD p 0)) = true)) : skip rs cs p = p := by
 unfold skip
 cases rs.length - p with
 | zero => rfl
 | succ f => rw [skipF, if_neg h]
theorem skip_le (rs cs : List Int) : ∀ m p, rs.length - p ≤ m → p ≤ rs.length → p ≤ skip rs cs p ∧ skip rs cs p ≤ rs.length := by
 intro m
 induction m with
 | zero =>
  intro p h hp
  rw [skip_stop (by omega)]
  omega
 | succ m ih =>
  intro p h hp
  by_cases hc : p < rs.length ∧ cs.contains (clsOf (rs.getD p 0)) = true
  · rw [skip_step hc.1 hc.2]
    have := ih (p + 1) (by omega) (by omega)
    omega
  · rw [skip_stop hc]
    omega

theorem runes_of {w : World} {b c g q0 : Nat} {rs : List Int} (h : Sc w b (some ⟨g, 0, none⟩) c rs q0) (a q : Nat) (haq : a ≤ q) (hq : q ≤ rs.length) :
    ∀ cap, (convert 159 9 (.slice (some ⟨g, a, none⟩) (q - a) cap)).run Tryz.prog w = .ok (.string (runesBytes ((rs.drop a).take (q - a)))) w := fun cap =>
 run_convert_runes w 159 9 21 ⟨g, a, none⟩ (q - a) cap (rs.drop a) (by simp; omega) Tryz.underlying159 Tryz.underlying21 Tryz.underlying9 (fun j hj => by
  have hj2 : a + j < rs.length := by simp at hj; omega
  have e : (⟨g, a, none⟩ : Addr).add j = ⟨g, a + j, none⟩ := Addr.add_mid g a j
  rw [e, rune_cell h.row (a + j) hj2]
  simp only [List.getD_eq_getElem?_getD, List.getElem?_drop])

/-- The signs that were gone over, as a text. -/
def RunPost (w : World) (b : Nat) (A : Option Addr) (c : Nat) (rs : List Int) (p q : Nat) (e : Ending) (w' : World) : Prop :=
 e = .returned (.string (runesBytes ((rs.drop p).take (q - p)))) ∧ Sc w' b A c rs q ∧ Fr (fun j => j = b) w w'

theorem run_sc (b c p B kc : Nat) (A K : Option Addr) (rs cs : List Int) (w : World) (hn : cs.length ≤ 100) (h : Sc w b A c rs p) (hr : IntRow w B (.slice K cs.length kc) cs) :
    Calls Tryz.prog 68 #[.pointer (some ⟨b, 0, none⟩), .slice K cs.length kc] w (RunPost w b A c rs p (skip rs cs p)) := by
 have c1 : w.cell? ⟨b, 1, none⟩ = some (.int .i64 (p : Int)) := h.blk.cell 1
 have hbl := h.blk.lt
 have HS := Lib.hid h
 have HR := Lib.hid hr
 have HE := Lib.hid (fun q w1 h1 => end_sc b c q A rs w1 h1)
 have HP := Lib.hid (fun q w1 h1 => peek_sc b c q A rs w1 h1)
 have HC := Lib.hid (fun x w1 h1 => hasI_any B kc K cs x w1 hn h1)
 have hsm := h.small
 clear h hr
 go_enter Tryz.func68, Tryz.ntmps68
 go_wp2_with fail
 go_loopg [11] (rs.length) (fun g nv wr => ∃ q : Nat, rs.length ≤ q + g ∧ p ≤ q ∧ q ≤ rs.length ∧ skip rs cs q = skip rs cs p ∧ Sc wr b A c rs q ∧ Fr (fun j => j = b) w wr)
 case atStart => exact ⟨p, by omega, Nat.le_refl _, HS.out.le, rfl, HS.out, Fr.refl _ _⟩
 case round =>
  obtain ⟨q, hg, hpq, hq, hsk, hs, hf⟩ := hrel
  have HSK := Lib.hid hsk
  have HSQ := Lib.hid hs
  have HF := Lib.hid hf
  have HEQ := Lib.hid (HE.out q wr hs)
  obtain ⟨g0, rfl, _, _, _⟩ := row_form hs.row hs.pos
  by_cases hq2 : q < rs.length
  · rw [decide_eq_false (by omega)] at HEQ
    by_cases hc : cs.contains (clsOf (rs.getD q 0)) = true
    · have hst := skip_step hq2 hc
      have HST := Lib.hid hst
      have HPK := Lib.hid (fun w1 h1 => HP.out q w1 h1)
      unfold peekOf at HPK
      rw [if_pos hq2] at HPK
      have hval := (hs.valid (rs.getD q 0) (by rw [List.getD_eq_getElem?_getD, List.getElem?_eq_getElem hq2]; exact List.getElem_mem hq2)).1
      have HCL := Lib.hid (fun w1 => cls_any (rs.getD q 0) w1 (.inr hval))
      have HCC := Lib.hid (fun w1 h1 => HC.out (clsOf (rs.getD q 0)) w1 h1)
      rw [hc] at HCC
      generalize clsOf (rs.getD q 0) = kk at *
      generalize rs.getD q 0 = rr at *
      clear hs hf hst hsk
      go_wp2_with fail
      refine HEQ.out.mono ?_
      rintro e w1 ⟨rfl, hf1⟩
      have HS1 := Lib.hid (HSQ.out.frF hf1)
      have HF1 := Lib.hid (HF.out.trans hf1 (fun _ _ h => h.elim))
      clear hf1
      go_wp2_with fail
      refine (HPK.out _ HS1.out).mono ?_
      rintro e w2 ⟨rfl, hf2⟩
      have HS2 := Lib.hid (HS1.out.frF hf2)
      have HF2 := Lib.hid (HF1.out.trans hf2 (fun _ _ h => h.elim))
      clear hf2
      go_wp2_with fail
      refine (HCL.out _).mono ?_
      rintro e w3 ⟨rfl, rfl⟩
      go_wp2_with fail
      refine (HCC.out _ (HR.out.fr HF2.out (fun j hj e => own_blk_ne HR.out HS.out.blk (by decide) (by rw [hj, e])))).mono ?_
      rintro e w4 ⟨rfl, hf4⟩
      have hs4 := HS2.out.frF hf4
      have c14 : w4.cell? ⟨b, 1, none⟩ = some (.int .i64 (q : Int)) := hs4.blk.cell 1
      have f14 := hs4.blk.frozen 1
      have hl4 := hs4.blk.lt
      have HG := Lib.hid (hs4.go (q + 1) (by omega))
      have HF4 := Lib.hid (HF2.out.trans hf4 (fun _ _ h => h.elim))
      clear hs4 hf4
      go_wp2_with fail
      go_roundg (rs.length - (q + 1))
      case measure => omega
      case rel => exact ⟨q + 1, by omega, by omega, by omega, by rw [← HST.out]; exact HSK.out, HG.out.1, HF4.out.trans' HG.out.2⟩
    · have HST := Lib.hid (skip_stop (rs := rs) (cs := cs) (p := q) (fun h => hc h.2))
      have HPK := Lib.hid (fun w1 h1 => HP.out q w1 h1)
      unfold peekOf at HPK
      rw [if_pos hq2] at HPK
      have hval := (hs.valid (rs.getD q 0) (by rw [List.getD_eq_getElem?_getD, List.getElem?_eq_getElem hq2]; exact List.getElem_mem hq2)).1
      have HCL := Lib.hid (fun w1 => cls_any (rs.getD q 0) w1 (.inr hval))
      have HCC := Lib.hid (fun w1 h1 => HC.out (clsOf (rs.getD q 0)) w1 h1)
      have hcf : cs.contains (clsOf (rs.getD q 0)) = false := by simpa using hc
      rw [hcf] at HCC
      generalize clsOf (rs.getD q 0) = kk at *
      generalize rs.getD q 0 = rr at *
      clear hs hf hsk hc hcf
      go_wp2_with fail
      refine HEQ.out.mono ?_
      rintro e w1 ⟨rfl, hf1⟩
      have HS1 := Lib.hid (HSQ.out.frF hf1)
      have HF1 := Lib.hid (HF.out.trans hf1 (fun _ _ h => h.elim))
      clear hf1
      go_wp2_with fail
      refine (HPK.out _ HS1.out).mono ?_
      rintro e w2 ⟨rfl, hf2⟩
      have HS2 := Lib.hid (HS1.out.frF hf2)
      have HF2 := Lib.hid (HF1.out.trans hf2 (fun _ _ h => h.elim))
      clear hf2
      go_wp2_with fail
      refine (HCL.out _).mono ?_
      rintro e w3 ⟨rfl, rfl⟩
      go_wp2_with fail
      refine (HCC.out _ (HR.out.fr HF2.out (fun j hj e => own_blk_ne HR.out HS.out.blk (by decide) (by rw [hj, e])))).mono ?_
      rintro e w4 ⟨rfl, hf4⟩
      have hs4 := HS2.out.frF hf4
      have hcv := fun n => runes_of (hs4.frF ((Fr.refl _ w4).drewN n)) p q hpq hq
      have c04 : w4.cell? ⟨b, 0, none⟩ = some (.slice (some ⟨g0, 0, none⟩) rs.length c) := hs4.blk.cell 0
      have c14 : w4.cell? ⟨b, 1, none⟩ = some (.int .i64 (q : Int)) := hs4.blk.cell 1
      have hqc : (q : Int) ≤ (c : Int) := by have := row_le hs4.row; omega
      have hqn : q ≤ c := by have := row_le hs4.row; omega
      have hpi : (p : Int) ≤ (q : Int) := by omega
      have HF4 := Lib.hid (HF2.out.trans hf4 (fun _ _ h => h.elim))
      have HS4 := Lib.hid hs4
      have HQ := Lib.hid (show q = skip rs cs p by rw [← HSK.out, HST.out])
      generalize skip rs cs p = qq at *
      clear hs4 hf4
      go_wp2_with fail
      go_big_quiet (fail)
      have hqe := HQ.out
      subst hqe
      go_wp2_with fail
      go_ret
      exact ⟨rfl, HS4.out.frF ((Fr.refl _ _).drewN _), HF4.out.drewN _⟩
  · rw [decide_eq_true (by omega)] at HEQ
    have HST := Lib.hid (skip_stop (rs := rs) (cs := cs) (p := q) (fun h => hq2 h.1))
    clear hs hf hsk
    go_wp2_with fail
    refine HEQ.out.mono ?_
    rintro e w4 ⟨rfl, hf4⟩
    have hs4 := HSQ.out.frF hf4
    have hcv := fun n => runes_of (hs4.frF ((Fr.refl _ w4).drewN n)) p q hpq hq
    have c04 : w4.cell? ⟨b, 0, none⟩ = some (.slice (some ⟨g0, 0, none⟩) rs.length c) := hs4.blk.cell 0
    have c14 : w4.cell? ⟨b, 1, none⟩ = some (.int .i64 (q : Int)) := hs4.blk.cell 1
    have hqc : (q : Int) ≤ (c : Int) := by have := row_le hs4.row; omega
    have hqn : q ≤ c := by have := row_le hs4.row; omega
    have hpi : (p : Int) ≤ (q : Int) := by omega
    have HF4 := Lib.hid (HF.out.trans hf4 (fun _ _ h => h.elim))
    have HS4 := Lib.hid hs4
    have HQ := Lib.hid (show q = skip rs cs p by rw [← HSK.out, HST.out])
    generalize skip rs cs p = qq at *
    clear hs4 hf4 hq2
    by_cases hcp : c = p
    · have hqp : q - p = 0 := by omega
      have hcv0 : ∀ n cap, (convert 159 9 (.slice (some ⟨g0, 0, none⟩) (q - p) cap)).run Tryz.prog (w4.drewN n) = .ok (.string (runesBytes ((rs.drop p).take (q - p)))) (w4.drewN n) := fun n cap => by
       rw [hqp]
       exact runes_of (HS4.out.frF ((Fr.refl _ w4).drewN n)) 0 0 (Nat.le_refl _) (Nat.zero_le _) cap
      clear hcv hqp
      go_wp2_with fail
      go_big_quiet (fail)
      subst hcp
      have hqe := HQ.out
      subst hqe
      go_wp2_with fail
      go_ret
      exact ⟨by rw [show q - c = 0 by omega, List.take_zero]; rfl, HS4.out.frF ((Fr.refl _ _).drewN _), HF4.out.drewN _⟩
    · go_wp2_with fail
      go_big_quiet (fail)
      have hqe := HQ.out
      subst hqe
      go_wp2_with fail
      go_ret
      exact ⟨rfl, HS4.out.frF ((Fr.refl _ _).drewN _), HF4.out.drewN _⟩

theorem blanks_sc (b c p : Nat) (A : Option Addr) (rs : List Int) (w : World) (h : Sc w b A c rs p) :
    Calls Tryz.prog 35 #[.pointer (some ⟨b, 0, none⟩)] w fun e w' => (∃ k : Int, e = .returned (.int .i64 k)) ∧ Sc w' b A c rs (skip rs [0] p) ∧ Fr (fun j => j = b) w w' := by
 have hf : Fr (fun _ => False) w (w.alloc (.cells #[.int .i64 0] 3)) := (Fr.refl _ _).alloc _
 have hown := World.ownsRow_lit (base := 0) (e := 3) (size := 1) w #[.int .i64 0] 1 (Nat.zero_le _) (by decide) rfl
 have HR := Lib.hid (run_sc b c p 0 1 A (some ⟨w.heap.size, 0, none⟩) rs [0] _ (by decide) (h.frF hf) hown)
 have HF := Lib.hid hf
 generalize skip rs [0] p = q at *
 clear h hown hf
 go_enter Tryz.func35, Tryz.ntmps35
 go_wp2_with fail
 refine HR.out.mono ?_
 rintro e w1 ⟨rfl, hs1, hf1⟩
 have HS1 := Lib.hid hs1
 have HF1 := Lib.hid ((HF.out.mono (fun _ _ h => h.elim)).trans' hf1)
 generalize runesBytes ((rs.drop p).take (q - p)) = str at *
 clear hs1 hf1
 go_wp2_with fail
 go_ret
 exact ⟨⟨_, rfl⟩, HS1.out, HF1.out⟩

/-- What is thrown: a place, an error. -/
def failV (place code : Int) : Value := .iface 116 (.agg #[.int .i64 place, .int .i64 code])
def Thrown (place code : Int) (e : Ending) : Prop := e = .panicked [{ v := failV place code, recovered := false }]

/-- Does a word follow, behind blanks? -/
def wordAt (rs : List Int) (p : Nat) (T : ByteArray) : Bool := isAt rs (skip rs [0] p) (txt T) && !letterOf (peekOf rs (skip rs [0] p + T.size))
def wordTo (rs : List Int) (p : Nat) (T : ByteArray) : Nat := if wordAt rs p T = true then skip rs [0] p + T.size else skip rs [0] p
/-- Does a mark? -/
def markAt (rs : List Int) (p : Nat) (T : ByteArray) : Bool := isAt rs (skip rs [0] p) (txt T)
def markTo (rs : List Int) (p : Nat) (T : ByteArray) : Nat := if markAt rs p T = true then skip rs [0] p + T.size else skip rs [0] p

theorem box_keep {w0 w w' : World} {b : Nat} {v : Value} (h : Blk w w0.heap.size 89 #[v]) (hb : b < w0.heap.size) (hf : Fr (fun j => j = b) w w') : Blk w' w0.heap.size 89 #[v] := h.fr hf (fun e => by omega)
theorem peek_ok {w : World} {b c p : Nat} {A : Option Addr} {rs : List Int} (h : Sc w b A c rs p) (q : Nat) : peekOf rs q = -1 ∨ Lib.validRune (peekOf rs q) = true := by
 unfold peekOf
 by_cases hq : q < rs.length
 · rw [if_pos hq]
   exact .inr (h.valid _ (by rw [List.getD_eq_getElem?_getD, List.getElem?_eq_getElem hq]; exact List.getElem_mem hq)).1
 · rw [if_neg hq]
   exact .inl rfl

theorem mark_sc (T : ByteArray) (b c p : Nat) (A : Option Addr) (rs : List Int) (w : World) (hT : Ascii T) (hsz : T.size ≤ 100) (h : Sc w b A c rs p) :
    Calls Tryz.prog 74 #[.agg #[.pointer (some ⟨b, 0, none⟩)], .string T] w (ScPost w b A c rs (markTo rs p T) (.bool (markAt rs p T))) := by
 have hf : Fr (fun _ => False) w (w.alloc (.cells #[.pointer (some ⟨b, 0, none⟩)] 89)) := (Fr.refl _ _).alloc _
 have HB := Lib.hid (blanks_sc b c p A rs _ (h.frF hf))
 have HI := Lib.hid (fun q w1 h1 => is_sc T b c q A rs w1 hT hsz h1)
 have HX := Lib.hid (Blk.new w 89 #[.pointer (some ⟨b, 0, none⟩)])
 have HF := Lib.hid hf
 have hbl := h.blk.lt
 obtain ⟨r, hr⟩ : ∃ r, r = markAt rs p T := ⟨_, rfl⟩
 obtain ⟨q', hq'⟩ : ∃ q', q' = markTo rs p T := ⟨_, rfl⟩
 rw [← hr, ← hq']
 unfold markTo at hq'
 rw [← hr] at hq'
 unfold markAt at hr
 have HR := Lib.hid hr
 have HQ := Lib.hid hq'
 clear h hf hr hq'
 go_enter Tryz.func74, Tryz.ntmps74
 go_wp2_with fail
 refine HB.out.mono ?_
 rintro e w1 ⟨⟨k, rfl⟩, hs1, hf1⟩
 have hx1 := box_keep HX.out hbl hf1
 have x1 : w1.cell? ⟨w.heap.size, 0, none⟩ = some (.pointer (some ⟨b, 0, none⟩)) := hx1.cell 0
 have HII := Lib.hid (HI.out _ w1 hs1)
 have HF1 := Lib.hid ((HF.out.mono (T := fun j => j = b) (fun _ _ h => h.elim)).trans' hf1)
 generalize skip rs [0] p = q at *
 rw [← HR.out] at HII
 obtain ⟨q2, hq2⟩ : ∃ q2, q2 = if r = true then q + T.size else q := ⟨_, rfl⟩
 have HQ2 := Lib.hid (show q' = q2 by rw [HQ.out, hq2])
 unfold IsPost at HII
 rw [← hq2] at HII
 clear hx1 hs1 hf1 hq2
 go_wp2_with fail
 refine HII.out.mono ?_
 rintro e w2 ⟨rfl, hs2, hf2⟩
 have hqe := HQ2.out
 subst hqe
 go_wp2_with fail
 go_ret
 exact ⟨rfl, hs2, HF1.out.trans' hf2⟩

theorem word_sc (T : ByteArray) (b c p : Nat) (A : Option Addr) (rs : List Int) (w : World) (hT : Ascii T) (hsz : T.size ≤ 100) (h : Sc w b A c rs p) :
    Calls Tryz.prog 42 #[.agg #[.pointer (some ⟨b, 0, none⟩)], .string T] w (ScPost w b A c rs (wordTo rs p T) (.bool (wordAt rs p T))) := by
 have hf : Fr (fun _ => False) w (w.alloc (.cells #[.pointer (some ⟨b, 0, none⟩)] 89)) := (Fr.refl _ _).alloc _
 have HB := Lib.hid (blanks_sc b c p A rs _ (h.frF hf))
 have HP := Lib.hid (fun q w1 h1 => place_sc b c q A rs w1 h1)
 have HI := Lib.hid (fun q w1 h1 => is_sc T b c q A rs w1 hT hsz h1)
 have HK := Lib.hid (fun q w1 h1 => peek_sc b c q A rs w1 h1)
 have HL := Lib.hid (fun q w1 => letter_any (peekOf rs q) w1 (peek_ok h q))
 have HBA := Lib.hid (fun q q' w1 h1 => back_sc b c q q' A rs w1 h1)
 have HX := Lib.hid (Blk.new w 89 #[.pointer (some ⟨b, 0, none⟩)])
 have HF := Lib.hid hf
 have hbl := h.blk.lt
 have hle := (skip_le rs [0] rs.length p (by omega) h.le).2
 obtain ⟨o, ho⟩ : ∃ o, o = wordAt rs p T := ⟨_, rfl⟩
 obtain ⟨q', hq'⟩ : ∃ q', q' = wordTo rs p T := ⟨_, rfl⟩
 rw [← ho, ← hq']
 unfold wordTo at hq'
 rw [← ho] at hq'
 unfold wordAt at ho
 have HO := Lib.hid ho
 have HQ := Lib.hid hq'
 clear h hf ho hq'
 go_enter Tryz.func42, Tryz.ntmps42
 go_wp2_with fail
 refine HB.out.mono ?_
 rintro e w1 ⟨⟨k, rfl⟩, hs1, hf1⟩
 have hx1 := box_keep HX.out hbl hf1
 have x1 : w1.cell? ⟨w.heap.size, 0, none⟩ = some (.pointer (some ⟨b, 0, none⟩)) := hx1.cell 0
 have HPP := Lib.hid (HP.out _ w1 hs1)
 have HII := Lib.hid (HI.out _ w1 hs1)
 have HX1 := Lib.hid hx1
 have HF1 := Lib.hid ((HF.out.mono (T := fun j => j = b) (fun _ _ h => h.elim)).trans' hf1)
 generalize skip rs [0] p = q at *
 generalize hrr : isAt rs q (txt T) = r at *
 obtain ⟨q2, hq2⟩ : ∃ q2, q2 = if r = true then q + T.size else q := ⟨_, rfl⟩
 unfold IsPost at HII
 rw [← hq2] at HII
 have HQ2 := Lib.hid hq2
 clear hx1 hs1 hf1 hrr hq2
 go_wp2_with fail
 refine HPP.out.mono ?_
 rintro e w1' ⟨rfl, rfl⟩
 go_wp2_with fail
 refine HII.out.mono ?_
 rintro e w2 ⟨rfl, hs2, hf2⟩
 have hx2 := box_keep HX1.out hbl hf2
 have x2 : w2.cell? ⟨w.heap.size, 0, none⟩ = some (.pointer (some ⟨b, 0, none⟩)) := hx2.cell 0
 have HF2 := Lib.hid (HF1.out.trans' hf2)
 have HX2 := Lib.hid hx2
 have HS2 := Lib.hid hs2
 clear x1 hx2 hf2 hs2
 cases r with
 | false =>
  have hq2 : q2 = q := HQ2.out
  subst hq2
  have ho := HO.out
  rw [Bool.false_and] at ho
  subst ho
  have hqe := HQ.out
  rw [if_neg (by decide)] at hqe
  subst hqe
  have HBB := Lib.hid (HBA.out q' q' w2 HS2.out hle)
  go_wp2_with fail
  refine HBB.out.mono ?_
  rintro e w3 ⟨rfl, hs3, hf3⟩
  go_wp2_with fail
  go_ret
  exact ⟨rfl, hs3, HF2.out.trans' hf3⟩
 | true =>
  have hq2 : q2 = q + T.size := HQ2.out
  subst hq2
  have ho := HO.out
  rw [Bool.true_and] at ho
  have HKK := Lib.hid (HK.out (q + T.size) w2 HS2.out)
  have HLL := Lib.hid (fun w => HL.out (q + T.size) w)
  generalize peekOf rs (q + T.size) = pk at *
  generalize letterOf pk = lt at *
  have HO2 := Lib.hid ho
  clear ho
  go_wp2_with fail
  refine HKK.out.mono ?_
  rintro e w3 ⟨rfl, hf3⟩
  have hx3 := HX2.out.fr hf3 (fun h => h)
  have x3 : w3.cell? ⟨w.heap.size, 0, none⟩ = some (.pointer (some ⟨b, 0, none⟩)) := hx3.cell 0
  have HF3 := Lib.hid (HF2.out.trans hf3 (fun _ _ h => h.elim))
  have HS3 := Lib.hid (HS2.out.frF hf3)
  clear x2 hx3 hf3
  go_wp2_with fail
  refine (HLL.out _).mono ?_
  rintro e w3' ⟨rfl, rfl⟩
  cases lt with
  | false =>
   have ho : o = true := HO2.out
   subst ho
   have hqe := HQ.out
   rw [if_pos rfl] at hqe
   subst hqe
   go_wp2_with fail
   go_ret
   exact ⟨rfl, HS3.out, HF3.out⟩
  | true =>
   have ho : o = false := HO2.out
   subst ho
   have hqe := HQ.out
   rw [if_neg (by decide)] at hqe
   subst hqe
   have HBB := Lib.hid (HBA.out (q' + T.size) q' _ HS3.out hle)
   go_wp2_with fail
   refine HBB.out.mono ?_
   rintro e w4 ⟨rfl, hs4, hf4⟩
   go_wp2_with fail
   go_ret
   exact ⟨rfl, hs4, HF3.out.trans' hf4⟩

theorem nextsign_sc (b c p : Nat) (A : Option Addr) (rs : List Int) (w : World) (h : Sc w b A c rs p) :
    Calls Tryz.prog 44 #[.agg #[.pointer (some ⟨b, 0, none⟩)]] w (ScPost w b A c rs (skip rs [0] p) (.int .i32 (peekOf rs (skip rs [0] p)))) := by
 have hf : Fr (fun _ => False) w (w.alloc (.cells #[.pointer (some ⟨b, 0, none⟩)] 89)) := (Fr.refl _ _).alloc _
 have HB := Lib.hid (blanks_sc b c p A rs _ (h.frF hf))
 have HK := Lib.hid (fun q w1 h1 => peek_sc b c q A rs w1 h1)
 have HX := Lib.hid (Blk.new w 89 #[.pointer (some ⟨b, 0, none⟩)])
 have HF := Lib.hid hf
 have hbl := h.blk.lt
 generalize skip rs [0] p = q at *
 obtain ⟨pk, hpk⟩ : ∃ pk, pk = peekOf rs q := ⟨_, rfl⟩
 have HPK := Lib.hid hpk
 rw [← hpk]
 clear h hf hpk
 go_enter Tryz.func44, Tryz.ntmps44
 go_wp2_with fail
 refine HB.out.mono ?_
 rintro e w1 ⟨⟨k, rfl⟩, hs1, hf1⟩
 have hx1 := box_keep HX.out hbl hf1
 have x1 : w1.cell? ⟨w.heap.size, 0, none⟩ = some (.pointer (some ⟨b, 0, none⟩)) := hx1.cell 0
 have HKK := Lib.hid (HK.out q w1 hs1)
 rw [← HPK.out] at HKK
 have HS1 := Lib.hid hs1
 have HF1 := Lib.hid ((HF.out.mono (T := fun j => j = b) (fun _ _ h => h.elim)).trans' hf1)
 clear hx1 hs1 hf1
 go_wp2_with fail
 refine HKK.out.mono ?_
 rintro e w2 ⟨rfl, hf2⟩
 go_wp2_with fail
 go_ret
 exact ⟨rfl, HS1.out.frF hf2, HF1.out.trans hf2 (fun _ _ h => h.elim)⟩

theorem need_sc (T : ByteArray) (b c p q : Nat) (A : Option Addr) (rs : List Int) (w : World) (hT : Ascii T) (hsz : T.size ≤ 100) (hw : wordAt rs p T = true) (hq : wordTo rs p T = q) (h : Sc w b A c rs p) :
    Calls Tryz.prog 39 #[.agg #[.pointer (some ⟨b, 0, none⟩)], .string T] w (ScPost w b A c rs q (.tuple #[])) := by
 have hf : Fr (fun _ => False) w (w.alloc (.cells #[.pointer (some ⟨b, 0, none⟩)] 89)) := (Fr.refl _ _).alloc _
 have HW := Lib.hid (word_sc T b c p A rs _ hT hsz (h.frF hf))
 have HF := Lib.hid hf
 rw [hw, hq] at HW
 clear h hf hw hq
 go_enter Tryz.func39, Tryz.ntmps39
 go_wp2_with fail
 refine HW.out.mono ?_
 rintro e w1 ⟨rfl, hs1, hf1⟩
 go_wp2_with fail
 go_end0
 exact ⟨rfl, hs1, (HF.out.mono (fun _ _ h => h.elim)).trans' hf1⟩

theorem must_sc (T : ByteArray) (b c p q : Nat) (A : Option Addr) (rs : List Int) (w : World) (hT : Ascii T) (hsz : T.size ≤ 100) (hw : markAt rs p T = true) (hq : markTo rs p T = q) (h : Sc w b A c rs p) :
    Calls Tryz.prog 76 #[.agg #[.pointer (some ⟨b, 0, none⟩)], .string T] w (ScPost w b A c rs q (.tuple #[])) := by
 have hf : Fr (fun _ => False) w (w.alloc (.cells #[.pointer (some ⟨b, 0, none⟩)] 89)) := (Fr.refl _ _).alloc _
 have HW := Lib.hid (mark_sc T b c p A rs _ hT hsz (h.frF hf))
 have HF := Lib.hid hf
 rw [hw, hq] at HW
 clear h hf hw hq
 go_enter Tryz.func76, Tryz.ntmps76
 go_wp2_with fail
 refine HW.out.mono ?_
 rintro e w1 ⟨rfl, hs1, hf1⟩
 go_wp2_with fail
 go_end0
 exact ⟨rfl, hs1, (HF.out.mono (fun _ _ h => h.elim)).trans' hf1⟩

theorem one_stay {rs : List Int} {p q : Nat} {T : ByteArray} (h : wordAt rs p T = false) (hq : skip rs [0] p = q) : wordTo rs p T = q := by
 unfold wordTo
 rw [h]
 simpa using hq

theorem one_sc (Ts : List ByteArray) (k : Nat) (b c p B : Nat) (A N : Option Addr) (nc : Nat) (rs : List Int) (w : World) (hT : ∀ T, T ∈ Ts → Ascii T ∧ T.size ≤ 100) (hn : Ts.length ≤ 100) (hk : k < Ts.length)
    (hskip : skip rs [0] (skip rs [0] p) = skip rs [0] p)
    (hno : ∀ j, j < k → wordAt rs p (Ts.getD j ByteArray.empty) = false ∧ wordAt rs (skip rs [0] p) (Ts.getD j ByteArray.empty) = false)
    (hyes : wordAt rs p (Ts.getD k ByteArray.empty) = true ∧ wordAt rs (skip rs [0] p) (Ts.getD k ByteArray.empty) = true) (q : Nat) (hq : wordTo rs p (Ts.getD k ByteArray.empty) = q ∧ wordTo rs (skip rs [0] p) (Ts.getD k ByteArray.empty) = q)
    (h : Sc w b A c rs p) (hr : w.ownsRow B 9 1 (.slice N Ts.length nc) Ts.length (Ts.map .string)) :
    Calls Tryz.prog 40 #[.agg #[.pointer (some ⟨b, 0, none⟩)], .slice N Ts.length nc] w (ScPost w b A c rs q (.string (Ts.getD k ByteArray.empty))) := by
 have hf : Fr (fun _ => False) w (w.alloc (.cells #[.pointer (some ⟨b, 0, none⟩)] 89)) := (Fr.refl _ _).alloc _
 have HW := Lib.hid (fun j q1 w1 (hj : j < Ts.length) h1 => word_sc (Ts.getD j ByteArray.empty) b c q1 A rs w1 (hT _ (by rw [List.getD_eq_getElem?_getD, List.getElem?_eq_getElem hj]; exact List.getElem_mem hj)).1 (hT _ (by rw [List.getD_eq_getElem?_getD, List.getElem?_eq_getElem hj]; exact List.getElem_mem hj)).2 h1)
 have HX := Lib.hid (Blk.new w 89 #[.pointer (some ⟨b, 0, none⟩)])
 have HF := Lib.hid hf
 have HR := Lib.hid hr
 have HS := Lib.hid h
 have HNO := Lib.hid hno
 have HYES := Lib.hid hyes
 have HQ := Lib.hid hq
 have HSK := Lib.hid hskip
 have hbl := h.blk.lt
 obtain ⟨N0, rfl, _, _, _⟩ := row_form hr (by omega)
 clear h hf hr hno hyes hq hskip
 go_enter Tryz.func40, Tryz.ntmps40
 go_wp2_with fail
 go_loopw [9] (fun iv wr => ∃ (j q1 : Nat), iv = .int .i64 (j : Int) ∧ j ≤ k ∧ (q1 = p ∨ q1 = skip rs [0] p) ∧ Sc wr b A c rs q1 ∧ Blk wr w.heap.size 89 #[.pointer (some ⟨b, 0, none⟩)] ∧ Fr (fun i => i = b) (w.alloc (.cells #[.pointer (some ⟨b, 0, none⟩)] 89)) wr) (fun iv _ => Ts.length - (intOf iv).toNat)
 case atStart => exact ⟨0, p, rfl, Nat.zero_le _, .inl rfl, HS.out.frF HF.out, HX.out, Fr.refl _ _⟩
 case round =>
  obtain ⟨j, q1, rfl, hj, hq1, hs, hx, hfr⟩ := hrel
  have hlt : (j : Int) < (Ts.length : Int) := by omega
  have hrr := ownsRow_fr (HR.out.alloc (.cells #[.pointer (some ⟨b, 0, none⟩)] 89)) hfr (fun i hi e => own_blk_ne HR.out HS.out.blk (by decide) (by rw [hi, e]))
  have cc := str_cell hrr j (by omega)
  have x0 : wr.cell? ⟨w.heap.size, 0, none⟩ = some (.pointer (some ⟨b, 0, none⟩)) := hx.cell 0
  have HWW := Lib.hid (HW.out j q1 wr (by omega) hs)
  have HFR := Lib.hid hfr
  have HXX := Lib.hid hx
  clear hrr hs hx hfr
  by_cases hjk : j = k
  · subst hjk
    have hyy : wordAt rs q1 (Ts.getD j ByteArray.empty) = true := by rcases hq1 with rfl | rfl; exact HYES.out.1; exact HYES.out.2
    have hqq : wordTo rs q1 (Ts.getD j ByteArray.empty) = q := by rcases hq1 with rfl | rfl; exact HQ.out.1; exact HQ.out.2
    rw [hyy, hqq] at HWW
    clear hyy hqq
    generalize hT0 : Ts.getD j ByteArray.empty = T at *
    clear hT0
    go_wp2_with fail
    refine HWW.out.mono ?_
    rintro e w1 ⟨rfl, hs1, hf1⟩
    go_wp2_with fail
    go_ret
    exact ⟨rfl, hs1, ((HF.out.mono (fun _ _ h => h.elim)).trans' HFR.out).trans' hf1⟩
  · have hlt2 : j < k := by omega
    have hnn : wordAt rs q1 (Ts.getD j ByteArray.empty) = false := by rcases hq1 with rfl | rfl; exact (HNO.out j hlt2).1; exact (HNO.out j hlt2).2
    have hqq : wordTo rs q1 (Ts.getD j ByteArray.empty) = skip rs [0] p := one_stay hnn (by rcases hq1 with rfl | rfl; rfl; exact HSK.out)
    rw [hnn, hqq] at HWW
    have HQE := Lib.hid (show ∃ q2, q2 = skip rs [0] p from ⟨_, rfl⟩)
    clear hnn hqq hq1
    generalize hT0 : Ts.getD j ByteArray.empty = T at *
    clear hT0
    go_wp2_with fail
    refine HWW.out.mono ?_
    rintro e w1 ⟨rfl, hs1, hf1⟩
    have HS1 := Lib.hid hs1
    have HX1 := Lib.hid (box_keep HXX.out hbl hf1)
    have HF1 := Lib.hid (HFR.out.trans' hf1)
    clear hs1 hf1
    go_wp2_with fail
    go_roundw
    case rel => exact ⟨j + 1, _, by go_num, by omega, .inr rfl, HS1.out, HX1.out, HF1.out⟩
    case measure => simp only [intOf]; omega

end Go.Proofs.YtagchljgmjmlcaaGreatDoor
