/- Texts of the proof, one behind the other: Rf, Rg, Rh, Ia. -/
import Derived.Test.YtagchljgmjmlcaaGreatDoorXn
import Derived.Test.YtagchljgmjmlcaaGreatDoorXg
import Derived.Deep.CutBlock
import Derived.Deep.RegionLawGrows
import Derived.Deep.Cut
import Derived.Deep.CutRange
import Derived.WalkKit
import Derived.WalkLawsBesides
import Derived.WalkSpells
import Derived.Deep.QuietTactic
import Derived.BigRegion
import Derived.BigQuiet
import Derived.Lib.Hide
import Derived.Outline
import Derived.Deep.AppendLies
import Derived.Deep.RegionLaw
import Derived.Deep.RegionWith
import Derived.Deep.RegionHeld3
import Derived.Deep.LoopGhost
import Derived.Deep.DeepFit
import Derived.Laws.ResultCell
import Derived.Laws.RangeAny
import Derived.Deep.MidRow
import Derived.StillTailTactics
import Derived.OpenShut
import Derived.Lib.ParseIntBCases
import Derived.Lib.ItoaMem
namespace Go.Proofs.YtagchljgmjmlcaaGreatDoor
set_option linter.unusedVariables false
open Go.RowKit Go
set_option maxRecDepth 100000
set_option maxHeartbeats 40000000

theorem slice_sg (d : Nat) (h : d < 3) : ∀ w, (Instr.slice 9 (.string ⟨#[42, 43, 126]⟩) (some (.int .i64 (d : Int))) (some (.int .i64 ((d : Int) + 1))) none).run Tryz.prog w = .ok (.string ⟨#[oftenX (d + 4)]⟩) w := by
 have h5 : d = 0 ∨ d = 1 ∨ d = 2 := by omega
 rcases h5 with rfl | rfl | rfl
 all_goals (intro w; kernel_rfl)
theorem often_no {rs : List Int} {q : Nat} (h : ∀ j, j < 3 → markAt rs q ⟨#[oftenX (j + 4)]⟩ = false) : oftenP rs q = 0 := by
 unfold oftenP mk1
 rw [show markAt rs q ⟨#[42]⟩ = false from h 0 (by decide), show markAt rs q ⟨#[43]⟩ = false from h 1 (by decide), show markAt rs q ⟨#[126]⟩ = false from h 2 (by decide)]
 rfl
theorem often_yes {rs : List Int} {q k : Nat} (hk : k < 3) (h : ∀ j, j < k → markAt rs q ⟨#[oftenX (j + 4)]⟩ = false) (h1 : markAt rs q ⟨#[oftenX (k + 4)]⟩ = true) : oftenP rs q = k + 4 := by
 unfold oftenP mk1
 have h5 : k = 0 ∨ k = 1 ∨ k = 2 := by omega
 rcases h5 with rfl | rfl | rfl
 · rw [show markAt rs q ⟨#[42]⟩ = true from h1]
   rfl
 · rw [show markAt rs q ⟨#[42]⟩ = false from h 0 (by decide), show markAt rs q ⟨#[43]⟩ = true from h1]
   rfl
 · rw [show markAt rs q ⟨#[42]⟩ = false from h 0 (by decide), show markAt rs q ⟨#[43]⟩ = false from h 1 (by decide), show markAt rs q ⟨#[126]⟩ = true from h1]
   rfl
theorem PAt.one {w : World} {B : Nat} {t : PT} {a b d : Value} (k : Int) (h : PAt 39 w B t [a, b, d]) {A : Option Addr} {c : Nat} (hr : w.ownsRow B 39 3 (.slice A 1 c) 1 [a, b, d]) : PAt 39 w B (.node k [t]) [.int .i64 k, .string ⟨#[]⟩, .slice A 1 c] :=
 .node k [t] A c [[a, b, d]] rfl (fun i t' l h1 h2 => by
  cases i with
  | zero =>
   injection h1 with h1
   injection h2 with h2
   rw [← h1, ← h2]
   exact h
  | succ i => cases h1) hr

theorem rstep_any (P : Nat → PT → Nat → Nat → Prop) (F : Nat → Prop) (g c p : Nat) (rs : List Int) (w : World) (hl : rs.length ≤ 8100) (hv : ∀ r, r ∈ rs → signR r = true) (hp : p ≤ rs.length) (h : Ls w g c rs)
    (HA : ∀ (w1 : World), Ls w1 g c rs → Calls Tryz.prog 192 #[.slice (some ⟨g, 0, none⟩) rs.length c, .int .i64 (p : Int)] w1 (PathPost rs (AtomP rs P) F p w1)) :
    Calls Tryz.prog 170 #[.slice (some ⟨g, 0, none⟩) rs.length c, .int .i64 (p : Int)] w (PathPost rs (StepP rs P) F p w) := by
 have f0 : Fr (fun _ => False) w (w.alloc (.cells #[.int .i64 0, .string ⟨#[]⟩, .slice none 0 0] 39)) := (Fr.refl _ _).alloc _
 have hb := Blk.new w 39 #[.int .i64 0, .string ⟨#[]⟩, .slice none 0 0]
 have HB := Lib.hid (show Blk (w.alloc (.cells #[.int .i64 0, .string ⟨#[]⟩, .slice none 0 0] 39)) w.heap.size 39 zero39.toArray from hb)
 have HF := Lib.hid f0
 have hs := h.frF f0
 have HS := Lib.hid hs
 have HAA := Lib.hid (HA _ hs)
 have HMN := Lib.hid (fun T w1 => rmark_neg T (.slice (some ⟨g, 0, none⟩) rs.length c) w1)
 have HMQ := Lib.hid (fun x q w1 (hq : q ≤ rs.length) h1 => rmark_any ⟨#[x]⟩ g c q rs w1 (show (1:Nat) ≤ 100 by decide) hl hv hq h1)
 unfold mkI at HMQ
 unfold PathPost at HAA
 clear h hs hb f0 hv HA
 go_enter Tryz.func170, Tryz.ntmps170
 go_wp2_with fail
 refine HAA.out.mono ?_
 rintro e w2 ⟨hc, hf2⟩
 generalize w.alloc (.cells #[.int .i64 0, .string ⟨#[]⟩, .slice none 0 0] 39) = w0 at *
 have hw0 := HB.out.lt
 have hsz2 := hf2.size
 have HB2 := Lib.hid (HB.out.fr hf2 (fun h => h))
 have HF2 := Lib.hid (HF.out.trans' hf2)
 have HS2 := Lib.hid (HS.out.frF hf2)
 clear hf2
 unfold PFail POk at hc
 rcases hc with ⟨k, i, A, n, cc, d, hno, hd, rfl⟩ | ⟨t, k, i, A, n, cc, q, d, hPt, hdq, hq, hd1, hpa, rfl⟩
 · have hf3 : Fr (fun _ => False) w2 (w2.alloc (.cells #[.int .i64 k, .string i, .slice A n cc] 39)) := (Fr.refl _ _).alloc _
   have HB3 := Lib.hid (HB2.out.fr hf3 (fun h => h))
   have HF3 := Lib.hid ((HF2.out.trans' hf3).mono (T := fun j => w.heap.size ≤ j) (fun _ _ h => h.elim))
   have HT3 := Lib.hid (Blk.new w2 39 #[.int .i64 k, .string i, .slice A n cc])
   have HNN := Lib.hid hno
   clear hf3 hno
   go_wp2_with fail
   generalize w2.alloc (.cells #[.int .i64 k, .string i, .slice A n cc] 39) = w3 at *
   go_loopg [11, 12] (3) (fun gk a b wr => ∃ j : Nat, a = .int .i64 (j : Int) ∧ 3 ≤ j + gk ∧ j ≤ 3 ∧ w3 = wr)
   case atStart => exact ⟨0, rfl, by omega, by omega, rfl⟩
   case round =>
    obtain ⟨j, rfl, hg, hj, rfl⟩ := hrel
    by_cases hj3 : j < 3
    · have hsl := slice_sg j hj3
      have HN := Lib.hid (HMN.out ⟨#[oftenX (j + 4)]⟩ w3)
      generalize oftenX (j + 4) = x at *
      go_wp2_with fail
      refine HN.out.mono ?_
      rintro e w4 ⟨rfl, rfl⟩
      go_wp2_with fail
      go_roundg (3 - (j + 1))
      case measure => omega
      case rel => exact ⟨j + 1, rfl, by omega, by omega, rfl⟩
    · obtain rfl : j = 3 := by omega
      have c0 := HT3.out.cell 0
      have c1 := HT3.out.cell 1
      have c2 := HT3.out.cell 2
      simp only [List.getElem?_toArray, List.getElem?_cons_zero, List.getElem?_cons_succ] at c0 c1 c2
      have hst := Blk.setAll (vs := [.int .i64 k, .string i, .slice A n cc]) (old := zero39) HB3.out rfl
      have HTH := Lib.hid (Blk.there (cs := zero39) HB3.out (n := 3) rfl)
      have HST := Lib.hid hst.1
      have HFF := Lib.hid ((HF3.out.trans hst.2 (fun j hj e => by omega)).shut (Nat.le_refl _))
      have hl3 := HB3.out.lt
      clear hst
      go_wp2_with (refine wpList_store_mid rfl 39 _ _ rfl _ _ _ rfl rfl HTH.out inf39 (one39 _ _ _ _ _) ?_)
      exact bodyPost_ret (v := .tuple #[pv k i A n cc, .int .i64 (-1), .int .i64 (d : Int)]) (results_e3 rfl _ _ w.heap.size 39 _ (0, 0) _ rfl HST.out Tryz.underlying39 rfl (by kernel_rfl) _ _ rfl rfl) rfl ⟨.inl ⟨_, _, _, _, _, d, HNN.out, hd, rfl⟩, HFF.out⟩
 · have hf3 : Fr (fun _ => False) w2 (w2.alloc (.cells #[.int .i64 k, .string i, .slice A n cc] 39)) := (Fr.refl _ _).alloc _
   have HB3 := Lib.hid (HB2.out.fr hf3 (fun h => h))
   have HF3 := Lib.hid ((HF2.out.trans' hf3).mono (T := fun j => w.heap.size ≤ j) (fun _ _ h => h.elim))
   have HT3 := Lib.hid (Blk.new w2 39 #[.int .i64 k, .string i, .slice A n cc])
   have HS3 := Lib.hid (HS2.out.frF hf3)
   have HPA := Lib.hid (hpa.frF hf3)
   have HPT := Lib.hid hPt
   have hsz3 := hf3.size
   clear hf3 hpa hPt HMN
   go_wp2_with fail
   generalize w2.alloc (.cells #[.int .i64 k, .string i, .slice A n cc] 39) = w3 at *
   go_loopg [11, 12] (3) (fun gk a b wr => ∃ j : Nat, a = .int .i64 (j : Int) ∧ 3 ≤ j + gk ∧ j ≤ 3 ∧ (∀ m, m < j → markAt rs q ⟨#[oftenX (m + 4)]⟩ = false) ∧ w3 = wr)
   case atStart => exact ⟨0, rfl, by omega, by omega, fun m hm => absurd hm (Nat.not_lt_zero _), rfl⟩
   case round =>
    obtain ⟨j, rfl, hg, hj, hall, rfl⟩ := hrel
    have HALL := Lib.hid hall
    clear hall
    have c0 := HT3.out.cell 0
    have c1 := HT3.out.cell 1
    have c2 := HT3.out.cell 2
    simp only [List.getElem?_toArray, List.getElem?_cons_zero, List.getElem?_cons_succ] at c0 c1 c2
    by_cases hj3 : j < 3
    · have hsl := slice_sg j hj3
      have hmq := HMQ.out (oftenX (j + 4)) q w3 hq HS3.out
      cases hm : markAt rs q ⟨#[oftenX (j + 4)]⟩ with
      | false =>
       rw [hm, if_neg Bool.false_ne_true] at hmq
       have HN := Lib.hid hmq
       have HM := Lib.hid hm
       clear hmq hm
       generalize oftenX (j + 4) = x at hsl HN
       go_wp2_with fail
       refine HN.out.mono ?_
       rintro e w4 ⟨rfl, rfl⟩
       go_wp2_with fail
       go_roundg (3 - (j + 1))
       case measure => omega
       case rel => exact ⟨j + 1, rfl, by omega, by omega, fun m hm => by
        by_cases e : m = j
        · rw [e]
          exact HM.out
        · exact HALL.out m (by omega), rfl⟩
      | true =>
       have ho := often_yes hj3 HALL.out hm
       have HSP := Lib.hid (StepP.often (rs := rs) (P := P) p t q d HPT.out (by rw [ho]; omega))
       have hmi := (mark_in hm hq).2
       rw [ho] at HSP
       rw [show ((j + 4 : Nat) : Int) = (4 : Int) + (j : Int) from by omega] at HSP
       unfold mk1 at HSP
       rw [hm, if_pos rfl] at hmq
       generalize markTo rs q ⟨#[oftenX (j + 4)]⟩ = q2 at *
       have HN := Lib.hid hmq
       have hq2 : (0 : Int) ≤ (q2 : Int) := by omega
       have HROW := Lib.hid (World.ownsRow_lit (base := w0.heap.size) (e := 39) (size := 3) w3 #[.int .i64 k, .string i, .slice A n cc] 1 (by omega) (by decide) rfl)
       have hf4 : Fr (fun _ => False) w3 (w3.alloc (.cells #[.int .i64 k, .string i, .slice A n cc] 39)) := (Fr.refl _ _).alloc _
       have hj4 : ((j + 4 : Nat) : Int) = (4 : Int) + (j : Int) := by omega
       have HP4 := Lib.hid (PAt.one ((4 : Int) + (j : Int)) (HPA.out.frF hf4) HROW.out)
       have hb4 := HB3.out.fr hf4 (fun h => h)
       have HTH := Lib.hid (Blk.there (cs := zero39) hb4 (n := 3) rfl)
       have hst := Blk.setAll (vs := [.int .i64 ((4 : Int) + (j : Int)), .string ⟨#[]⟩, .slice (some ⟨w3.heap.size, 0, none⟩) 1 1]) (old := zero39) hb4 rfl
       have HST := Lib.hid hst.1
       have HPZ := Lib.hid ((HP4.out.frN hw0 hst.2).base (Nat.le_of_lt hw0))
       have HFF := Lib.hid (((HF3.out.trans hf4 (fun _ _ h => h.elim)).trans hst.2 (fun j hj e => by omega)).shut (Nat.le_refl _))
       have hl4 := hb4.lt
       have hl3 := HB3.out.lt
       clear hmq hm ho hst hf4 hb4 hj4
       generalize oftenX (j + 4) = x at *
       go_wp2_with fail
       refine HN.out.mono ?_
       rintro e w4 ⟨rfl, rfl⟩
       go_wp2_with (refine wpList_store_mid rfl 39 _ _ rfl _ _ _ rfl rfl HTH.out inf39 (one39 _ _ _ _ _) ?_)
       exact bodyPost_ret (v := .tuple #[pv ((4 : Int) + (j : Int)) ⟨#[]⟩ (some ⟨w3.heap.size, 0, none⟩) 1 1, .int .i64 (q2 : Int), .int .i64 ((d : Int) + 1)]) (results_e3 rfl _ _ w.heap.size 39 _ (0, 0) _ rfl HST.out Tryz.underlying39 rfl (by kernel_rfl) _ _ rfl rfl) rfl ⟨.inr ⟨.node _ [t], _, _, _, _, _, q2, d + 1, HSP.out, by omega, hmi.2, by omega, HPZ.out, rfl⟩, HFF.out⟩
    · obtain rfl : j = 3 := by omega
      have HSP := Lib.hid (StepP.plain (rs := rs) (P := P) p t q d HPT.out (often_no HALL.out))
      have hst := Blk.setAll (vs := [.int .i64 k, .string i, .slice A n cc]) (old := zero39) HB3.out rfl
      have HTH := Lib.hid (Blk.there (cs := zero39) HB3.out (n := 3) rfl)
      have HST := Lib.hid hst.1
      have HPZ := Lib.hid ((HPA.out.frN hw0 hst.2).base (Nat.le_of_lt hw0))
      have HFF := Lib.hid ((HF3.out.trans hst.2 (fun j hj e => by omega)).shut (Nat.le_refl _))
      have hl3 := HB3.out.lt
      clear hst
      go_wp2_with (refine wpList_store_mid rfl 39 _ _ rfl _ _ _ rfl rfl HTH.out inf39 (one39 _ _ _ _ _) ?_)
      exact bodyPost_ret (v := .tuple #[pv k i A n cc, .int .i64 (q : Int), .int .i64 (d : Int)]) (results_e3 rfl _ _ w.heap.size 39 _ (0, 0) _ rfl HST.out Tryz.underlying39 rfl (by kernel_rfl) _ _ rfl rfl) rfl ⟨.inr ⟨t, _, _, _, _, _, q, d, HSP.out, hdq, hq, hd1, HPZ.out, rfl⟩, HFF.out⟩

/-- The same with its blocks named by a predicate. -/
inductive PBt (ty : TypeId) (w : World) (S : Nat → Prop) : PT → List Value → Prop
 | leaf (k : Int) (i : ByteArray) : PBt ty w S (.leaf k i) [.int .i64 k, .string i, .slice none 0 0]
 | node (k : Int) (ts : List PT) (A : Option Addr) (c : Nat) (L : List (List Value)) (hL : L.length = ts.length) (hp : ∀ (i : Nat) t l, ts[i]? = some t → L[i]? = some l → PBt ty w S t l) (hr : w.ownsRow 0 ty 3 (.slice A ts.length c) ts.length L.flatten) (hS : ∀ g, (Value.slice A ts.length c).ownBlock = some g → S g) :
  PBt ty w S (.node k ts) [.int .i64 k, .string ⟨#[]⟩, .slice A ts.length c]
theorem PBt.fr {ty : TypeId} {w w' : World} {S T : Nat → Prop} (hf : Fr T w w') (hS : ∀ j, S j → ¬ T j) {t : PT} {l : List Value} (h : PBt ty w S t l) : PBt ty w' S t l := by
 induction h with
 | leaf k i => exact .leaf k i
 | node k ts A c L hL hp hr hs ih => exact .node k ts A c L hL ih (ownsRow_fr hr hf fun j hj => hS j (hs j hj)) hs
theorem PBt.imp {ty : TypeId} {w : World} {S S' : Nat → Prop} (hS : ∀ j, j < w.heap.size → S j → S' j) {t : PT} {l : List Value} (h : PBt ty w S t l) : PBt ty w S' t l := by
 induction h with
 | leaf k i => exact .leaf k i
 | node k ts A c L hL hp hr hs ih => exact .node k ts A c L hL ih hr fun j hj => hS j (World.ownsRow.lt hr _ hj).2 (hs j hj)
theorem PAt.toB {ty : TypeId} {w : World} {B : Nat} {t : PT} {l : List Value} (h : PAt ty w B t l) : PBt ty w (fun j => B ≤ j) t l := by
 induction h with
 | leaf k i => exact .leaf k i
 | node k ts A c L hL hp hr ih =>
  refine .node k ts A c L hL ih (ownsRow_base hr (Nat.zero_le _)) fun j hj => ?_
  rcases hr.2 with ⟨h0, _⟩ | ⟨gg, cap, cur, hv, hbg, _⟩
  · rw [h0] at hj
    cases hj
  · rw [hv] at hj
    injection hj with hj
    subst hj
    exact hbg
theorem ownsRow_up {w : World} {B e size n : Nat} {v : Value} {xs : List Value} (h : w.ownsRow 0 e size v n xs) (hB : ∀ g, v.ownBlock = some g → B ≤ g) : w.ownsRow B e size v n xs := by
 refine ⟨h.1, ?_⟩
 rcases h.2 with hn | ⟨g, cap, cur, rfl, hb, rest⟩
 · exact .inl hn
 · exact .inr ⟨g, cap, cur, rfl, hB g rfl, rest⟩
theorem PBt.toA {ty : TypeId} {w : World} {S : Nat → Prop} {B : Nat} (hS : ∀ j, S j → B ≤ j) {t : PT} {l : List Value} (h : PBt ty w S t l) : PAt ty w B t l := by
 induction h with
 | leaf k i => exact .leaf k i
 | node k ts A c L hL hp hr hs ih => exact .node k ts A c L hL ih (ownsRow_up hr fun g hg => hS g (hs g hg))
/-- A path's parts, one behind the other. -/
structure Parts (w : World) (B : Nat) (v : Value) (ts : List PT) (L : List (List Value)) : Prop where
 len : L.length = ts.length
 each : ∀ (i : Nat) t l, ts[i]? = some t → L[i]? = some l → PBt 39 w (fun j => B ≤ j ∧ v.ownBlock ≠ some j) t l
 row : w.ownsRow B 39 3 v ts.length L.flatten
theorem Parts.frF {w w' : World} {B : Nat} {v : Value} {ts : List PT} {L : List (List Value)} (h : Parts w B v ts L) (hf : Fr (fun _ => False) w w') : Parts w' B v ts L :=
 ⟨h.len, fun i t l h1 h2 => (h.each i t l h1 h2).fr hf (fun _ _ h => h), ownsRow_fr h.row hf (fun _ _ h => h)⟩
theorem Parts.first {w : World} {B : Nat} {t : PT} {a b d : Value} (h : PAt 39 w B t [a, b, d]) (hB : B ≤ w.heap.size) : Parts (w.alloc (.cells #[a, b, d] 39)) B (.slice (some ⟨w.heap.size, 0, none⟩) 1 1) [t] [[a, b, d]] := by
 refine ⟨rfl, fun i t' l h1 h2 => ?_, World.ownsRow_lit (base := B) (e := 39) (size := 3) w #[a, b, d] 1 hB (by decide) rfl⟩
 cases i with
 | zero =>
  injection h1 with h1
  injection h2 with h2
  rw [← h1, ← h2]
  exact (h.toB.imp (S' := fun j => B ≤ j ∧ (Value.slice (some ⟨w.heap.size, 0, none⟩) 1 1).ownBlock ≠ some j) (fun j hj hb => ⟨hb, fun e => by injection e with e; have e : w.heap.size = j := e; omega⟩)).fr ((Fr.refl (fun _ => False) w).alloc _) (fun _ _ h => h)
 | succ i => cases h1
theorem Parts.push {w w' : World} {B g c : Nat} {v : Value} {ts : List PT} {L : List (List Value)} {t : PT} {l : List Value} (h : Parts w B v ts L) (ht : PBt 39 w (fun j => B ≤ j ∧ v.ownBlock ≠ some j) t l)
    (hr : w'.ownsRow B 39 3 (.slice (some ⟨g, 0, none⟩) (ts.length + 1) c) (ts.length + 1) (L.flatten ++ l)) (hg : w.grownBy w' v.ownBlock) (hor : v.ownBlock = some g ∨ g = w.heap.size) : Parts w' B (.slice (some ⟨g, 0, none⟩) (ts.length + 1) c) (ts ++ [t]) (L ++ [l]) := by
 have hK : ∀ t l, PBt 39 w (fun j => B ≤ j ∧ v.ownBlock ≠ some j) t l → PBt 39 w' (fun j => B ≤ j ∧ (Value.slice (some ⟨g, 0, none⟩) (ts.length + 1) c).ownBlock ≠ some j) t l := fun t l h => by
  have h1 := h.imp (S' := fun j => B ≤ j ∧ (Value.slice (some ⟨g, 0, none⟩) (ts.length + 1) c).ownBlock ≠ some j ∧ v.ownBlock ≠ some j) (fun j hj hb => ⟨hb.1, fun e => by
   injection e with e
   have e : g = j := e
   rcases hor with h2 | h2
   · exact hb.2 (by rw [h2, e])
   · omega, hb.2⟩)
  refine PBt.imp (S := fun j => B ≤ j ∧ (Value.slice (some ⟨g, 0, none⟩) (ts.length + 1) c).ownBlock ≠ some j ∧ v.ownBlock ≠ some j) (fun j _ hb => ⟨hb.1, hb.2.1⟩) (h1.fr (Fr.of_grown hg) fun j hb => hb.2.2)
 refine ⟨by simp [h.len], fun i t' l' h1 h2 => ?_, by simpa using hr⟩
 by_cases hi : i < ts.length
 · rw [List.getElem?_append_left hi] at h1
   rw [List.getElem?_append_left (by rw [h.len]; exact hi)] at h2
   exact hK _ _ (h.each i t' l' h1 h2)
 · rw [List.getElem?_append_right (by omega)] at h1
   rw [List.getElem?_append_right (by rw [h.len]; omega), h.len] at h2
   generalize i - ts.length = m at h1 h2
   cases m with
   | zero =>
    injection h1 with h1
    injection h2 with h2
    rw [← h1, ← h2]
    exact hK _ _ ht
   | succ m => cases h1
theorem Parts.node {w : World} {B : Nat} {A : Option Addr} {c : Nat} {ts : List PT} {L : List (List Value)} (k : Int) (h : Parts w B (.slice A ts.length c) ts L) : PAt 39 w B (.node k ts) [.int .i64 k, .string ⟨#[]⟩, .slice A ts.length c] :=
 .node k ts A c L h.len (fun i t l h1 h2 => (h.each i t l h1 h2).toA (fun _ hb => hb.1)) h.row
theorem infZ39 : (Tryz.prog.info? 39).map (fun i => (i.zero, i.size, i.bytes)) = some (some (.agg #[.int .i64 0, .string ⟨#[]⟩, .slice none 0 0]), 3, 48) := by kernel_rfl

/-- While all went well. -/
structure SepI (rs : List Int) (x : UInt8) (One : Nat → PT → Nat → Nat → Prop) (g c p : Nat) (w wr : World) (b : Nat) (l0 : List Value) (A : Option Addr) (cp : Nat) (ts : List PT) (L : List (List Value)) (e d : Nat) : Prop where
 run : RunP rs x One p ts e d
 le : e ≤ rs.length
 n : ts.length + p ≤ e
 one : 1 ≤ d
 d1 : d + p ≤ e
 d2 : 2 ≤ ts.length → d + 1 + p ≤ e
 parts : Parts wr (w.heap.size + 1) (.slice A ts.length cp) ts L
 cell : Blk wr w.heap.size 39 zero39.toArray
 own : Blk wr b 39 l0.toArray
 bb : w.heap.size < b
 fr : Fr (fun j => w.heap.size ≤ j) w wr
 ls : Ls wr g c rs
 nb : (Value.slice A ts.length cp).ownBlock ≠ some b
 first : ∀ t, ts = [t] → PAt 39 wr (w.heap.size + 1) t l0
/-- Where one failed. -/
structure SepF (rs : List Int) (N : Prop) (p : Nat) (w wr : World) (b : Nat) (l0 : List Value) (n d : Nat) : Prop where
 no : N
 d1 : n = 1 → d ≤ rs.length - p + 1
 d2 : 2 ≤ n → d ≤ rs.length - p
 cell : Blk wr w.heap.size 39 zero39.toArray
 own : Blk wr b 39 l0.toArray
 bb : w.heap.size < b
 fr : Fr (fun j => w.heap.size ≤ j) w wr
theorem RunP.pos {rs : List Int} {x : UInt8} {One : Nat → PT → Nat → Nat → Prop} {p e d : Nat} {ts : List PT} (h : RunP rs x One p ts e d) : 1 ≤ ts.length := by
 cases h with
 | one => exact Nat.le_refl _
 | more _ _ _ _ _ _ _ _ => simp
theorem post_or {rs : List Int} {P : Nat → PT → Nat → Nat → Prop} {F : Nat → Prop} {p : Nat} {w w' : World} {e : Ending} (h : PathPost rs P F p w e w') : ∃ (k : Int) (i : ByteArray) (A : Option Addr) (n c : Nat) (E : Int) (d : Nat), e = .returned (.tuple #[pv k i A n c, .int .i64 E, .int .i64 (d : Int)]) ∧
    ((E = -1 ∧ d ≤ rs.length - p + 1 ∧ F p) ∨ ∃ (t : PT) (q : Nat), E = (q : Int) ∧ P p t q d ∧ d + p ≤ q ∧ q ≤ rs.length ∧ 1 ≤ d ∧ PAt 39 w' w.heap.size t [.int .i64 k, .string i, .slice A n c]) ∧ Fr (fun _ => False) w w' := by
 obtain ⟨h1, hf⟩ := h
 rcases h1 with ⟨k, i, A, n, cc, d, hno, hd, rfl⟩ | ⟨t, k, i, A, n, cc, q, d, hPt, hdq, hq, hd1, hpa, rfl⟩
 · exact ⟨_, _, _, _, _, _, d, rfl, .inl ⟨rfl, hd, hno⟩, hf⟩
 · exact ⟨_, _, _, _, _, _, d, rfl, .inr ⟨t, q, rfl, hPt, hdq, hq, hd1, hpa⟩, hf⟩

theorem SepI.keep {rs : List Int} {x : UInt8} {One : Nat → PT → Nat → Nat → Prop} {g c p : Nat} {w wr w7 w8 : World} {b : Nat} {l0 : List Value} {A : Option Addr} {cp : Nat} {ts : List PT} {L : List (List Value)} {q d : Nat}
    (h : SepI rs x One g c p w wr b l0 A cp ts L q d) (hf : Fr (fun _ => False) wr w7) (hg : w7.grownBy w8 (Value.slice A ts.length cp).ownBlock) :
    Blk w8 w.heap.size 39 zero39.toArray ∧ Blk w8 b 39 l0.toArray ∧ Fr (fun j => w.heap.size ≤ j) w w8 := by
 have hr := ownsRow_fr h.parts.row hf (fun _ _ h => h)
 refine ⟨(h.cell.fr hf (fun h => h)).fr (Fr.of_grown hg) fun e => ?_, (h.own.fr hf (fun h => h)).fr (Fr.of_grown hg) h.nb, (h.fr.trans hf (fun _ _ h => h.elim)).trans (Fr.of_grown hg) fun k _ e => ?_⟩
 · have := (World.ownsRow.lt hr _ e).1
   omega
 · have := (World.ownsRow.lt hr _ e).1
   omega
theorem SepI.grow {rs : List Int} {x : UInt8} {One : Nat → PT → Nat → Nat → Prop} {g c p : Nat} {w wr w7 w8 : World} {b : Nat} {l0 : List Value} {A : Option Addr} {cp : Nat} {ts : List PT} {L : List (List Value)} {q d g1 cap1 q2 q5 d5 : Nat} {t : PT} {l : List Value}
    (h : SepI rs x One g c p w wr b l0 A cp ts L q d) (hls : Ls w g c rs) (hf : Fr (fun _ => False) wr w7) (hg : w7.grownBy w8 (Value.slice A ts.length cp).ownBlock)
    (ho : w8.ownsRow (w.heap.size + 1) 39 3 (.slice (some ⟨g1, 0, none⟩) (ts.length + 1) cap1) (ts.length + 1) (L.flatten ++ l)) (hor : (Value.slice A ts.length cp).ownBlock = some g1 ∨ g1 = w7.heap.size)
    (hR : RunP rs x One p (ts ++ [t]) q5 (max d d5)) (hlt : q < q2) (h2 : d5 + q2 ≤ q5) (h3 : q5 ≤ rs.length) (h4 : 1 ≤ d5) (ht : PAt 39 w7 wr.heap.size t l) :
    SepI rs x One g c p w w8 b l0 (some ⟨g1, 0, none⟩) cap1 (ts ++ [t]) (L ++ [l]) q5 (max d d5) := by
 obtain ⟨k1, k2, k3⟩ := h.keep hf hg
 have e : (ts ++ [t]).length = ts.length + 1 := by simp
 have hp7 := h.parts.frF hf
 have hn := h.n
 have hd := h.d1
 have hc := h.cell.lt
 have hbl := h.own.lt
 have hpos := h.run.pos
 have hpt := ht.toB.imp (S' := fun j => w.heap.size + 1 ≤ j ∧ (Value.slice A ts.length cp).ownBlock ≠ some j) (fun j _ hj => ⟨by omega, fun ej => by
  have := (World.ownsRow.lt h.parts.row _ ej).2
  omega⟩)
 refine ⟨hR, h3, by rw [e]; omega, by omega, by omega, fun _ => by omega, ?_, k1, k2, h.bb, k3, hls.frF (k3.shut (Nat.le_refl _)), ?_, fun t' e1 => ?_⟩
 · rw [e]
   exact hp7.push hpt ho hg hor
 · intro ej
   injection ej with ej
   have ej : g1 = b := ej
   rcases hor with h5 | h5
   · exact h.nb (by rw [h5, ej])
   · have := hf.size
     omega
 · have : ts.length + 1 = 1 := by rw [← e, e1]; rfl
   omega
theorem SepI.fail {rs : List Int} {x : UInt8} {One : Nat → PT → Nat → Nat → Prop} {g c p : Nat} {w wr w7 w8 : World} {b : Nat} {l0 : List Value} {A : Option Addr} {cp : Nat} {ts : List PT} {L : List (List Value)} {q d q2 d5 : Nat}
    {N : Prop} (hN : N) (h : SepI rs x One g c p w wr b l0 A cp ts L q d) (hf : Fr (fun _ => False) wr w7) (hg : w7.grownBy w8 (Value.slice A ts.length cp).ownBlock) (hlt : q < q2) (hq2 : q2 ≤ rs.length) (h2 : d5 ≤ rs.length - q2 + 1)   : SepF rs N p w w8 b l0 (ts.length + 1) (max d d5) := by
 obtain ⟨k1, k2, k3⟩ := h.keep hf hg
 have hn := h.n
 have hd := h.d1
 have hpos := h.run.pos
 exact ⟨hN, fun _ => by omega, fun _ => by omega, k1, k2, h.bb, k3⟩

theorem rseq_sep (One : Nat → PT → Nat → Nat → Prop) (F : Nat → Prop) (g c p : Nat) (rs : List Int) (w : World) (hl : rs.length ≤ 8100) (hv : ∀ r, r ∈ rs → signR r = true) (hp : p ≤ rs.length) (h : Ls w g c rs)
    (HA : ∀ (p1 : Nat) (w1 : World), p ≤ p1 → p1 ≤ rs.length → Ls w1 g c rs → Calls Tryz.prog 170 #[.slice (some ⟨g, 0, none⟩) rs.length c, .int .i64 (p1 : Int)] w1 (PathPost rs One F p1 w1)) :
    Calls Tryz.prog 151 #[.slice (some ⟨g, 0, none⟩) rs.length c, .int .i64 (p : Int)] w (PathPost rs (SepP rs 47 2 One) (NoSep rs 47 One F) p w) := by
 have f0 : Fr (fun _ => False) w (w.alloc (.cells #[.int .i64 0, .string ⟨#[]⟩, .slice none 0 0] 39)) := (Fr.refl _ _).alloc _
 have hb := Blk.new w 39 #[.int .i64 0, .string ⟨#[]⟩, .slice none 0 0]
 have HB := Lib.hid (show Blk (w.alloc (.cells #[.int .i64 0, .string ⟨#[]⟩, .slice none 0 0] 39)) w.heap.size 39 zero39.toArray from hb)
 have HF := Lib.hid f0
 have hs := h.frF f0
 have HS := Lib.hid hs
 have HAA := Lib.hid (HA p _ (Nat.le_refl _) hp hs)
 have HMN := Lib.hid (fun T w1 => rmark_neg T (.slice (some ⟨g, 0, none⟩) rs.length c) w1)
 have HMQ := Lib.hid (fun q w1 (hq : q ≤ rs.length) h1 => rmark_any ⟨#[47]⟩ g c q rs w1 (show (1:Nat) ≤ 100 by decide) hl hv hq h1)
 have HA1 := Lib.hid HA
 unfold mkI at HMQ
 obtain ⟨i39, hi39, hz1, hz2, hz3⟩ := info_parts infZ39
 have HI := Lib.hid hi39
 have HZ := Lib.hid (And.intro hz1 (And.intro hz2 hz3))
 have HLS := Lib.hid h
 clear h hs hb f0 hv HA hi39 hz1 hz2 hz3
 go_enter Tryz.func151, Tryz.ntmps151
 go_wp2_with fail
 refine HAA.out.mono ?_
 intro e w2 hc
 obtain ⟨k, i, A, n, cc, E, d, rfl, hc, hf2⟩ := post_or hc
 have hz0 : (w.alloc (.cells #[.int .i64 0, .string ⟨#[]⟩, .slice none 0 0] 39)).heap.size = w.heap.size + 1 := by simp
 rw [hz0] at hc
 have hsz2 := hf2.size
 rw [hz0] at hsz2
 have hf3 : Fr (fun _ => False) w2 (w2.alloc (.cells #[.int .i64 k, .string i, .slice A n cc] 39)) := (Fr.refl _ _).alloc _
 have hf4 : Fr (fun _ => False) (w2.alloc (.cells #[.int .i64 k, .string i, .slice A n cc] 39)) ((w2.alloc (.cells #[.int .i64 k, .string i, .slice A n cc] 39)).alloc (.cells #[.int .i64 k, .string i, .slice A n cc] 39)) := (Fr.refl _ _).alloc _
 have HT4 := Lib.hid ((Blk.new w2 39 #[.int .i64 k, .string i, .slice A n cc]).fr hf4 (fun h => h))
 have hz3 : (w2.alloc (.cells #[.int .i64 k, .string i, .slice A n cc] 39)).heap.size = w2.heap.size + 1 := by simp
 have HB4 := Lib.hid (((HB.out.fr hf2 (fun h => h)).fr hf3 (fun h => h)).fr hf4 (fun h => h))
 have HF4 := Lib.hid ((((HF.out.trans' hf2).trans' hf3).trans' hf4).mono (T := fun j => w.heap.size ≤ j) (fun _ _ h => h.elim))
 have HS4 := Lib.hid (((HS.out.frF hf2).frF hf3).frF hf4)
 have HST := Lib.hid (show (E = -1 ∧ d ≤ rs.length - p + 1 ∧ SepF rs (NoSep rs 47 One F p) p w ((w2.alloc (.cells #[.int .i64 k, .string i, .slice A n cc] 39)).alloc (.cells #[.int .i64 k, .string i, .slice A n cc] 39)) w2.heap.size [.int .i64 k, .string i, .slice A n cc] 1 d) ∨ (∃ (t : PT) (q : Nat), E = (q : Int) ∧
     SepI rs 47 One g c p w ((w2.alloc (.cells #[.int .i64 k, .string i, .slice A n cc] 39)).alloc (.cells #[.int .i64 k, .string i, .slice A n cc] 39)) w2.heap.size [.int .i64 k, .string i, .slice A n cc] (some ⟨w2.heap.size + 1, 0, none⟩) 1 [t] [[.int .i64 k, .string i, .slice A n cc]] q d) from by
  rcases hc with ⟨h1, h2, h6⟩ | ⟨t, q, h1, hP, h2, h3, h4, h5⟩
  · exact .inl ⟨h1, h2, .one _ h6, fun _ => h2, fun h => absurd h (by decide), HB4.out, HT4.out, by omega, HF4.out⟩
  · refine .inr ⟨t, q, h1, .one _ _ _ _ hP, h3, by simp only [List.length_singleton]; omega, h4, h2, fun h => absurd h (by simp), ?_, HB4.out, HT4.out, by omega, HF4.out, HS4.out, fun e => by injection e with e; have e : w2.heap.size + 1 = w2.heap.size := e; omega, fun t' e => ?_⟩
    · have := Parts.first (h5.frF hf3) (by rw [hz3]; omega)
      rw [hz3] at this
      exact this
    · injection e with e
      rw [← e]
      exact (h5.frF hf3).frF hf4)
 clear hc hf2 hf3 hf4 HB HF HS HAA HT4 HB4 HF4 HS4
 have HSB := Lib.hid (show w.heap.size < w2.heap.size from by omega)
 clear hz0 hz3 hsz2
 go_wp2_with fail
 generalize (w2.alloc (.cells #[.int .i64 k, .string i, .slice A n cc] 39)).alloc (.cells #[.int .i64 k, .string i, .slice A n cc] 39) = w4 at *
 generalize w2.heap.size = b at *
 go_loopg [8, 9, 10] (rs.length + 2) (fun gk a8 a9 a10 wr => ∃ (E : Int) (d : Nat) (A1 : Option Addr) (n1 cp : Nat), a8 = .int .i64 E ∧ a9 = .int .i64 (d : Int) ∧ a10 = .slice A1 n1 cp ∧ 1 ≤ n1 ∧ ((E = -1 ∧ SepF rs (NoSep rs 47 One F p) p w wr b [.int .i64 k, .string i, .slice A n cc] n1 d) ∨ ∃ (ts : List PT) (L : List (List Value)) (q : Nat), E = (q : Int) ∧ n1 = ts.length ∧ rs.length + 1 ≤ q + gk ∧ SepI rs 47 One g c p w wr b [.int .i64 k, .string i, .slice A n cc] A1 cp ts L q d))
 case atStart =>
  refine ⟨E, d, _, 1, 1, rfl, rfl, rfl, Nat.le_refl _, ?_⟩
  rcases HST.out with ⟨h1, _, h2⟩ | ⟨t, q, h1, h2⟩
  · exact .inl ⟨h1, h2⟩
  · exact .inr ⟨[t], _, q, h1, rfl, by omega, h2⟩
 case round =>
  obtain ⟨E, d, A1, n1, cp, rfl, rfl, rfl, hn1, hc⟩ := hrel
  clear HST
  rcases hc with ⟨rfl, hF⟩ | ⟨ts, L, q, rfl, rfl, hgk, hI⟩
  · have HX := Lib.hid hF
    have c0 := hF.own.cell 0
    have c1 := hF.own.cell 1
    have c2 := hF.own.cell 2
    simp only [List.getElem?_toArray, List.getElem?_cons_zero, List.getElem?_cons_succ] at c0 c1 c2
    have HTH := Lib.hid (Blk.there (cs := zero39) hF.cell (n := 3) rfl)
    have hl3 := hF.cell.lt
    by_cases h1 : n1 = 1
    · subst h1
      have hst := Blk.setAll (vs := [.int .i64 k, .string i, .slice A n cc]) (old := zero39) hF.cell rfl
      have HST := Lib.hid hst.1
      have HFF := Lib.hid ((hF.fr.trans hst.2 (fun j hj e => by omega)).shut (Nat.le_refl _))
      clear hst hF
      go_wp2_with (refine wpList_store_mid rfl 39 _ _ rfl _ _ _ rfl rfl HTH.out inf39 (one39 _ _ _ _ _) ?_)
      exact bodyPost_ret (v := .tuple #[pv k i A n cc, .int .i64 (-1), .int .i64 (d : Int)]) (results_e3 rfl _ _ w.heap.size 39 _ (0, 0) _ rfl HST.out Tryz.underlying39 rfl (by kernel_rfl) _ _ rfl rfl) rfl ⟨.inl ⟨_, _, _, _, _, d, HX.out.no, HX.out.d1 rfl, rfl⟩, HFF.out⟩
    · have hne : ¬ ((n1 : Int) = 1) := by omega
      have hst := Blk.setAll (vs := [.int .i64 2, .string ⟨#[]⟩, .slice A1 n1 cp]) (old := zero39) hF.cell rfl
      have HST := Lib.hid hst.1
      have HFF := Lib.hid ((hF.fr.trans hst.2 (fun j hj e => by omega)).shut (Nat.le_refl _))
      have HD := Lib.hid (hF.d2 (by omega))
      have hdd : d ≤ 9000 := by have := hF.d2 (by omega); omega
      clear hst hF
      go_wp2_with (refine wpList_store_mid rfl 39 _ _ rfl _ _ _ rfl rfl HTH.out inf39 (one39 _ _ _ _ _) ?_)
      exact bodyPost_ret (v := .tuple #[pv 2 ⟨#[]⟩ A1 n1 cp, .int .i64 (-1), .int .i64 ((d : Int) + 1)]) (results_e3 rfl _ _ w.heap.size 39 _ (0, 0) _ rfl HST.out Tryz.underlying39 rfl (by kernel_rfl) _ _ rfl rfl) rfl ⟨.inl ⟨_, _, _, _, _, d + 1, HX.out.no, by have := HD.out; omega, rfl⟩, HFF.out⟩
  · have HX := Lib.hid hI
    have c0 := hI.own.cell 0
    have c1 := hI.own.cell 1
    have c2 := hI.own.cell 2
    simp only [List.getElem?_toArray, List.getElem?_cons_zero, List.getElem?_cons_succ] at c0 c1 c2
    have HTH := Lib.hid (Blk.there (cs := zero39) hI.cell (n := 3) rfl)
    have hl3 := hI.cell.lt
    have hmq := HMQ.out q wr hI.le hI.ls
    cases hm : markAt rs q ⟨#[47]⟩ with
    | false =>
     rw [hm, if_neg Bool.false_ne_true] at hmq
     have HN := Lib.hid hmq
     have HM := Lib.hid hm
     clear hmq hm
     by_cases h1 : ts.length = 1
     · obtain ⟨t, rfl⟩ := List.length_eq_one_iff.1 h1
       have hst := Blk.setAll (vs := [.int .i64 k, .string i, .slice A n cc]) (old := zero39) hI.cell rfl
       have HST := Lib.hid hst.1
       have HFF := Lib.hid ((hI.fr.trans hst.2 (fun j hj e => by omega)).shut (Nat.le_refl _))
       have HPZ := Lib.hid (((hI.first t rfl).frN (by omega) hst.2).base (Nat.le_succ _))
       clear hst hI
       rw [List.length_singleton]
       clear h1 hn1
       go_wp2_with fail
       refine HN.out.mono ?_
       rintro e w5 ⟨rfl, rfl⟩
       go_wp2_with (refine wpList_store_mid rfl 39 _ _ rfl _ _ _ rfl rfl HTH.out inf39 (one39 _ _ _ _ _) ?_)
       exact bodyPost_ret (v := .tuple #[pv k i A n cc, .int .i64 (q : Int), .int .i64 (d : Int)]) (results_e3 rfl _ _ w.heap.size 39 _ (0, 0) _ rfl HST.out Tryz.underlying39 rfl (by kernel_rfl) _ _ rfl rfl) rfl ⟨.inr ⟨t, _, _, _, _, _, q, d, .one _ _ _ _ HX.out.run HM.out, HX.out.d1, HX.out.le, HX.out.one, HPZ.out, rfl⟩, HFF.out⟩
     · have hne : ¬ ((ts.length : Int) = 1) := by omega
       have h2 : 2 ≤ ts.length := by have := hI.run.pos; omega
       have hst := Blk.setAll (vs := [.int .i64 2, .string ⟨#[]⟩, .slice A1 ts.length cp]) (old := zero39) hI.cell rfl
       have HST := Lib.hid hst.1
       have HFF := Lib.hid ((hI.fr.trans hst.2 (fun j hj e => by omega)).shut (Nat.le_refl _))
       have HPZ := Lib.hid (((hI.parts.node 2).frN (by omega) hst.2).base (Nat.le_succ _))
       have HD := Lib.hid (hI.d2 h2)
       have hdd : d ≤ 9000 := by have := hI.d2 h2; have := hI.le; omega
       have H2 := Lib.hid h2
       clear hst hI h2 h1
       go_wp2_with fail
       refine HN.out.mono ?_
       rintro e w5 ⟨rfl, rfl⟩
       go_wp2_with (refine wpList_store_mid rfl 39 _ _ rfl _ _ _ rfl rfl HTH.out inf39 (one39 _ _ _ _ _) ?_)
       exact bodyPost_ret (v := .tuple #[pv 2 ⟨#[]⟩ A1 ts.length cp, .int .i64 (q : Int), .int .i64 ((d : Int) + 1)]) (results_e3 rfl _ _ w.heap.size 39 _ (0, 0) _ rfl HST.out Tryz.underlying39 rfl (by kernel_rfl) _ _ rfl rfl) rfl ⟨.inr ⟨.node 2 ts, _, _, _, _, _, q, d + 1, .many _ _ _ _ HX.out.run H2.out HM.out, HD.out, HX.out.le, by omega, HPZ.out, rfl⟩, HFF.out⟩
    | true =>
     rw [hm, if_pos rfl] at hmq
     have hmi := (mark_in hm hI.le).2
     have HR := Lib.hid (fun t e1 d1 h2 => RunP.more (rs := rs) (x := 47) (One := One) p ts t q d e1 d1 hI.run hm h2)
     have HRN := Lib.hid (fun h2 => NoSep.more (rs := rs) (x := 47) (One := One) (F := F) p ts q d hI.run hm h2)
     unfold mk1 at HR HRN
     generalize markTo rs q ⟨#[47]⟩ = q2 at *
     have HN := Lib.hid hmq
     have hq2 : (0 : Int) ≤ (q2 : Int) := by omega
     have HC := Lib.hid (HA1.out q2 wr (by have := hI.n; omega) hmi.2 hI.ls)
     have hdd : d ≤ 9000 := by have := hI.d1; have := hI.le; omega
     have hnn : ts.length ≤ 9000 := by have := hI.n; have := hI.le; omega
     clear hmq hm hI
     go_wp2_with fail
     refine HN.out.mono ?_
     rintro e w5 ⟨rfl, rfl⟩
     go_wp2_with fail
     refine HN.out.mono ?_
     rintro e w5 ⟨rfl, rfl⟩
     go_wp2_with fail
     refine HC.out.mono ?_
     intro e w5 hc5
     obtain ⟨k5, i5, A5, n5, c5, E5, d5, rfl, hc5, hf5⟩ := post_or hc5
     have hsz5 := hf5.size
     have hf6 : Fr (fun _ => False) w5 (w5.alloc (.cells #[.int .i64 k5, .string i5, .slice A5 n5 c5] 39)) := (Fr.refl _ _).alloc _
     have HO6 := Lib.hid (Blk.new w5 39 #[.int .i64 k5, .string i5, .slice A5 n5 c5])
     have hz6 : (w5.alloc (.cells #[.int .i64 k5, .string i5, .slice A5 n5 c5] 39)).heap.size = w5.heap.size + 1 := by simp
     have HP6 := Lib.hid ((HX.out.parts.frF hf5).frF hf6)
     have HB6 := Lib.hid ((HX.out.cell.fr hf5 (fun h => h)).fr hf6 (fun h => h))
     have HW6 := Lib.hid ((HX.out.own.fr hf5 (fun h => h)).fr hf6 (fun h => h))
     have HF6 := Lib.hid ((HX.out.fr.trans hf5 (fun _ _ h => h.elim)).trans hf6 (fun _ _ h => h.elim))
     have HS6 := Lib.hid ((HX.out.ls.frF hf5).frF hf6)
     have hg6 := (HO6.out).lt
     clear HC
     have hf7 : Fr (fun _ => False) (w5.alloc (.cells #[.int .i64 k5, .string i5, .slice A5 n5 c5] 39)) ((w5.alloc (.cells #[.int .i64 k5, .string i5, .slice A5 n5 c5] 39)).alloc (.cells #[.int .i64 k5, .string i5, .slice A5 n5 c5] 39)) := (Fr.refl _ _).alloc _
     have HP7 := Lib.hid (HP6.out.frF hf7)
     have hrow := (HP6.out.frF hf7).row
     have HROW := Lib.hid hrow
     have HONE := Lib.hid (show ∀ u ∈ ([.int .i64 k5, .string i5, .slice A5 n5 c5] : List Value), u.oneCell' = true from by
      intro v hv
      simp only [List.mem_cons, List.not_mem_nil, or_false] at hv
      rcases hv with rfl | rfl | rfl <;> rfl)
     have HF7 := Lib.hid hf7
     have hnew := heap_alloc_new (w5.alloc (.cells #[.int .i64 k5, .string i5, .slice A5 n5 c5] 39)) (.cells #[.int .i64 k5, .string i5, .slice A5 n5 c5] 39)
     rw [hz6] at hnew
     have HNEW := Lib.hid (World.news_of_block hnew)
     have hg6' := HX.out.cell.lt
     clear hrow hz6 hf7 hnew c0 c1 c2
     go_wp2_with (at_builtin; refine wpList_append_lies _ rfl _ _ 37 rfl (w.heap.size + 1) 39 i39 _ 3 48 Tryz.underlying37 HI.out HZ.out.1 HZ.out.2.1 HZ.out.2.2 rfl (by decide) (.slice A1 ts.length cp) ts.length L.flatten (by rfl) HROW.out ⟨w5.heap.size + 1, 0, none⟩ 1 1 [.int .i64 k5, .string i5, .slice A5 n5 c5] (by rfl) rfl HNEW.out HONE.out (by decide) (by unfold maxLen; omega) (by omega) (by simp; omega) (w5.heap.size + 2) (by simp) ?_; intro g1 cap1 w8 ho8 hgrow hor hlt8)
     have hf57 : Fr (fun _ => False) wr ((w5.alloc (.cells #[.int .i64 k5, .string i5, .slice A5 n5 c5] 39)).alloc (.cells #[.int .i64 k5, .string i5, .slice A5 n5 c5] 39)) := (hf5.trans' hf6).trans' HF7.out
     have hz7 : ((w5.alloc (.cells #[.int .i64 k5, .string i5, .slice A5 n5 c5] 39)).alloc (.cells #[.int .i64 k5, .string i5, .slice A5 n5 c5] 39)).heap.size = w5.heap.size + 2 := by simp
     rcases hc5 with ⟨rfl, hd5, hno5⟩ | ⟨t, q5, rfl, hP5, hdq5, hq5, hd15, hpa5⟩
     · go_roundg 0
       case measure => have := HX.out.le; omega
       case rel => exact ⟨-1, max d d5, _, ts.length + 1, cap1, rfl, congrArg (Value.int .i64) (by omega), rfl, by omega, .inl ⟨rfl, HX.out.fail (HRN.out hno5) hf57 hgrow hmi.1 hmi.2 hd5⟩⟩
     · go_roundg (rs.length + 1 - q5)
       case measure => have := HX.out.le; omega
       case rel => exact ⟨q5, max d d5, _, ts.length + 1, cap1, rfl, congrArg (Value.int .i64) (by omega), rfl, by omega, .inr ⟨ts ++ [t], _, q5, rfl, by simp, by omega, HX.out.grow HLS.out hf57 hgrow ho8 (by rw [hz7]; exact hor) (HR.out t q5 d5 hP5) hmi.1 hdq5 hq5 hd15 ((hpa5.frF hf6).frF HF7.out)⟩⟩

theorem rpath_sep (One : Nat → PT → Nat → Nat → Prop) (F : Nat → Prop) (g c p : Nat) (rs : List Int) (w : World) (hl : rs.length ≤ 8100) (hv : ∀ r, r ∈ rs → signR r = true) (hp : p ≤ rs.length) (h : Ls w g c rs)
    (HA : ∀ (p1 : Nat) (w1 : World), p ≤ p1 → p1 ≤ rs.length → Ls w1 g c rs → Calls Tryz.prog 151 #[.slice (some ⟨g, 0, none⟩) rs.length c, .int .i64 (p1 : Int)] w1 (PathPost rs One F p1 w1)) :
    Calls Tryz.prog 124 #[.slice (some ⟨g, 0, none⟩) rs.length c, .int .i64 (p : Int)] w (PathPost rs (SepP rs 124 3 One) (NoSep rs 124 One F) p w) := by
 have f0 : Fr (fun _ => False) w (w.alloc (.cells #[.int .i64 0, .string ⟨#[]⟩, .slice none 0 0] 39)) := (Fr.refl _ _).alloc _
 have hb := Blk.new w 39 #[.int .i64 0, .string ⟨#[]⟩, .slice none 0 0]
 have HB := Lib.hid (show Blk (w.alloc (.cells #[.int .i64 0, .string ⟨#[]⟩, .slice none 0 0] 39)) w.heap.size 39 zero39.toArray from hb)
 have HF := Lib.hid f0
 have hs := h.frF f0
 have HS := Lib.hid hs
 have HAA := Lib.hid (HA p _ (Nat.le_refl _) hp hs)
 have HMN := Lib.hid (fun T w1 => rmark_neg T (.slice (some ⟨g, 0, none⟩) rs.length c) w1)
 have HMQ := Lib.hid (fun q w1 (hq : q ≤ rs.length) h1 => rmark_any ⟨#[124]⟩ g c q rs w1 (show (1:Nat) ≤ 100 by decide) hl hv hq h1)
 have HA1 := Lib.hid HA
 unfold mkI at HMQ
 obtain ⟨i39, hi39, hz1, hz2, hz3⟩ := info_parts infZ39
 have HI := Lib.hid hi39
 have HZ := Lib.hid (And.intro hz1 (And.intro hz2 hz3))
 have HLS := Lib.hid h
 clear h hs hb f0 hv HA hi39 hz1 hz2 hz3
 go_enter Tryz.func124, Tryz.ntmps124
 go_wp2_with fail
 refine HAA.out.mono ?_
 intro e w2 hc
 obtain ⟨k, i, A, n, cc, E, d, rfl, hc, hf2⟩ := post_or hc
 have hz0 : (w.alloc (.cells #[.int .i64 0, .string ⟨#[]⟩, .slice none 0 0] 39)).heap.size = w.heap.size + 1 := by simp
 rw [hz0] at hc
 have hsz2 := hf2.size
 rw [hz0] at hsz2
 have hf3 : Fr (fun _ => False) w2 (w2.alloc (.cells #[.int .i64 k, .string i, .slice A n cc] 39)) := (Fr.refl _ _).alloc _
 have hf4 : Fr (fun _ => False) (w2.alloc (.cells #[.int .i64 k, .string i, .slice A n cc] 39)) ((w2.alloc (.cells #[.int .i64 k, .string i, .slice A n cc] 39)).alloc (.cells #[.int .i64 k, .string i, .slice A n cc] 39)) := (Fr.refl _ _).alloc _
 have HT4 := Lib.hid ((Blk.new w2 39 #[.int .i64 k, .string i, .slice A n cc]).fr hf4 (fun h => h))
 have hz3 : (w2.alloc (.cells #[.int .i64 k, .string i, .slice A n cc] 39)).heap.size = w2.heap.size + 1 := by simp
 have HB4 := Lib.hid (((HB.out.fr hf2 (fun h => h)).fr hf3 (fun h => h)).fr hf4 (fun h => h))
 have HF4 := Lib.hid ((((HF.out.trans' hf2).trans' hf3).trans' hf4).mono (T := fun j => w.heap.size ≤ j) (fun _ _ h => h.elim))
 have HS4 := Lib.hid (((HS.out.frF hf2).frF hf3).frF hf4)
 have HST := Lib.hid (show (E = -1 ∧ d ≤ rs.length - p + 1 ∧ SepF rs (NoSep rs 124 One F p) p w ((w2.alloc (.cells #[.int .i64 k, .string i, .slice A n cc] 39)).alloc (.cells #[.int .i64 k, .string i, .slice A n cc] 39)) w2.heap.size [.int .i64 k, .string i, .slice A n cc] 1 d) ∨ (∃ (t : PT) (q : Nat), E = (q : Int) ∧
     SepI rs 124 One g c p w ((w2.alloc (.cells #[.int .i64 k, .string i, .slice A n cc] 39)).alloc (.cells #[.int .i64 k, .string i, .slice A n cc] 39)) w2.heap.size [.int .i64 k, .string i, .slice A n cc] (some ⟨w2.heap.size + 1, 0, none⟩) 1 [t] [[.int .i64 k, .string i, .slice A n cc]] q d) from by
  rcases hc with ⟨h1, h2, h6⟩ | ⟨t, q, h1, hP, h2, h3, h4, h5⟩
  · exact .inl ⟨h1, h2, .one _ h6, fun _ => h2, fun h => absurd h (by decide), HB4.out, HT4.out, by omega, HF4.out⟩
  · refine .inr ⟨t, q, h1, .one _ _ _ _ hP, h3, by simp only [List.length_singleton]; omega, h4, h2, fun h => absurd h (by simp), ?_, HB4.out, HT4.out, by omega, HF4.out, HS4.out, fun e => by injection e with e; have e : w2.heap.size + 1 = w2.heap.size := e; omega, fun t' e => ?_⟩
    · have := Parts.first (h5.frF hf3) (by rw [hz3]; omega)
      rw [hz3] at this
      exact this
    · injection e with e
      rw [← e]
      exact (h5.frF hf3).frF hf4)
 clear hc hf2 hf3 hf4 HB HF HS HAA HT4 HB4 HF4 HS4
 have HSB := Lib.hid (show w.heap.size < w2.heap.size from by omega)
 clear hz0 hz3 hsz2
 go_wp2_with fail
 generalize (w2.alloc (.cells #[.int .i64 k, .string i, .slice A n cc] 39)).alloc (.cells #[.int .i64 k, .string i, .slice A n cc] 39) = w4 at *
 generalize w2.heap.size = b at *
 go_loopg [8, 9, 10] (rs.length + 2) (fun gk a8 a9 a10 wr => ∃ (E : Int) (d : Nat) (A1 : Option Addr) (n1 cp : Nat), a8 = .int .i64 E ∧ a9 = .int .i64 (d : Int) ∧ a10 = .slice A1 n1 cp ∧ 1 ≤ n1 ∧ ((E = -1 ∧ SepF rs (NoSep rs 124 One F p) p w wr b [.int .i64 k, .string i, .slice A n cc] n1 d) ∨ ∃ (ts : List PT) (L : List (List Value)) (q : Nat), E = (q : Int) ∧ n1 = ts.length ∧ rs.length + 1 ≤ q + gk ∧ SepI rs 124 One g c p w wr b [.int .i64 k, .string i, .slice A n cc] A1 cp ts L q d))
 case atStart =>
  refine ⟨E, d, _, 1, 1, rfl, rfl, rfl, Nat.le_refl _, ?_⟩
  rcases HST.out with ⟨h1, _, h2⟩ | ⟨t, q, h1, h2⟩
  · exact .inl ⟨h1, h2⟩
  · exact .inr ⟨[t], _, q, h1, rfl, by omega, h2⟩
 case round =>
  obtain ⟨E, d, A1, n1, cp, rfl, rfl, rfl, hn1, hc⟩ := hrel
  clear HST
  rcases hc with ⟨rfl, hF⟩ | ⟨ts, L, q, rfl, rfl, hgk, hI⟩
  · have HX := Lib.hid hF
    have c0 := hF.own.cell 0
    have c1 := hF.own.cell 1
    have c2 := hF.own.cell 2
    simp only [List.getElem?_toArray, List.getElem?_cons_zero, List.getElem?_cons_succ] at c0 c1 c2
    have HTH := Lib.hid (Blk.there (cs := zero39) hF.cell (n := 3) rfl)
    have hl3 := hF.cell.lt
    by_cases h1 : n1 = 1
    · subst h1
      have hst := Blk.setAll (vs := [.int .i64 k, .string i, .slice A n cc]) (old := zero39) hF.cell rfl
      have HST := Lib.hid hst.1
      have HFF := Lib.hid ((hF.fr.trans hst.2 (fun j hj e => by omega)).shut (Nat.le_refl _))
      clear hst hF
      go_wp2_with (refine wpList_store_mid rfl 39 _ _ rfl _ _ _ rfl rfl HTH.out inf39 (one39 _ _ _ _ _) ?_)
      exact bodyPost_ret (v := .tuple #[pv k i A n cc, .int .i64 (-1), .int .i64 (d : Int)]) (results_e3 rfl _ _ w.heap.size 39 _ (0, 0) _ rfl HST.out Tryz.underlying39 rfl (by kernel_rfl) _ _ rfl rfl) rfl ⟨.inl ⟨_, _, _, _, _, d, HX.out.no, HX.out.d1 rfl, rfl⟩, HFF.out⟩
    · have hne : ¬ ((n1 : Int) = 1) := by omega
      have hst := Blk.setAll (vs := [.int .i64 3, .string ⟨#[]⟩, .slice A1 n1 cp]) (old := zero39) hF.cell rfl
      have HST := Lib.hid hst.1
      have HFF := Lib.hid ((hF.fr.trans hst.2 (fun j hj e => by omega)).shut (Nat.le_refl _))
      have HD := Lib.hid (hF.d2 (by omega))
      have hdd : d ≤ 9000 := by have := hF.d2 (by omega); omega
      clear hst hF
      go_wp2_with (refine wpList_store_mid rfl 39 _ _ rfl _ _ _ rfl rfl HTH.out inf39 (one39 _ _ _ _ _) ?_)
      exact bodyPost_ret (v := .tuple #[pv 3 ⟨#[]⟩ A1 n1 cp, .int .i64 (-1), .int .i64 ((d : Int) + 1)]) (results_e3 rfl _ _ w.heap.size 39 _ (0, 0) _ rfl HST.out Tryz.underlying39 rfl (by kernel_rfl) _ _ rfl rfl) rfl ⟨.inl ⟨_, _, _, _, _, d + 1, HX.out.no, by have := HD.out; omega, rfl⟩, HFF.out⟩
  · have HX := Lib.hid hI
    have c0 := hI.own.cell 0
    have c1 := hI.own.cell 1
    have c2 := hI.own.cell 2
    simp only [List.getElem?_toArray, List.getElem?_cons_zero, List.getElem?_cons_succ] at c0 c1 c2
    have HTH := Lib.hid (Blk.there (cs := zero39) hI.cell (n := 3) rfl)
    have hl3 := hI.cell.lt
    have hmq := HMQ.out q wr hI.le hI.ls
    cases hm : markAt rs q ⟨#[124]⟩ with
    | false =>
     rw [hm, if_neg Bool.false_ne_true] at hmq
     have HN := Lib.hid hmq
     have HM := Lib.hid hm
     clear hmq hm
     by_cases h1 : ts.length = 1
     · obtain ⟨t, rfl⟩ := List.length_eq_one_iff.1 h1
       have hst := Blk.setAll (vs := [.int .i64 k, .string i, .slice A n cc]) (old := zero39) hI.cell rfl
       have HST := Lib.hid hst.1
       have HFF := Lib.hid ((hI.fr.trans hst.2 (fun j hj e => by omega)).shut (Nat.le_refl _))
       have HPZ := Lib.hid (((hI.first t rfl).frN (by omega) hst.2).base (Nat.le_succ _))
       clear hst hI
       rw [List.length_singleton]
       clear h1 hn1
       go_wp2_with fail
       refine HN.out.mono ?_
       rintro e w5 ⟨rfl, rfl⟩
       go_wp2_with (refine wpList_store_mid rfl 39 _ _ rfl _ _ _ rfl rfl HTH.out inf39 (one39 _ _ _ _ _) ?_)
       exact bodyPost_ret (v := .tuple #[pv k i A n cc, .int .i64 (q : Int), .int .i64 (d : Int)]) (results_e3 rfl _ _ w.heap.size 39 _ (0, 0) _ rfl HST.out Tryz.underlying39 rfl (by kernel_rfl) _ _ rfl rfl) rfl ⟨.inr ⟨t, _, _, _, _, _, q, d, .one _ _ _ _ HX.out.run HM.out, HX.out.d1, HX.out.le, HX.out.one, HPZ.out, rfl⟩, HFF.out⟩
     · have hne : ¬ ((ts.length : Int) = 1) := by omega
       have h2 : 2 ≤ ts.length := by have := hI.run.pos; omega
       have hst := Blk.setAll (vs := [.int .i64 3, .string ⟨#[]⟩, .slice A1 ts.length cp]) (old := zero39) hI.cell rfl
       have HST := Lib.hid hst.1
       have HFF := Lib.hid ((hI.fr.trans hst.2 (fun j hj e => by omega)).shut (Nat.le_refl _))
       have HPZ := Lib.hid (((hI.parts.node 3).frN (by omega) hst.2).base (Nat.le_succ _))
       have HD := Lib.hid (hI.d2 h2)
       have hdd : d ≤ 9000 := by have := hI.d2 h2; have := hI.le; omega
       have H2 := Lib.hid h2
       clear hst hI h2 h1
       go_wp2_with fail
       refine HN.out.mono ?_
       rintro e w5 ⟨rfl, rfl⟩
       go_wp2_with (refine wpList_store_mid rfl 39 _ _ rfl _ _ _ rfl rfl HTH.out inf39 (one39 _ _ _ _ _) ?_)
       exact bodyPost_ret (v := .tuple #[pv 3 ⟨#[]⟩ A1 ts.length cp, .int .i64 (q : Int), .int .i64 ((d : Int) + 1)]) (results_e3 rfl _ _ w.heap.size 39 _ (0, 0) _ rfl HST.out Tryz.underlying39 rfl (by kernel_rfl) _ _ rfl rfl) rfl ⟨.inr ⟨.node 3 ts, _, _, _, _, _, q, d + 1, .many _ _ _ _ HX.out.run H2.out HM.out, HD.out, HX.out.le, by omega, HPZ.out, rfl⟩, HFF.out⟩
    | true =>
     rw [hm, if_pos rfl] at hmq
     have hmi := (mark_in hm hI.le).2
     have HR := Lib.hid (fun t e1 d1 h2 => RunP.more (rs := rs) (x := 124) (One := One) p ts t q d e1 d1 hI.run hm h2)
     have HRN := Lib.hid (fun h2 => NoSep.more (rs := rs) (x := 124) (One := One) (F := F) p ts q d hI.run hm h2)
     unfold mk1 at HR HRN
     generalize markTo rs q ⟨#[124]⟩ = q2 at *
     have HN := Lib.hid hmq
     have hq2 : (0 : Int) ≤ (q2 : Int) := by omega
     have HC := Lib.hid (HA1.out q2 wr (by have := hI.n; omega) hmi.2 hI.ls)
     have hdd : d ≤ 9000 := by have := hI.d1; have := hI.le; omega
     have hnn : ts.length ≤ 9000 := by have := hI.n; have := hI.le; omega
     clear hmq hm hI
     go_wp2_with fail
     refine HN.out.mono ?_
     rintro e w5 ⟨rfl, rfl⟩
     go_wp2_with fail
     refine HN.out.mono ?_
     rintro e w5 ⟨rfl, rfl⟩
     go_wp2_with fail
     refine HC.out.mono ?_
     intro e w5 hc5
     obtain ⟨k5, i5, A5, n5, c5, E5, d5, rfl, hc5, hf5⟩ := post_or hc5
     have hsz5 := hf5.size
     have hf6 : Fr (fun _ => False) w5 (w5.alloc (.cells #[.int .i64 k5, .string i5, .slice A5 n5 c5] 39)) := (Fr.refl _ _).alloc _
     have HO6 := Lib.hid (Blk.new w5 39 #[.int .i64 k5, .string i5, .slice A5 n5 c5])
     have hz6 : (w5.alloc (.cells #[.int .i64 k5, .string i5, .slice A5 n5 c5] 39)).heap.size = w5.heap.size + 1 := by simp
     have HP6 := Lib.hid ((HX.out.parts.frF hf5).frF hf6)
     have HB6 := Lib.hid ((HX.out.cell.fr hf5 (fun h => h)).fr hf6 (fun h => h))
     have HW6 := Lib.hid ((HX.out.own.fr hf5 (fun h => h)).fr hf6 (fun h => h))
     have HF6 := Lib.hid ((HX.out.fr.trans hf5 (fun _ _ h => h.elim)).trans hf6 (fun _ _ h => h.elim))
     have HS6 := Lib.hid ((HX.out.ls.frF hf5).frF hf6)
     have hg6 := (HO6.out).lt
     clear HC
     have hf7 : Fr (fun _ => False) (w5.alloc (.cells #[.int .i64 k5, .string i5, .slice A5 n5 c5] 39)) ((w5.alloc (.cells #[.int .i64 k5, .string i5, .slice A5 n5 c5] 39)).alloc (.cells #[.int .i64 k5, .string i5, .slice A5 n5 c5] 39)) := (Fr.refl _ _).alloc _
     have HP7 := Lib.hid (HP6.out.frF hf7)
     have hrow := (HP6.out.frF hf7).row
     have HROW := Lib.hid hrow
     have HONE := Lib.hid (show ∀ u ∈ ([.int .i64 k5, .string i5, .slice A5 n5 c5] : List Value), u.oneCell' = true from by
      intro v hv
      simp only [List.mem_cons, List.not_mem_nil, or_false] at hv
      rcases hv with rfl | rfl | rfl <;> rfl)
     have HF7 := Lib.hid hf7
     have hnew := heap_alloc_new (w5.alloc (.cells #[.int .i64 k5, .string i5, .slice A5 n5 c5] 39)) (.cells #[.int .i64 k5, .string i5, .slice A5 n5 c5] 39)
     rw [hz6] at hnew
     have HNEW := Lib.hid (World.news_of_block hnew)
     have hg6' := HX.out.cell.lt
     clear hrow hz6 hf7 hnew c0 c1 c2
     go_wp2_with (at_builtin; refine wpList_append_lies _ rfl _ _ 37 rfl (w.heap.size + 1) 39 i39 _ 3 48 Tryz.underlying37 HI.out HZ.out.1 HZ.out.2.1 HZ.out.2.2 rfl (by decide) (.slice A1 ts.length cp) ts.length L.flatten (by rfl) HROW.out ⟨w5.heap.size + 1, 0, none⟩ 1 1 [.int .i64 k5, .string i5, .slice A5 n5 c5] (by rfl) rfl HNEW.out HONE.out (by decide) (by unfold maxLen; omega) (by omega) (by simp; omega) (w5.heap.size + 2) (by simp) ?_; intro g1 cap1 w8 ho8 hgrow hor hlt8)
     have hf57 : Fr (fun _ => False) wr ((w5.alloc (.cells #[.int .i64 k5, .string i5, .slice A5 n5 c5] 39)).alloc (.cells #[.int .i64 k5, .string i5, .slice A5 n5 c5] 39)) := (hf5.trans' hf6).trans' HF7.out
     have hz7 : ((w5.alloc (.cells #[.int .i64 k5, .string i5, .slice A5 n5 c5] 39)).alloc (.cells #[.int .i64 k5, .string i5, .slice A5 n5 c5] 39)).heap.size = w5.heap.size + 2 := by simp
     rcases hc5 with ⟨rfl, hd5, hno5⟩ | ⟨t, q5, rfl, hP5, hdq5, hq5, hd15, hpa5⟩
     · go_roundg 0
       case measure => have := HX.out.le; omega
       case rel => exact ⟨-1, max d d5, _, ts.length + 1, cap1, rfl, congrArg (Value.int .i64) (by omega), rfl, by omega, .inl ⟨rfl, HX.out.fail (HRN.out hno5) hf57 hgrow hmi.1 hmi.2 hd5⟩⟩
     · go_roundg (rs.length + 1 - q5)
       case measure => have := HX.out.le; omega
       case rel => exact ⟨q5, max d d5, _, ts.length + 1, cap1, rfl, congrArg (Value.int .i64) (by omega), rfl, by omega, .inr ⟨ts ++ [t], _, q5, rfl, by simp, by omega, HX.out.grow HLS.out hf57 hgrow ho8 (by rw [hz7]; exact hor) (HR.out t q5 d5 hP5) hmi.1 hdq5 hq5 hd15 ((hpa5.frF hf6).frF HF7.out)⟩⟩

theorem rpath_any (g c : Nat) (rs : List Int) (hl : rs.length ≤ 8100) (hw : wt rs ≤ 8100) (hv : ∀ r, r ∈ rs → signR r = true) : ∀ (n p : Nat) (w : World), rs.length - p < n → p ≤ rs.length → Ls w g c rs →
    Calls Tryz.prog 124 #[.slice (some ⟨g, 0, none⟩) rs.length c, .int .i64 (p : Int)] w (PathPost rs (PathP rs n) (NoPath rs n) p w)
 | n + 1, p, w, hn, hp, h => by
  refine rpath_sep (SeqP rs (PathP rs n)) (NoSep rs 47 (StepP rs (PathP rs n)) (NoAtom rs (PathP rs n) (NoPath rs n))) g c p rs w hl hv hp h fun p1 w1 h1 h2 h3 => ?_
  refine rseq_sep (StepP rs (PathP rs n)) (NoAtom rs (PathP rs n) (NoPath rs n)) g c p1 rs w1 hl hv h2 h3 fun p2 w2 h4 h5 h6 => ?_
  refine rstep_any (PathP rs n) (NoAtom rs (PathP rs n) (NoPath rs n)) g c p2 rs w2 hl hv h5 h6 fun w3 h7 => ?_
  cases hm : markAt rs p2 (mk1 40) with
  | false => exact ratom_iri (PathP rs n) (NoPath rs n) g c p2 rs w3 hl hw hv h5 h7 hm
  | true => 
   refine ratom_paren (PathP rs n) (NoPath rs n) g c p2 rs w3 hl hv h5 h7 hm fun q w4 h9 h10 h8 => ?_
   exact rpath_any g c rs hl hw hv n q w4 (by omega) h10 h8

/-- The digits, the lowest first; of 0 none. -/
def digs (n : Nat) : List Nat := if h : n = 0 then [] else n % 10 :: digs (n / 10)
termination_by n
decreasing_by omega
/-- What digits are worth. -/
def dval : List Nat → Nat
 | [] => 0
 | d :: r => d + 10 * dval r
theorem digs_zero : digs 0 = [] := by rw [digs]; simp
theorem digs_pos {n : Nat} (h : n ≠ 0) : digs n = n % 10 :: digs (n / 10) := by rw [digs, dif_neg h]
theorem dval_digs (n : Nat) : dval (digs n) = n := by
 induction n using Nat.strongRecOn with
 | _ n ih =>
  by_cases h : n = 0
  · subst h
    rw [digs_zero]
    rfl
  · rw [digs_pos h, dval, ih (n / 10) (by omega)]
    omega
theorem digs_lt (n : Nat) : ∀ d, d ∈ digs n → d < 10 := by
 induction n using Nat.strongRecOn with
 | _ n ih =>
  intro d hd
  by_cases h : n = 0
  · subst h
    rw [digs_zero] at hd
    cases hd
  · rw [digs_pos h] at hd
    rcases List.mem_cons.1 hd with rfl | hd
    · omega
    · exact ih (n / 10) (by omega) d hd
theorem dval_pos : ∀ (l : List Nat), l ≠ [] → (∀ d, l.getLast? = some d → d ≠ 0) → 0 < dval l
 | [], h, _ => absurd rfl h
 | [d], _, h => by
  have := h d rfl
  simp only [dval]
  omega
 | d :: e :: r, _, h => by
  have := dval_pos (e :: r) (by simp) (fun x hx => h x (by rw [List.getLast?_cons_cons]; exact hx))
  simp only [dval] at this ⊢
  omega
theorem digs_dval : ∀ (l : List Nat), (∀ d, d ∈ l → d < 10) → (∀ d, l.getLast? = some d → d ≠ 0) → digs (dval l) = l
 | [], _, _ => digs_zero
 | d :: r, h1, h2 => by
  have hp := dval_pos (d :: r) (by simp) h2
  have hd : d < 10 := h1 d List.mem_cons_self
  have hr := digs_dval r (fun x hx => h1 x (List.mem_cons_of_mem _ hx)) (fun x hx => by
   cases r with
   | nil => cases hx
   | cons e r => exact h2 x (by rw [List.getLast?_cons_cons]; exact hx))
  rw [digs_pos (by omega)]
  have e1 : dval (d :: r) % 10 = d := by simp only [dval]; omega
  have e2 : dval (d :: r) / 10 = dval r := by simp only [dval]; omega
  rw [e1, e2, hr]
/-- Is a sign no digit? -/
def offB (r : Nat) : Bool := decide (r < 48) || decide (57 < r)
/-- All are digits. -/
def digB (l : List UInt8) : Bool := l.all (fun b => !offB b.toNat)
theorem digB_iff {l : List UInt8} : digB l = true ↔ ∀ b, b ∈ l → 48 ≤ b.toNat ∧ b.toNat ≤ 57 := by
 unfold digB offB
 rw [List.all_eq_true]
 constructor
 · intro h b hb
   have := h b hb
   simp at this
   omega
 · intro h b hb
   have := h b hb
   simp
   omega
/-- What stands behind a sign. -/
def unsign (l : List UInt8) : List UInt8 := match l with
 | [] => []
 | c :: r => if c.toNat = 43 ∨ c.toNat = 45 then r else c :: r
/-- The integer of a text, or what is wrong. -/
def vParse (l : List UInt8) : Int × Int :=
 if unsign l = [] ∨ digB (unsign l) = false then (0, 1) else match Lib.parseIntB 64 l with
  | .ok v => (v, 0)
  | _ => (0, 9)
theorem dval_app : ∀ (a b : List Nat), dval (a ++ b) = dval a + 10 ^ a.length * dval b
 | [], b => by simp [dval]
 | d :: r, b => by
  rw [List.cons_append, dval, dval_app r b, dval, List.length_cons, Nat.pow_succ, Nat.mul_add]
  have : 10 ^ r.length * 10 * dval b = 10 * (10 ^ r.length * dval b) := by rw [Nat.mul_comm (10 ^ r.length) 10, Nat.mul_assoc]
  omega
theorem dval_lt : ∀ (l : List Nat), (∀ d, d ∈ l → d < 10) → dval l < 10 ^ l.length
 | [], _ => by simp [dval]
 | d :: r, h => by
  have h1 := h d List.mem_cons_self
  have h2 := dval_lt r (fun x hx => h x (List.mem_cons_of_mem _ hx))
  rw [dval, List.length_cons, Nat.pow_succ]
  omega
theorem dval_take (l : List Nat) (i : Nat) : dval (l.take (i + 1)) = dval (l.take i) + 10 ^ i * l.getD i 0 := by
 by_cases h : i < l.length
 · rw [List.take_succ_eq_append_getElem h, dval_app, List.length_take, Nat.min_eq_left (Nat.le_of_lt h)]
   simp [dval, List.getD_eq_getElem?_getD, h]
 · rw [List.take_of_length_le (by omega), List.take_of_length_le (by omega)]
   have : l.getD i 0 = 0 := by rw [List.getD_eq_getElem?_getD, List.getElem?_eq_none (by omega)]; rfl
   rw [this]
   omega
theorem dval_nil : ∀ (l : List Nat), (∀ d, d ∈ l → d = 0) → dval l = 0
 | [], _ => rfl
 | d :: r, h => by
  rw [dval, dval_nil r (fun x hx => h x (List.mem_cons_of_mem _ hx)), h d List.mem_cons_self]
theorem trim_end (l : List Nat) (k : Nat) (hk : k ≤ l.length) (hz : ∀ i, k ≤ i → i < l.length → l.getD i 0 = 0) (hd : ∀ d, d ∈ l → d < 10) (he : k = 0 ∨ l.getD (k - 1) 0 ≠ 0) : l.take k = digs (dval l) := by
 have e : dval l = dval (l.take k) := by
  have h := dval_app (l.take k) (l.drop k)
  rw [List.take_append_drop] at h
  have hn : dval (l.drop k) = 0 := dval_nil _ (fun d hd => by
   obtain ⟨i, hi, rfl⟩ := List.getElem_of_mem hd
   rw [List.length_drop] at hi
   have := hz (k + i) (by omega) (by omega)
   rw [List.getD_eq_getElem?_getD, List.getElem?_eq_getElem (by omega)] at this
   rw [List.getElem_drop]
   exact this)
  rw [hn] at h
  omega
 rw [e]
 refine (digs_dval _ (fun d h => hd d (List.mem_of_mem_take h)) (fun d h => ?_)).symm
 rcases he with rfl | he
 · simp at h
 · rw [List.getLast?_eq_getElem?, List.length_take, Nat.min_eq_left hk] at h
   by_cases hk0 : k = 0
   · subst hk0
     simp at h
   · rw [List.getElem?_take_of_lt (by omega)] at h
     rw [List.getD_eq_getElem?_getD, h] at he
     exact he
theorem sizes_lt (a b : List Nat) (k : Nat) (hl : a.length = b.length) (hk : k < a.length) (ha : ∀ d, d ∈ a → d < 10) (hs : ∀ j, k < j → j < a.length → a.getD j 0 = b.getD j 0) (h : a.getD k 0 < b.getD k 0) : dval a < dval b := by
 have e1 := dval_app (a.take (k + 1)) (a.drop (k + 1))
 have e2 := dval_app (b.take (k + 1)) (b.drop (k + 1))
 rw [List.take_append_drop, List.length_take, Nat.min_eq_left (by omega), dval_take] at e1 e2
 have e3 : a.drop (k + 1) = b.drop (k + 1) := by
  apply List.ext_getElem
  · simp [hl]
  · intro i h1 h2
    rw [List.length_drop] at h1
    have := hs (k + 1 + i) (by omega) (by omega)
    rw [List.getD_eq_getElem?_getD, List.getD_eq_getElem?_getD, List.getElem?_eq_getElem (by omega), List.getElem?_eq_getElem (by omega)] at this
    rw [List.getElem_drop, List.getElem_drop]
    exact this
 rw [e3] at e1
 have h3 := dval_lt (a.take k) (fun d h => ha d (List.mem_of_mem_take h))
 rw [List.length_take, Nat.min_eq_left (by omega)] at h3
 have h4 : 10 ^ k * a.getD k 0 + 10 ^ k ≤ 10 ^ k * b.getD k 0 := by
  rw [← Nat.mul_succ]
  exact Nat.mul_le_mul_left _ h
 omega
theorem sizes_eq (a b : List Nat) (hl : a.length = b.length) (hs : ∀ j, j < a.length → a.getD j 0 = b.getD j 0) : a = b := by
 apply List.ext_getElem hl
 intro i h1 h2
 have := hs i h1
 rw [List.getD_eq_getElem?_getD, List.getD_eq_getElem?_getD, List.getElem?_eq_getElem h1, List.getElem?_eq_getElem h2] at this
 exact this
theorem digs_mono : ∀ (m k : Nat), m ≤ k → (digs m).length ≤ (digs k).length := by
 intro m
 induction m using Nat.strongRecOn with
 | _ m ih =>
  intro k hk
  by_cases h : m = 0
  · rw [h, digs_zero]
    exact Nat.zero_le _
  · rw [digs_pos h, digs_pos (n := k) (by omega), List.length_cons, List.length_cons]
    have := ih (m / 10) (by omega) (k / 10) (by omega)
    omega
theorem digs_len_lt {m k : Nat} (h : (digs m).length < (digs k).length) : m < k := by
 rcases Nat.lt_or_ge m k with h1 | h1
 · exact h1
 · have := digs_mono k m h1
   omega
theorem digs_len (j : Nat) : ∀ n, n < 10 ^ j → (digs n).length ≤ j := by
 induction j with
 | zero =>
  intro n h
  have : n = 0 := by simpa using h
  rw [this, digs_zero]
  exact Nat.le_refl _
 | succ j ih =>
  intro n h
  by_cases h0 : n = 0
  · rw [h0, digs_zero]
    exact Nat.zero_le _
  · rw [digs_pos h0, List.length_cons]
    have := ih (n / 10) (by rw [Nat.pow_succ] at h; omega)
    omega
theorem digs_nil {n : Nat} (h : digs n = []) : n = 0 := by
 by_cases h0 : n = 0
 · exact h0
 · rw [digs_pos h0] at h
   cases h
/-- What digits of a text are worth. -/
def uvalF (acc : Nat) : List UInt8 → Nat
 | [] => acc
 | c :: r => uvalF (acc * 10 + (c.toNat - 48)) r
theorem uvalF_ge : ∀ (l : List UInt8) (acc : Nat), acc ≤ uvalF acc l
 | [], acc => Nat.le_refl _
 | c :: r, acc => by
  have := uvalF_ge r (acc * 10 + (c.toNat - 48))
  unfold uvalF
  omega
theorem parseUintM_val : ∀ (l : List UInt8) (acc : Nat), digB l = true → acc ≤ 18446744073709551615 → Lib.parseUintM 18446744073709551615 acc l = if uvalF acc l ≤ 18446744073709551615 then .ok (uvalF acc l) else .range
 | [], acc, h, ha => by
  unfold uvalF Lib.parseUintM
  rw [if_pos ha]
 | c :: r, acc, h, ha => by
  have h1 : 48 ≤ c.toNat ∧ c.toNat ≤ 57 := digB_iff.1 h c (List.mem_cons_self)
  have h2 : digB r = true := digB_iff.2 (fun b hb => digB_iff.1 h b (List.mem_cons_of_mem _ hb))
  have hg := uvalF_ge r (acc * 10 + (c.toNat - 48))
  unfold Lib.parseUintM uvalF
  rw [if_pos h1]
  by_cases h3 : 1844674407370955162 ≤ acc
  · rw [if_pos h3, if_neg (by omega)]
  · rw [if_neg h3]
    by_cases h4 : 18446744073709551615 < acc * 10 + (c.toNat - 48)
    · rw [if_pos h4, if_neg (by omega)]
    · rw [if_neg h4]
      exact parseUintM_val r _ h2 (by omega)
/-- What a text of digits, with a sign or none, is worth. -/
def sval (l : List UInt8) : Int := if l.head? = some 45 then -(uvalF 0 (unsign l) : Int) else (uvalF 0 (unsign l) : Int)
theorem vParse_val {l : List UInt8} (h1 : unsign l ≠ []) (h2 : digB (unsign l) = true) : vParse l = if -9223372036854775808 ≤ sval l ∧ sval l ≤ 9223372036854775807 then (sval l, 0) else (0, 9) := by
 unfold vParse
 rw [if_neg (by rw [h2]; simp [h1])]
 have e0 : Lib.parseUintB 64 (unsign l) = if uvalF 0 (unsign l) ≤ 18446744073709551615 then .ok (uvalF 0 (unsign l)) else .range := by
  unfold Lib.parseUintB
  rw [if_neg h1]
  exact parseUintM_val _ 0 h2 (Nat.zero_le _)
 cases l with
 | nil => exact absurd rfl h1
 | cons c r =>
  have e1 : (if c.toNat = 43 ∨ c.toNat = 45 then r else c :: r) = unsign (c :: r) := rfl
  have hc : (c :: r).head? = some 45 ↔ c.toNat = 45 := by
   simp only [List.head?_cons, Option.some.injEq]
   constructor
   · intro h
     rw [h]
     rfl
   · intro h
     apply UInt8.toNat_inj.1
     rw [h]
     rfl
  unfold Lib.parseIntB sval
  dsimp only
  rw [e1, e0]
  generalize uvalF 0 (unsign (c :: r)) = u
  by_cases hu : u ≤ 18446744073709551615
  · rw [if_pos hu]
    dsimp only
    by_cases hn : c.toNat = 45
    · rw [if_neg (fun h => h.1 hn), if_pos (hc.2 hn)]
      by_cases hb : 2 ^ (64 - 1) < u
      · rw [if_pos ⟨hn, hb⟩, if_neg (by omega)]
      · rw [if_neg (fun h => hb h.2), if_pos hn, if_pos (by omega)]
    · rw [if_neg (fun h => hn (hc.1 h))]
      by_cases hb : 2 ^ (64 - 1) ≤ u
      · rw [if_pos ⟨hn, hb⟩, if_neg (by omega)]
      · rw [if_neg (fun h => hb h.2), if_neg (fun h => hn h.1), if_neg hn, if_pos (by omega)]
  · rw [if_neg hu]
    dsimp only
    split
    · rw [if_neg (by omega)]
    · rw [if_neg (by omega)]
/-- The digits of a text, the lowest first. -/
def bdigs (l : List UInt8) : List Nat := (l.map (fun c => c.toNat - 48)).reverse
theorem uvalF_digs : ∀ (l : List UInt8) (acc : Nat), uvalF acc l = dval (bdigs l) + 10 ^ l.length * acc
 | [], acc => by
  show acc = 0 + 10 ^ 0 * acc
  omega
 | c :: r, acc => by
  unfold uvalF
  rw [uvalF_digs r]
  unfold bdigs
  rw [List.map_cons, List.reverse_cons, dval_app, List.length_reverse, List.length_map, List.length_cons, Nat.pow_succ, Nat.mul_add]
  have e : 10 ^ r.length * (acc * 10) = 10 ^ r.length * 10 * acc := by rw [Nat.mul_comm acc 10, Nat.mul_assoc]
  have e2 : dval [c.toNat - 48] = c.toNat - 48 := by simp [dval]
  rw [e2, e]
  omega
theorem bdigs_lt {l : List UInt8} (h : digB l = true) : ∀ d, d ∈ bdigs l → d < 10 := by
 intro d hd
 unfold bdigs at hd
 rw [List.mem_reverse, List.mem_map] at hd
 obtain ⟨c, hc, rfl⟩ := hd
 have := digB_iff.1 h c hc
 omega
theorem sval_abs (l : List UInt8) : (sval l).natAbs = dval (bdigs (unsign l)) := by
 have := uvalF_digs (unsign l) 0
 unfold sval
 split <;> omega

end Go.Proofs.YtagchljgmjmlcaaGreatDoor
