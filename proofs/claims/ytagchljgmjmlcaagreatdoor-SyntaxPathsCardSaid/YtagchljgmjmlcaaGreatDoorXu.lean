/- Texts of the proof, one behind the other: Qf, Qg, Qh, Qi, Qj, Bt, Bu, Qk, Ql, Bv, Qm, Qn, Qo, Qp, Qq, Qr. -/
import Derived.Test.YtagchljgmjmlcaaGreatDoorXt
import Derived.Test.YtagchljgmjmlcaaGreatDoorXg
import Derived.Test.YtagchljgmjmlcaaGreatDoorXm
import Derived.Deep.CutBlock
import Derived.Deep.RegionLawGrows
import Derived.Deep.Cut
import Derived.Deep.CutRange
import Derived.WalkKit
import Derived.WalkLawsBesides
import Derived.WalkSpells
import Derived.Deep.QuietTactic
import Derived.BigRegion
import Derived.BigQuiet
import Derived.Lib.Hide
import Derived.Outline
import Derived.Deep.AppendLies
import Derived.Deep.RegionLaw
import Derived.Deep.RegionWith
import Derived.Deep.RegionHeld3
import Derived.Deep.LoopGhost
import Derived.Deep.DeepFit
import Derived.Laws.ResultCell
import Derived.Laws.RangeAny
import Derived.Deep.MidRow
import Derived.StillTailTactics
import Derived.OpenShut
namespace Go.Proofs.YtagchljgmjmlcaaGreatDoor
set_option linter.unusedVariables false
open Go.RowKit Go
set_option maxRecDepth 100000
set_option maxHeartbeats 40000000

def Bd (rs : List Int) (One : Nat → PT → Nat → Nat → Prop) : Prop := ∀ p t e d, One p t e d → p ≤ rs.length → p < e ∧ e ≤ rs.length
theorem AtomP.bd {rs : List Int} {P : Nat → PT → Nat → Nat → Prop} (hv : ∀ r, r ∈ rs → signR r = true) (hP : Bd rs P) : Bd rs (AtomP rs P) := fun p t e d h hp => by
 cases h with
 | paren _ e0 _ h1 h2 h3 =>
  have m1 : p < markTo rs p (mk1 40) ∧ markTo rs p (mk1 40) ≤ rs.length := (mark_in h1 hp).2
  have h4 := hP _ _ _ _ h2 m1.2
  have m2 : e0 < markTo rs e0 (mk1 41) ∧ markTo rs e0 (mk1 41) ≤ rs.length := (mark_in h3 h4.2).2
  exact ⟨by omega, m2.2⟩
 | back _ i h1 h2 h3 =>
  have m1 : p < markTo rs p (mk1 94) ∧ markTo rs p (mk1 94) ≤ rs.length := (mark_in h2 hp).2
  have h4 := h3.pos hv m1.2
  exact ⟨by omega, h4.2⟩
 | step _ i h1 h2 h3 => exact h3.pos hv hp
theorem StepP.bd {rs : List Int} {P : Nat → PT → Nat → Nat → Prop} (hv : ∀ r, r ∈ rs → signR r = true) (hP : Bd rs P) : Bd rs (StepP rs P) := fun p t e d h hp => by
 cases h with
 | plain _ _ _ h1 h2 => exact AtomP.bd hv hP _ _ _ _ h1 hp
 | often t0 e0 d0 h1 h2 =>
  have h4 := AtomP.bd hv hP _ _ _ _ h1 hp
  have hm : markAt rs e0 (mk1 (oftenX (oftenP rs e0))) = true := by
   rcases often_cases rs e0 with ⟨h3, _⟩ | ⟨h3, a⟩ | ⟨h3, a, b'⟩ | ⟨h3, a, b', c'⟩
   · exact absurd h3 h2
   · rw [h3]; exact a
   · rw [h3]; exact b'
   · rw [h3]; exact c'
  have m2 : e0 < markTo rs e0 (mk1 (oftenX (oftenP rs e0))) ∧ markTo rs e0 (mk1 (oftenX (oftenP rs e0))) ≤ rs.length := (mark_in hm h4.2).2
  exact ⟨by omega, m2.2⟩
theorem RunP.bd {rs : List Int} {x : UInt8} {One : Nat → PT → Nat → Nat → Prop} (hO : Bd rs One) {p e d : Nat} {ts : List PT} (h : RunP rs x One p ts e d) (hp : p ≤ rs.length) : ts.length + p ≤ e ∧ e ≤ rs.length := by
 induction h with
 | one t e d h =>
  have := hO _ _ _ _ h hp
  exact ⟨by simp; omega, this.2⟩
 | more ts t e d e1 d1 h h1 h2 ih =>
  obtain ⟨i1, i2⟩ := ih
  have m : e < markTo rs e (mk1 x) ∧ markTo rs e (mk1 x) ≤ rs.length := (mark_in h1 i2).2
  have h3 := hO _ _ _ _ h2 m.2
  refine ⟨?_, h3.2⟩
  rw [List.length_append]
  have h5 : [t].length = 1 := rfl
  omega
theorem SepP.bd {rs : List Int} {x : UInt8} {k : Int} {One : Nat → PT → Nat → Nat → Prop} (hO : Bd rs One) : Bd rs (SepP rs x k One) := fun p t e d h hp => by
 cases h with
 | one _ _ _ h h2 =>
  have := h.bd hO hp
  simp at this
  exact ⟨by omega, this.2⟩
 | many ts _ d0 h h1 h2 =>
  have := h.bd hO hp
  exact ⟨by omega, this.2⟩
theorem PathP.bd {rs : List Int} (hv : ∀ r, r ∈ rs → signR r = true) : ∀ n, Bd rs (PathP rs n)
 | 0 => fun p t e d h => h.elim
 | n + 1 => SepP.bd (SepP.bd (StepP.bd hv (PathP.bd hv n)))
theorem Sm.le {rs : List Int} {p p' : Nat} (h : Sm rs p p') (hp : p' ≤ rs.length) : p ≤ rs.length := by
 by_cases hc : p ≤ rs.length
 · exact hc
 · have h1 := skip_stop (rs := rs) (cs := [0]) (p := p) (fun h => by omega)
   have h2 := (skip_le rs [0] (rs.length - p') p' (Nat.le_refl _) hp).2
   unfold Sm at h
   omega
theorem prow1 (P : Nat → PT → Nat → Nat → Prop) (rs : List Int) (hl : rs.length ≤ 4000) (hw : wt rs ≤ 4000) (hv : ∀ r, r ∈ rs → signR r = true) (hP : Bd rs P) (HR : RowOk rs P) (p : Nat) (t : PT) (e d : Nat) (hS : SeqP rs P p t e d) (p' b c g : Nat) (A : Option Addr) (w : World) (hgb : Blk w g 89 #[.pointer (some ⟨b, 0, none⟩)]) (hgB : g ≠ b) (hp : Sm rs p p') (hg : Sg w) (h : Sc w b A c rs p') :
    Calls Tryz.prog 182 #[.pointer (some ⟨g, 0, none⟩)] w (PP rs e t w b A c) := by
 have hple := hp.le h.le
 have hy := Blk.new w 62 #[.int .i64 0, .string ⟨#[]⟩, .slice none 0 0]
 have HY := Lib.hid (show Blk (w.alloc (.cells #[.int .i64 0, .string ⟨#[]⟩, .slice none 0 0] 62)) w.heap.size 62 Z62 from hy)
 have hf0 : Fr (fun _ => False) w (w.alloc (.cells #[.int .i64 0, .string ⟨#[]⟩, .slice none 0 0] 62)) := (Fr.refl _ _).alloc _
 have HF := Lib.hid (FrN.of (b := b) hf0)
 have x0 : (w.alloc (.cells #[.int .i64 0, .string ⟨#[]⟩, .slice none 0 0] 62)).cell? ⟨g, 0, none⟩ = some (.pointer (some ⟨b, 0, none⟩)) := (hgb.fr hf0 (fun h => h)).cell 0
 have hbl := h.blk.lt
 have HC := Lib.hid (pseq (StepP rs P) rs p t e d hS (fun ts d' hr => by have := hr.bd (StepP.bd hv hP) hple; omega) p' b c A _ hp (hg.frF hf0) (h.frF hf0) (fun p t e d h1 p' w1 h2 h3 h4 => pstep P rs hw HR p t e d h1 p' b c A w1 h2 h3 h4))
 unfold PP at HC
 clear h hg hy hf0 hS hp HR hgb hv
 go_enter Tryz.func182, Tryz.ntmps182
 go_wp2_with fail
 refine HC.out.mono ?_
 generalize (w.alloc (.cells #[.int .i64 0, .string ⟨#[]⟩, .slice none 0 0] 62)) = w0 at *
 rintro e w2 ⟨k, i, A2, n2, c2, rfl, hpa, ⟨q', hsm, hs2⟩, hf2⟩
 have HY2 := Lib.hid (HY.out.fr hf2 (fun e => by omega))
 have HF2 := Lib.hid (HF.out.andB hf2)
 have HS2 := Lib.hid hs2
 have HPA := Lib.hid hpa
 have HSM := Lib.hid hsm
 have hw0 := HY.out.lt
 clear hs2 hf2 hpa hsm
 go_wp2_with ((with_reducible change wpList _ _ _ (Oper.mk _ (.store 62 _ _) _ _ _ _ :: _) _ _); refine wpList_store_blkH rfl 62 _ _ rfl _ #[.int .i64 k, .string i, .slice A2 n2 c2] rfl rfl 62 _ HY2.out (by rfl) (by exact inf62) (by exact (cells62 _ _ _ _ _).one) ?_)
 refine Lib.hid ?_
 rintro wz hbz hfz
 have HFZ := Lib.hid (HF2.out.andX hfz (Nat.le_refl _)).done
 have HSZ := Lib.hid (HS2.out.fr hfz (fun e => by omega) (fun j hj e => own_blk_ne HS2.out.row HY2.out (by decide) (by rw [hj, e])))
 go_wp2_with fail
 exact bodyPost_ret (v := .agg #[.int .i64 k, .string i, .slice A2 n2 c2]) (results_cell_row rfl _ _ w.heap.size 62 _ (0, 0) _ rfl hbz Tryz.underlying62 rfl inf62) rfl ⟨_, _, _, _, _, rfl, (HPA.out.frN (by omega) hfz).base (by omega), ⟨_, HSM.out, HSZ.out⟩, HFZ.out⟩
theorem prow (P : Nat → PT → Nat → Nat → Prop) (rs : List Int) (hl : rs.length ≤ 4000) (hw : wt rs ≤ 4000) (hv : ∀ r, r ∈ rs → signR r = true) (hP : Bd rs P) (HR : RowOk rs P) : RowOk rs (SepP rs 124 3 (SeqP rs P)) := by
 intro p t e d hA p' b c A w hp hg h
 have hple := hp.le h.le
 have hx := Blk.new w 89 #[.pointer (some ⟨b, 0, none⟩)]
 have hy := Blk.new (w.alloc (.cells #[.pointer (some ⟨b, 0, none⟩)] 89)) 62 #[.int .i64 0, .string ⟨#[]⟩, .slice none 0 0]
 rw [show (w.alloc (.cells #[.pointer (some ⟨b, 0, none⟩)] 89)).heap.size = w.heap.size + 1 by simp] at hy
 have HX := Lib.hid (show Blk ((w.alloc (.cells #[.pointer (some ⟨b, 0, none⟩)] 89)).alloc (.cells #[.int .i64 0, .string ⟨#[]⟩, .slice none 0 0] 62)) w.heap.size 89 #[.pointer (some ⟨b, 0, none⟩)] from hx.alloc _)
 have HY := Lib.hid (show Blk ((w.alloc (.cells #[.pointer (some ⟨b, 0, none⟩)] 89)).alloc (.cells #[.int .i64 0, .string ⟨#[]⟩, .slice none 0 0] 62)) (w.heap.size + 1) 62 Z62 from hy)
 have hf0 : Fr (fun _ => False) w ((w.alloc (.cells #[.pointer (some ⟨b, 0, none⟩)] 89)).alloc (.cells #[.int .i64 0, .string ⟨#[]⟩, .slice none 0 0] 62)) := ((Fr.refl _ _).alloc _).alloc _
 have HF := Lib.hid (FrN.of (b := b) hf0)
 have HS := Lib.hid (h.frF hf0)
 have HG := Lib.hid (hg.frF hf0)
 have x0 : ((w.alloc (.cells #[.pointer (some ⟨b, 0, none⟩)] 89)).alloc (.cells #[.int .i64 0, .string ⟨#[]⟩, .slice none 0 0] 62)).cell? ⟨w.heap.size, 0, none⟩ = some (.pointer (some ⟨b, 0, none⟩)) := HX.out.cell 0
 have hbl := h.blk.lt
 have HC := Lib.hid (palt (SeqP rs P) rs p t e d hA (fun ts d' hr => by have := hr.bd (SepP.bd (StepP.bd hv hP)) hple; omega) p' b c w.heap.size A _ hp HG.out HS.out HX.out (by omega) (fun p t e d h1 p' w1 h2 h3 h4 h5 => prow1 P rs hl hw hv hP HR p t e d h1 p' b c w.heap.size A w1 h2 (by omega) h3 h4 h5))
 unfold PP at HC
 clear h hg hx hy hf0 hA hp HR hv
 go_enter Tryz.func163, Tryz.ntmps163
 go_wp2_with fail
 refine HC.out.mono ?_
 generalize ((w.alloc (.cells #[.pointer (some ⟨b, 0, none⟩)] 89)).alloc (.cells #[.int .i64 0, .string ⟨#[]⟩, .slice none 0 0] 62)) = w0 at *
 rintro e w2 ⟨k, i, A2, n2, c2, rfl, hpa, ⟨q', hsm, hs2⟩, hf2⟩
 have hx := HX.out.fr hf2 (fun e => by omega)
 have x2 : w2.cell? ⟨w.heap.size, 0, none⟩ = some (.pointer (some ⟨b, 0, none⟩)) := hx.cell 0
 have HX2 := Lib.hid hx
 have HY2 := Lib.hid (HY.out.fr hf2 (fun e => by omega))
 have HS2 := Lib.hid hs2
 have HF2 := Lib.hid (HF.out.andB hf2)
 have HG2 := Lib.hid (HG.out.frB HS.out.blk (by decide) hf2)
 have HPA := Lib.hid hpa
 have HSM := Lib.hid hsm
 have hw0 := HY.out.lt
 clear hx hs2 hf2 hpa hsm x0
 go_wp2_with (first | ((with_reducible change wpList _ _ _ (Oper.mk _ (.store 62 _ _) _ _ _ _ :: _) _ _); refine wpList_store_blkH rfl 62 _ _ rfl _ #[.int .i64 k, .string i, .slice A2 n2 c2] rfl rfl 62 _ HY2.out (by rfl) (by exact inf62) (by exact (cells62 _ _ _ _ _).one) ?_))
 refine Lib.hid ?_
 rintro wz hbz hfz
 have HFZ := Lib.hid (HF2.out.andX hfz (by omega)).done
 have HSZ := Lib.hid (HS2.out.fr hfz (fun e => by omega) (fun j hj e => own_blk_ne HS2.out.row HY2.out (by decide) (by rw [hj, e])))
 go_wp2_with fail
 exact bodyPost_ret (v := .agg #[.int .i64 k, .string i, .slice A2 n2 c2]) (results_cell_row rfl _ _ (w.heap.size + 1) 62 _ (0, 0) _ rfl hbz Tryz.underlying62 rfl inf62) rfl ⟨_, _, _, _, _, rfl, ((HPA.out.frN (by omega) hfz).base (by omega)), ⟨_, HSM.out, HSZ.out⟩, HFZ.out⟩

theorem row_ok (rs : List Int) (hl : rs.length ≤ 4000) (hw : wt rs ≤ 4000) (hv : ∀ r, r ∈ rs → signR r = true) : ∀ n, RowOk rs (PathP rs n)
 | 0 => fun p t e d h => h.elim
 | n + 1 => prow (PathP rs n) rs hl hw hv (PathP.bd hv n) (row_ok rs hl hw hv n)

theorem flat3 : ∀ (L : List (List Value)) (j m : Nat), (∀ l ∈ L, l.length = 3) → m < 3 → L.flatten[3 * j + m]? = (L[j]?).bind (fun l => l[m]?)
 | [], j, m, h, hm => by simp
 | l :: L, 0, m, h, hm => by
  rw [List.flatten_cons, List.getElem?_append_left (by rw [h l List.mem_cons_self]; omega)]
  simp
 | l :: L, j + 1, m, h, hm => by
  have hl := h l List.mem_cons_self
  rw [List.flatten_cons, List.getElem?_append_right (by rw [hl]; omega), hl, show 3 * (j + 1) + m - 3 = 3 * j + m by omega, flat3 L j m (fun x hx => h x (List.mem_cons_of_mem _ hx)) hm]
  simp
theorem row_range {w : World} {B e n c g : Nat} {L : List (List Value)} (h : w.ownsRow B e 3 (.slice (some ⟨g, 0, none⟩) n c) n L.flatten) (h3 : ∀ l ∈ L, l.length = 3) {j : Nat} {l : List Value} (hl : L[j]? = some l) : w.rangeAt g (3 * j) l := by
 intro m v hv
 have hlen := h3 l (List.mem_of_getElem? hl)
 have hm : m < 3 := by have := (List.getElem?_eq_some_iff.1 hv).1; omega
 have hf := flat3 L j m h3 hm
 rw [hl] at hf
 have hf : L.flatten[3 * j + m]? = some v := hf.trans hv
 rcases h.2 with ⟨h0, _⟩ | ⟨gg, cap, cur, h0, _, hh, _, _, _, ht⟩
 · cases h0
 · injection h0 with h0 _ _
   injection h0 with h0
   injection h0 with h0
   subst h0
   rw [cell_of_row w g (3 * j + m) cur e (0, 0) hh, ← Array.getElem?_toList]
   rw [← ht, List.getElem?_take] at hf
   split at hf
   · exact hf
   · cases hf
/-- A path's part, in memory. -/
def PartAt (w : World) (B : Nat) (A : Option Addr) (c : Nat) (ts : List PT) (L : List (List Value)) : Prop :=
 L.length = ts.length ∧ (∀ (i : Nat) t l, ts[i]? = some t → L[i]? = some l → PAt 62 w B t l) ∧ w.ownsRow B 62 3 (.slice A ts.length c) ts.length L.flatten
theorem PartAt.frF {w w' : World} {B c : Nat} {A : Option Addr} {ts : List PT} {L : List (List Value)} (h : PartAt w B A c ts L) (hf : Fr (fun _ => False) w w') : PartAt w' B A c ts L :=
 ⟨h.1, fun i t l h1 h2 => (h.2.1 i t l h1 h2).frF hf, ownsRow_fr h.2.2 hf (fun _ _ h => h)⟩
theorem PartAt.three {w : World} {B c : Nat} {A : Option Addr} {ts : List PT} {L : List (List Value)} (h : PartAt w B A c ts L) : ∀ l ∈ L, l.length = 3 := fun l hl => by
 obtain ⟨i, hi⟩ := List.getElem?_of_mem hl
 have hlt := (List.getElem?_eq_some_iff.1 hi).1
 have ht := List.getElem?_eq_getElem (l := ts) (i := i) (by rw [← h.1]; exact hlt)
 obtain ⟨k, t, A', n, c', rfl⟩ := (h.2.1 i _ l ht hi).cells
 rfl
theorem pidx (lb left : Nat) (B c : Nat) (A : Option Addr) (ts : List PT) (L : List (List Value)) (w : World) (h : PartAt w B A c ts L) (hlen : ts.length ≤ 5000)
    (HC : ∀ (w1 : World) (t : PT) (l : List Value), t ∈ ts → Fr (fun _ => False) w w1 → PAt 62 w1 B t l → Calls Tryz.prog 185 #[.agg l.toArray, .pointer (some ⟨lb, 0, none⟩)] w1 (IsB false w1)) :
    Calls Tryz.prog 202 #[.slice A ts.length c, .func (.func 185) #[] #[.pointer (some ⟨lb, 0, none⟩)]] w fun e w' => e = .returned (.int .i64 (-1)) ∧ Fr (fun _ => False) w w' := by
 have HP := Lib.hid h
 have HCC := Lib.hid HC
 have hcap : (ts.length : Int) ≤ (c : Int) := by
  rcases h.2.2.2 with ⟨h0, h1⟩ | ⟨gg, cap, cur, h0, _, _, hc, _⟩
  · omega
  · injection h0 with _ _ h0
    omega
 obtain ⟨n, hn⟩ : ∃ n, n = ts.length := ⟨_, rfl⟩
 rw [← hn] at hlen hcap ⊢
 have HN := Lib.hid hn
 clear h HC hn
 go_enter Tryz.func202, Tryz.ntmps202
 go_wp2_with fail
 go_loopg [8] (n) (fun gk a wr => ∃ j : Nat, a = .int .i64 (j : Int) ∧ n ≤ j + gk ∧ j ≤ n ∧ Fr (fun _ => False) w wr)
 case atStart => exact ⟨0, rfl, by omega, by omega, Fr.refl _ _⟩
 case round =>
  obtain ⟨j, rfl, hgk, hj, hf⟩ := hrel
  have HF := Lib.hid hf
  clear hf
  by_cases hjn : j < n
  · have hp := HP.out.frF HF.out
    have hjt : j < ts.length := by rw [← HN.out]; exact hjn
    have hjL : j < L.length := by rw [hp.1]; exact hjt
    have h1 := List.getElem?_eq_getElem hjL
    have h2 := List.getElem?_eq_getElem hjt
    have hpa := hp.2.1 j _ _ h2 h1
    obtain ⟨g, hA⟩ : ∃ g, A = some ⟨g, 0, none⟩ := by
     rcases hp.2.2.2 with ⟨h0, h1⟩ | ⟨gg, cap, cur, h0, _⟩
     · omega
     · injection h0 with h0 _ _
       exact ⟨gg, h0⟩
    subst hA
    have HRA := Lib.hid (row_range hp.2.2 hp.three h1)
    have HCL := Lib.hid (HCC.out wr ts[j] L[j] (List.getElem_mem _) HF.out hpa)
    obtain ⟨k, i, A2, n2, c2, hl⟩ := hpa.cells
    rw [hl, Nat.mul_comm] at HRA
    rw [hl] at HCL
    clear h1 h2 hpa hp hl hjL hjt
    have hj0 : (0 : Int) ≤ (j : Int) := by omega
    have hjn2 : (j : Int) < (n : Int) := by omega
    go_wp2_with ((with_reducible change wpList _ _ _ (Oper.mk _ (.load 62 _) _ _ _ _ :: _) _ _); refine wpList_load_mid rfl 62 _ rfl _ _ rfl _ _ HRA.out Tryz.underlying62 rfl inf62 ?_)
    refine HCL.out.mono ?_
    rintro e w2 ⟨rfl, hf2⟩
    go_wp2_with fail
    go_roundg (n - (j + 1))
    case measure => omega
    case rel => exact ⟨j + 1, rfl, by omega, by omega, HF.out.trans' hf2⟩
  · obtain rfl : j = n := by omega
    go_wp2_with fail
    go_ret
    exact ⟨rfl, HF.out⟩

theorem phas (lb left : Nat) (B c : Nat) (A : Option Addr) (ts : List PT) (L : List (List Value)) (w : World) (h : PartAt w B A c ts L) (hlen : ts.length ≤ 5000)
    (HC : ∀ (w1 : World) (t : PT) (l : List Value), t ∈ ts → Fr (fun _ => False) w w1 → PAt 62 w1 B t l → Calls Tryz.prog 185 #[.agg l.toArray, .pointer (some ⟨lb, 0, none⟩)] w1 (IsB false w1)) :
    Calls Tryz.prog 184 #[.slice A ts.length c, .func (.func 185) #[] #[.pointer (some ⟨lb, 0, none⟩)]] w (IsB false w) := by
 have HI := Lib.hid (pidx lb left B c A ts L w h hlen HC)
 generalize ts.length = n at *
 clear h HC
 go_enter Tryz.func184, Tryz.ntmps184
 go_wp2_with fail
 refine HI.out.mono ?_
 rintro e w1 ⟨rfl, hf1⟩
 go_wp2_with fail
 go_ret
 exact IsB.mk hf1
/-- How many parts stand side by side. -/
inductive Wide : PT → Prop
 | leaf (k : Int) (i : ByteArray) : Wide (.leaf k i)
 | node (k : Int) (ts : List PT) (hl : ts.length ≤ 5000) (h : ∀ t, t ∈ ts → Wide t) : Wide (.node k ts)
def DeepFalse (left : Nat) : Prop := ∀ (t : PT) (d : Nat), DeepIs t d → Wide t → d ≤ left → ∀ (w : World) (B : Nat) (l : List Value), PAt 62 w B t l → Calls Tryz.prog 164 #[.agg l.toArray, .int .i64 (left : Int)] w (IsB false w)
theorem pdeep1 (left : Nat) (hl : left < 40) (HD : DeepFalse left) (t : PT) (d : Nat) (hd : DeepIs t d) (hw : Wide t) (hdl : d ≤ left) (w : World) (B lb : Nat) (l : List Value) (h : PAt 62 w B t l) (hlb : Blk w lb 3 #[.int .i64 ((left + 1 : Nat) : Int)]) :
    Calls Tryz.prog 185 #[.agg l.toArray, .pointer (some ⟨lb, 0, none⟩)] w (IsB false w) := by
 obtain ⟨k, i, A, n, c, rfl⟩ := h.cells
 have hf : Fr (fun _ => False) w (w.alloc (.cells #[.int .i64 k, .string i, .slice A n c] 62)) := (Fr.refl _ _).alloc _
 have HB := Lib.hid (show Blk (w.alloc (.cells #[.int .i64 k, .string i, .slice A n c] 62)) w.heap.size 62 #[.int .i64 k, .string i, .slice A n c] from Blk.new w 62 _)
 have l0 : (w.alloc (.cells #[.int .i64 k, .string i, .slice A n c] 62)).cell? ⟨lb, 0, none⟩ = some (.int .i64 ((left + 1 : Nat) : Int)) := (hlb.fr hf (fun h => h)).cell 0
 have HC := Lib.hid (HD t d hd hw hdl _ B _ (h.frF hf))
 have HF := Lib.hid hf
 have hl0 : (0 : Int) ≤ (left : Int) := by omega
 have hl4 : (left : Int) < 40 := by omega
 have e1 : ((left + 1 : Nat) : Int) = (left : Int) + 1 := by omega
 rw [e1] at l0
 clear h hlb hf hd hw hdl HD e1
 go_enter Tryz.func185, Tryz.ntmps185
 go_wp2_with ((with_reducible change wpList _ _ _ (Oper.mk _ (.load 62 _) _ _ _ _ :: _) _ _); refine wpList_load_blk rfl 62 _ rfl _ rfl 62 _ HB.out _ Tryz.underlying62 rfl inf62 ?_)
 refine HC.out.mono ?_
 rintro e w2 ⟨rfl, hf2⟩
 go_wp2_with fail
 go_ret
 exact IsB.mk (HF.out.trans' hf2)
theorem pdeep : ∀ left : Nat, left ≤ 40 → DeepFalse left
 | 0, hl => fun t d hd hw hdl => absurd hd.pos (by omega)
 | left + 1, hl => fun t d hd hw hdl w B l h => by
  have IH := pdeep left (by omega)
  have hbne : (((left + 1 : Nat) : Int) == 0) = false := by simp; omega
  cases hd with
  | leaf k i =>
   cases h with
   | leaf _ _ =>
    have HH := Lib.hid (fun w1 => has332_nil (.func (.func 185) #[] #[.pointer (some ⟨w.heap.size + 1, 0, none⟩)]) w1)
    generalize ((left + 1 : Nat) : Int) = m at *
    clear hw hdl IH
    have hf : Fr (fun _ => False) w ((w.alloc (.cells #[.int .i64 k, .string i, .slice none 0 0] 62)).alloc (.cells #[.int .i64 m] 3)) := ((Fr.refl _ _).alloc _).alloc _
    have HF := Lib.hid hf
    clear hf
    go_enter Tryz.func164, Tryz.ntmps164
    go_wp2_with fail
    refine (HH.out _).mono ?_
    rintro e w1 ⟨rfl, rfl⟩
    go_wp2_with fail
    go_ret
    exact IsB.mk HF.out
  | node k ts d f u h1 h2 h3 h4 =>
   cases h with
   | node _ _ A c L hL hp hr =>
    cases hw with
    | node _ _ hlen hww =>
     have hf : Fr (fun _ => False) w ((w.alloc (.cells #[.int .i64 k, .string ⟨#[]⟩, .slice A ts.length c] 62)).alloc (.cells #[.int .i64 ((left + 1 : Nat) : Int)] 3)) := ((Fr.refl _ _).alloc _).alloc _
     have hz : (w.alloc (.cells #[.int .i64 k, .string ⟨#[]⟩, .slice A ts.length c] 62)).heap.size = w.heap.size + 1 := by simp
     have hlb := Blk.new (w.alloc (.cells #[.int .i64 k, .string ⟨#[]⟩, .slice A ts.length c] 62)) 3 #[.int .i64 ((left + 1 : Nat) : Int)]
     rw [hz] at hlb
     have HC := Lib.hid (phas (w.heap.size + 1) left B c A ts L _ (PartAt.frF ⟨hL, hp, hr⟩ hf) hlen (fun w1 t l ht hfw hpa => pdeep1 left (by omega) IH t (f t) (h1 t ht) (hww t ht) (Nat.le_trans (h2 t ht) (by omega)) w1 B (w.heap.size + 1) l hpa (hlb.fr hfw (fun h => h))))
     have HF := Lib.hid hf
     have c2 : (w.alloc (.cells #[.int .i64 k, .string ⟨#[]⟩, .slice A ts.length c] 62)).cell? ⟨w.heap.size, 2, none⟩ = some (.slice A ts.length c) := (Blk.new w 62 #[.int .i64 k, .string ⟨#[]⟩, .slice A ts.length c]).cell 2
     generalize ((left + 1 : Nat) : Int) = m at *
     generalize ts.length = n at *
     clear hf hlb hp hr hL hww h1 h2 h3 h4 IH hdl hlen
     go_enter Tryz.func164, Tryz.ntmps164
     go_wp2_with fail
     refine HC.out.mono ?_
     rintro e w1 ⟨rfl, hf1⟩
     go_wp2_with fail
     go_ret
     exact IsB.mk (HF.out.trans' hf1)

def Wd (rs : List Int) (One : Nat → PT → Nat → Nat → Prop) : Prop := ∀ p t e d, One p t e d → p ≤ rs.length → Wide t
theorem AtomP.wd {rs : List Int} {P : Nat → PT → Nat → Nat → Prop} (hP : Wd rs P) : Wd rs (AtomP rs P) := fun p t e d h hp => by
 cases h with
 | paren _ e0 _ h1 h2 h3 => exact hP _ _ _ _ h2 (mark_in h1 hp).2.2
 | back _ i h1 h2 h3 => exact .leaf _ _
 | step _ i h1 h2 h3 => exact .leaf _ _
theorem StepP.wd {rs : List Int} {P : Nat → PT → Nat → Nat → Prop} (hP : Wd rs P) : Wd rs (StepP rs P) := fun p t e d h hp => by
 cases h with
 | plain _ _ _ h1 h2 => exact AtomP.wd hP _ _ _ _ h1 hp
 | often t0 e0 d0 h1 h2 => exact .node _ _ (by simp) (fun t ht => by rw [List.mem_singleton.1 ht]; exact AtomP.wd hP _ _ _ _ h1 hp)
theorem RunP.wd {rs : List Int} {x : UInt8} {One : Nat → PT → Nat → Nat → Prop} (hB : Bd rs One) (hO : Wd rs One) {p e d : Nat} {ts : List PT} (h : RunP rs x One p ts e d) (hp : p ≤ rs.length) : ∀ t, t ∈ ts → Wide t := by
 induction h with
 | one t e d h => exact fun u hu => by rw [List.mem_singleton.1 hu]; exact hO _ _ _ _ h hp
 | more ts t e d e1 d1 h h1 h2 ih =>
  intro u hu
  rcases List.mem_append.1 hu with hu | hu
  · exact ih u hu
  · rw [List.mem_singleton.1 hu]
    exact hO _ _ _ _ h2 (mark_in h1 (h.bd hB hp).2).2.2
theorem SepP.wd {rs : List Int} {x : UInt8} {k : Int} {One : Nat → PT → Nat → Nat → Prop} (hl : rs.length ≤ 4000) (hB : Bd rs One) (hO : Wd rs One) : Wd rs (SepP rs x k One) := fun p t e d h hp => by
 cases h with
 | one _ _ _ h h2 => exact h.wd hB hO hp t (List.mem_singleton.2 rfl)
 | many ts _ d0 h h1 h2 => exact .node _ _ (by have := h.bd hB hp; omega) (h.wd hB hO hp)
theorem PathP.wd {rs : List Int} (hl : rs.length ≤ 4000) (hv : ∀ r, r ∈ rs → signR r = true) : ∀ n, Wd rs (PathP rs n)
 | 0 => fun p t e d h => h.elim
 | n + 1 => SepP.wd hl (SepP.bd (StepP.bd hv (PathP.bd hv n))) (SepP.wd hl (StepP.bd hv (PathP.bd hv n)) (StepP.wd (PathP.wd hl hv n)))
theorem path_ok (n : Nat) (rs : List Int) (hl : rs.length ≤ 4000) (hw : wt rs ≤ 4000) (hv : ∀ r, r ∈ rs → signR r = true) (p : Nat) (t : PT) (e d : Nat) (hA : PathP rs n p t e d) (hd : d ≤ 40) (p' b c : Nat) (A : Option Addr) (w : World) (hp : Sm rs p p') (hg : Sg w) (h : Sc w b A c rs p') :
    Calls Tryz.prog 136 #[.agg #[.pointer (some ⟨b, 0, none⟩)]] w (PP rs e t w b A c) := by
 have hple := hp.le h.le
 have hdi := hA.deep
 have hwi := PathP.wd hl hv n _ _ _ _ hA hple
 have hx := Blk.new w 89 #[.pointer (some ⟨b, 0, none⟩)]
 have hy := Blk.new (w.alloc (.cells #[.pointer (some ⟨b, 0, none⟩)] 89)) 62 #[.int .i64 0, .string ⟨#[]⟩, .slice none 0 0]
 rw [show (w.alloc (.cells #[.pointer (some ⟨b, 0, none⟩)] 89)).heap.size = w.heap.size + 1 by simp] at hy
 have HX := Lib.hid (show Blk ((w.alloc (.cells #[.pointer (some ⟨b, 0, none⟩)] 89)).alloc (.cells #[.int .i64 0, .string ⟨#[]⟩, .slice none 0 0] 62)) w.heap.size 89 #[.pointer (some ⟨b, 0, none⟩)] from hx.alloc _)
 have HY := Lib.hid (show Blk ((w.alloc (.cells #[.pointer (some ⟨b, 0, none⟩)] 89)).alloc (.cells #[.int .i64 0, .string ⟨#[]⟩, .slice none 0 0] 62)) (w.heap.size + 1) 62 Z62 from hy)
 have hf0 : Fr (fun _ => False) w ((w.alloc (.cells #[.pointer (some ⟨b, 0, none⟩)] 89)).alloc (.cells #[.int .i64 0, .string ⟨#[]⟩, .slice none 0 0] 62)) := ((Fr.refl _ _).alloc _).alloc _
 have HF := Lib.hid (FrN.of (b := b) hf0)
 have HS := Lib.hid (h.frF hf0)
 have HG := Lib.hid (hg.frF hf0)
 have x0 : ((w.alloc (.cells #[.pointer (some ⟨b, 0, none⟩)] 89)).alloc (.cells #[.int .i64 0, .string ⟨#[]⟩, .slice none 0 0] 62)).cell? ⟨w.heap.size, 0, none⟩ = some (.pointer (some ⟨b, 0, none⟩)) := HX.out.cell 0
 have hbl := h.blk.lt
 have HB := Lib.hid (blanks_sc b c p' A rs _ HS.out)
 have HPL := Lib.hid (fun w1 h1 => place_sc b c (skip rs [0] p') A rs w1 h1)
 have HRW := Lib.hid (fun w1 hg1 h1 => row_ok rs hl hw hv n p t e d hA (skip rs [0] p') b c A w1 (hp.trans Sm.skip) hg1 h1)
 have HDP := Lib.hid (fun w1 B l h1 => pdeep 40 (Nat.le_refl _) t d hdi hwi hd w1 B l h1)
 generalize skip rs [0] p' = p1 at *
 unfold PP at HRW
 clear h hg hx hy hf0 hA hp hv hdi hwi hd
 go_enter Tryz.func136, Tryz.ntmps136
 go_wp2_with fail
 refine HB.out.mono ?_
 generalize ((w.alloc (.cells #[.pointer (some ⟨b, 0, none⟩)] 89)).alloc (.cells #[.int .i64 0, .string ⟨#[]⟩, .slice none 0 0] 62)) = w0 at *
 rintro e w1 ⟨⟨kk, rfl⟩, hs1, hf1⟩
 have hx := HX.out.fr hf1 (fun e => by omega)
 have x1 : w1.cell? ⟨w.heap.size, 0, none⟩ = some (.pointer (some ⟨b, 0, none⟩)) := hx.cell 0
 have HX1 := Lib.hid hx
 have HY1 := Lib.hid (HY.out.fr hf1 (fun e => by omega))
 have HS1 := Lib.hid hs1
 have HF1 := Lib.hid (HF.out.andB hf1)
 have HG1 := Lib.hid (HG.out.frB HS.out.blk (by decide) hf1)
 clear hx hs1 hf1 x0
 go_wp2_with fail
 refine (HPL.out w1 HS1.out).mono ?_
 rintro e w1 ⟨rfl, rfl⟩
 go_wp2_with fail
 refine (HRW.out w1 HG1.out HS1.out).mono ?_
 rintro e w2 ⟨k, i, A2, n2, c2, rfl, hpa, ⟨q', hsm, hs2⟩, hf2⟩
 have hx := HX1.out.fr hf2 (fun e => by omega)
 have x2 : w2.cell? ⟨w.heap.size, 0, none⟩ = some (.pointer (some ⟨b, 0, none⟩)) := hx.cell 0
 have HX2 := Lib.hid hx
 have HY2 := Lib.hid (HY1.out.fr hf2 (fun e => by omega))
 have HS2 := Lib.hid hs2
 have HF2 := Lib.hid (HF1.out.andB hf2)
 have HG2 := Lib.hid (HG1.out.frB HS1.out.blk (by decide) hf2)
 have HSM := Lib.hid hsm
 have hw1 := HY1.out.lt
 have hs12 := hf2.size
 have hfa : Fr (fun _ => False) w2 (w2.alloc (.cells #[.int .i64 k, .string i, .slice A2 n2 c2] 62)) := (Fr.refl _ _).alloc _
 have HN3 := Lib.hid (show Blk (w2.alloc (.cells #[.int .i64 k, .string i, .slice A2 n2 c2] 62)) w2.heap.size 62 #[.int .i64 k, .string i, .slice A2 n2 c2] from Blk.new w2 62 #[.int .i64 k, .string i, .slice A2 n2 c2])
 have hpa3 := hpa.frF hfa
 have HPA3 := Lib.hid hpa3
 have HD3 := Lib.hid (HDP.out _ _ _ hpa3)
 have HY3 := Lib.hid (HY2.out.fr hfa (fun h => h))
 have HS3 := Lib.hid (HS2.out.frF hfa)
 have HF3 := Lib.hid (HF2.out.andF hfa)
 clear hx hs2 hf2 hpa hsm hfa x1 x2 hpa3 HDP
 go_wp2_with ((with_reducible change wpList _ _ _ (Oper.mk _ (.load 62 _) _ _ _ _ :: _) _ _); refine wpList_load_blk rfl 62 _ rfl _ rfl 62 #[.int .i64 k, .string i, .slice A2 n2 c2] HN3.out _ Tryz.underlying62 rfl inf62 ?_)
 refine HD3.out.mono ?_
 rintro e w4 ⟨rfl, hf4⟩
 generalize w2.alloc (.cells #[.int .i64 k, .string i, .slice A2 n2 c2] 62) = w3 at *
 have HN4 := Lib.hid (HN3.out.fr hf4 (fun h => h))
 have HPA4 := Lib.hid (HPA3.out.frF hf4)
 have HY4 := Lib.hid (HY3.out.fr hf4 (fun h => h))
 have HS4 := Lib.hid (HS3.out.frF hf4)
 have HF4 := Lib.hid (HF3.out.andF hf4)
 clear hf4
 go_wp2_with (first | ((with_reducible change wpList _ _ _ (Oper.mk _ (.load 62 _) _ _ _ _ :: _) _ _); refine wpList_load_blk rfl 62 _ rfl _ rfl 62 #[.int .i64 k, .string i, .slice A2 n2 c2] HN4.out _ Tryz.underlying62 rfl inf62 ?_) | ((with_reducible change wpList _ _ _ (Oper.mk _ (.store 62 _ _) _ _ _ _ :: _) _ _); refine wpList_store_blkH rfl 62 _ _ rfl _ #[.int .i64 k, .string i, .slice A2 n2 c2] rfl rfl 62 _ HY4.out (by rfl) (by exact inf62) (by exact (cells62 _ _ _ _ _).one) ?_))
 refine Lib.hid ?_
 rintro wz hbz hfz
 have HFZ := Lib.hid (HF4.out.andX hfz (by omega)).done
 have HSZ := Lib.hid (HS4.out.fr hfz (fun e => by omega) (fun j hj e => own_blk_ne HS4.out.row HY4.out (by decide) (by rw [hj, e])))
 go_wp2_with fail
 exact bodyPost_ret (v := .agg #[.int .i64 k, .string i, .slice A2 n2 c2]) (results_cell_row rfl _ _ (w.heap.size + 1) 62 _ (0, 0) _ rfl hbz Tryz.underlying62 rfl inf62) rfl ⟨_, _, _, _, _, rfl, ((HPA4.out.frN (by omega) hfz).base (by omega)), ⟨_, HSM.out, HSZ.out⟩, HFZ.out⟩

abbrev Z68 : Array Value := #[.int .i64 0, .string ⟨#[]⟩, .nilIface, .string ⟨#[]⟩, .nilIface, .string ⟨#[]⟩, .nilIface, .int .i64 0, .string ⟨#[]⟩, .slice none 0 0, .string ⟨#[]⟩, .string ⟨#[]⟩, .nilIface, .slice none 0 0, .string ⟨#[]⟩, .string ⟨#[]⟩, .slice none 0 0]
theorem inf68 : (Tryz.prog.info? 68).map (·.size) = some 17 := by kernel_rfl
theorem infz68 : (Tryz.prog.info? 68).bind (·.zero) = some (.agg Z68) := by kernel_rfl
theorem inf68c {cs : Array Value} (h : CellsN 17 cs) : (Tryz.prog.info? 68).map (·.size) = some cs.size := by rw [h.sz]; exact inf68
theorem cells17 (v1 v2 v3 : ByteArray) (o3 : Value) (ho3 : o3.oneCell' = true) (k : Int) (i : ByteArray) (A2 : Option Addr) (n2 c2 : Nat) : CellsN 17 #[.int .i64 0, .string v1, .nilIface, .string v2, .nilIface, .string v3, o3, .int .i64 k, .string i, .slice A2 n2 c2, .string ⟨#[]⟩, .string ⟨#[]⟩, .nilIface, .slice none 0 0, .string ⟨#[]⟩, .string ⟨#[]⟩, .slice none 0 0] := ⟨rfl, all_oneCell_toArray (cs := [.int .i64 0, .string v1, .nilIface, .string v2, .nilIface, .string v3, o3, .int .i64 k, .string i, .slice A2 n2 c2, .string ⟨#[]⟩, .string ⟨#[]⟩, .nilIface, .slice none 0 0, .string ⟨#[]⟩, .string ⟨#[]⟩, .slice none 0 0]) (by
 intro v hv
 simp only [List.mem_cons, List.not_mem_nil, or_false] at hv
 rcases hv with rfl | rfl | rfl | rfl | rfl | rfl | rfl | rfl | rfl | rfl | rfl | rfl | rfl | rfl | rfl | rfl | rfl <;> first | rfl | exact ho3)⟩
theorem bld68 (v1 : ByteArray) : Tryz.prog.built 68 [(0, .int .i64 0), (1, .agg #[.string v1, .nilIface])] = some #[.int .i64 0, .string v1, .nilIface, .string ⟨#[]⟩, .nilIface, .string ⟨#[]⟩, .nilIface, .int .i64 0, .string ⟨#[]⟩, .slice none 0 0, .string ⟨#[]⟩, .string ⟨#[]⟩, .nilIface, .slice none 0 0, .string ⟨#[]⟩, .string ⟨#[]⟩, .slice none 0 0] := by kernel_rfl
theorem cells59 (v : ByteArray) (o3 : Value) (ho3 : o3.oneCell' = true) : CellsN 2 #[.string v, o3] := ⟨rfl, all_oneCell_toArray (cs := [.string v, o3]) (by
 intro u hu
 simp only [List.mem_cons, List.not_mem_nil, or_false] at hu
 rcases hu with rfl | rfl <;> first | rfl | exact ho3)⟩
/-- A triple's tree, in memory: its path. -/
def TriP (rs : List Int) (t : PT) (v1 v3 : ByteArray) (o3 : Value) (q : Nat) (w : World) (b : Nat) (A : Option Addr) (c : Nat) (e : Ending) (w' : World) : Prop :=
 ∃ (k : Int) (i : ByteArray) (A2 : Option Addr) (n2 c2 : Nat), e = .returned (.agg #[.int .i64 0, .string v1, .nilIface, .string ⟨#[]⟩, .nilIface, .string v3, o3, .int .i64 k, .string i, .slice A2 n2 c2, .string ⟨#[]⟩, .string ⟨#[]⟩, .nilIface, .slice none 0 0, .string ⟨#[]⟩, .string ⟨#[]⟩, .slice none 0 0]) ∧ PAt 62 w' w.heap.size t [.int .i64 k, .string i, .slice A2 n2 c2] ∧ Sc w' b A c rs q ∧ Fr (fun j => j = b) w w'
theorem ptriple (t : PT) (v1 v3 : ByteArray) (o3 : Value) (ho3 : o3.oneCell' = true) (x : Int) (rs : List Int) (p q1 q2 q5 : Nat) (b c : Nat) (A : Option Addr) (w : World)
    (hN1 : ∀ w1, Sc w1 b A c rs p → Calls Tryz.prog 135 #[.agg #[.pointer (some ⟨b, 0, none⟩)]] w1 (ScPost w1 b A c rs q1 (.agg #[.string v1, .nilIface])))
    (hxx : peekOf rs (skip rs [0] q1) = x) (h63 : ¬ x = 63) (hP : ∀ w1, Sg w1 → Sc w1 b A c rs (skip rs [0] q1) → Calls Tryz.prog 136 #[.agg #[.pointer (some ⟨b, 0, none⟩)]] w1 (PP rs q2 t w1 b A c))
    (hN2 : ∀ q w1, Sm rs q2 q → Sc w1 b A c rs q → ∃ q4, markAt rs q4 ⟨#[46]⟩ = true ∧ markTo rs q4 ⟨#[46]⟩ = q5 ∧ Calls Tryz.prog 135 #[.agg #[.pointer (some ⟨b, 0, none⟩)]] w1 (ScPost w1 b A c rs q4 (.agg #[.string v3, o3]))) (hg : Sg w) (h : Sc w b A c rs p) :
    Calls Tryz.prog 105 #[.agg #[.pointer (some ⟨b, 0, none⟩)]] w (TriP rs t v1 v3 o3 q5 w b A c) := by
 have hf0 : Fr (fun _ => False) w (w.alloc (.cells #[.pointer (some ⟨b, 0, none⟩)] 89)) := (Fr.refl _ _).alloc _
 have HX := Lib.hid (show Blk (w.alloc (.cells #[.pointer (some ⟨b, 0, none⟩)] 89)) w.heap.size 89 #[.pointer (some ⟨b, 0, none⟩)] from Blk.new w 89 _)
 have HS := Lib.hid (h.frF hf0)
 have HG := Lib.hid (hg.frF hf0)
 have hzb : w.heap.size < (w.alloc (.cells #[.pointer (some ⟨b, 0, none⟩)] 89)).heap.size := by simp
 have HF := Lib.hid (FrN.of (b := b) hf0)
 have hbl := h.blk.lt
 have HN1 := Lib.hid hN1
 have HNX := Lib.hid (fun w1 h1 => nextsign_sc b c q1 A rs w1 h1)
 rw [hxx] at HNX
 have hx63 : (x == 63) = false := by simpa using h63
 have HPP := Lib.hid hP
 have HN2 := Lib.hid hN2
 have HMU := Lib.hid (fun q4 w1 (h4 : markAt rs q4 ⟨#[46]⟩ = true) (h5 : markTo rs q4 ⟨#[46]⟩ = q5) h1 => must_sc ⟨#[46]⟩ b c q4 q5 A rs w1 (ascii_of (by decide)) (by decide) h4 h5 h1)
 unfold PP at HPP
 generalize skip rs [0] q1 = s1 at *
 clear h hg hf0 hN1 hP hN2 hxx h63
 go_enter Tryz.func105, Tryz.ntmps105
 go_wp2_with ((with_reducible change wpList _ _ _ (Oper.mk _ (.alloc 68) _ _ _ _ :: _) _ _); refine wpList_alloc_blk rfl 68 rfl Z68 infz68 ?_)
 generalize (w.alloc (.cells #[.pointer (some ⟨b, 0, none⟩)] 89)) = wb0 at *
 refine Lib.hid ?_
 rintro w0 z0 HZ0 HY0 HF0 hs0
 have hz0 : z0.size = 17 := by rw [HZ0.out]; rfl
 have hx0 := HX.out.fr HF0.out (fun h => h)
 have x0 : w0.cell? ⟨w.heap.size, 0, none⟩ = some (.pointer (some ⟨b, 0, none⟩)) := hx0.cell 0
 have HX0 := Lib.hid hx0
 have HS0 := Lib.hid (HS.out.frF HF0.out)
 have HG0 := Lib.hid (HG.out.frF HF0.out)
 have HFr0 := Lib.hid (HF.out.andF HF0.out)
 clear HZ0 HX HS HG HF HF0 hx0
 go_wp2_with fail
 refine (HN1.out w0 HS0.out).mono ?_
 rintro e w1 ⟨rfl, hs1, hf1⟩
 have hx1 := HX0.out.fr hf1 (fun e => by omega)
 have HX1 := Lib.hid hx1
 have HY1 := Lib.hid (HY0.out.fr hf1 (fun e => by omega))
 have HS1 := Lib.hid hs1
 have HG1 := Lib.hid (HG0.out.frB HS0.out.blk (by decide) hf1)
 have HF1 := Lib.hid (HFr0.out.andB hf1)
 have hs01 := HY1.out.lt
 clear hs1 hf1 hx1 x0
 go_wp2_with ((with_reducible change wpList _ _ _ (Oper.mk _ (.build 68 _) _ _ _ _ :: _) _ _); refine wpList_build_to rfl 68 _ rfl [(0, .int .i64 0), (1, .agg #[.string v1, .nilIface])] (by simp only [List.map_toArray, List.map_nil, List.map_cons]; rfl) #[.int .i64 0, .string v1, .nilIface, .string ⟨#[]⟩, .nilIface, .string ⟨#[]⟩, .nilIface, .int .i64 0, .string ⟨#[]⟩, .slice none 0 0, .string ⟨#[]⟩, .string ⟨#[]⟩, .nilIface, .slice none 0 0, .string ⟨#[]⟩, .string ⟨#[]⟩, .slice none 0 0] (bld68 v1) ?_)
 refine Lib.hid ?_
 rintro zz HZZ
 have hNz : CellsN 17 zz := HZZ.out ▸ cells17 v1 ⟨#[]⟩ ⟨#[]⟩ .nilIface rfl 0 ⟨#[]⟩ none 0 0
 go_wp2_with ((with_reducible change wpList _ _ _ (Oper.mk _ (.alloc 68) _ _ _ _ :: _) _ _); refine wpList_alloc_blk rfl 68 rfl Z68 infz68 ?_)
 refine Lib.hid ?_
 rintro w2 z2 HZ2 HV2 HF2 hs2
 have hz2 : z2.size = 17 := by rw [HZ2.out]; rfl
 clear HZ2
 go_wp2_with ((with_reducible change wpList _ _ _ (Oper.mk _ (.store 68 _ _) _ _ _ _ :: _) _ _); refine wpList_store_blkH rfl 68 _ _ rfl _ zz rfl rfl 68 _ HV2.out (by rw [hNz.sz, hz2]) (inf68c hNz) (hNz).one ?_)
 refine Lib.hid ?_
 rintro w3 hv3 hf3
 have hx3 := (HX1.out.fr HF2.out (fun h => h)).oth hf3 (by omega)
 have x3 : w3.cell? ⟨w.heap.size, 0, none⟩ = some (.pointer (some ⟨b, 0, none⟩)) := hx3.cell 0
 have HX3 := Lib.hid hx3
 have HY3 := Lib.hid ((HY1.out.fr HF2.out (fun h => h)).oth hf3 (by omega))
 have HS3 := Lib.hid ((HS1.out.frF HF2.out).fr hf3 (fun e => by omega) (fun j hj e => own_blk_ne (HS1.out.frF HF2.out).row HV2.out (by decide) (by rw [hj, e])))
 have HG3 := Lib.hid ((HG1.out.frF HF2.out).frB HV2.out (by decide) hf3)
 have HF3 := Lib.hid ((HF1.out.andF HF2.out).andX hf3 (by omega))
 have HV3 := Lib.hid hv3
 clear hx3 hv3 hf3 HV2 HF2 HX1 HY1 HS1 HG1 HF1
 generalize w1.heap.size = vb at *
 go_wp2_with fail
 refine (HNX.out w3 HS3.out).mono ?_
 rintro e w4 ⟨rfl, hs4, hf4⟩
 have hx := HX3.out.fr hf4 (fun e => by omega)
 have x4 : w4.cell? ⟨w.heap.size, 0, none⟩ = some (.pointer (some ⟨b, 0, none⟩)) := hx.cell 0
 have HX4 := Lib.hid hx
 have HY4 := Lib.hid (HY3.out.fr hf4 (fun e => by omega))
 have HV4 := Lib.hid (HV3.out.fr hf4 (fun e => by omega))
 have HS4 := Lib.hid hs4
 have HF4 := Lib.hid (HF3.out.andB hf4)
 have HG4 := Lib.hid (HG3.out.frB HS3.out.blk (by decide) hf4)
 clear hx hs4 hf4 x3
 go_wp2_with fail
 refine (HPP.out w4 HG4.out HS4.out).mono ?_
 rintro e w5 ⟨k, i, A2, n2, c2, rfl, hpa, ⟨q', hsm, hs5⟩, hf5⟩
 have hx := HX4.out.fr hf5 (fun e => by omega)
 have x5 : w5.cell? ⟨w.heap.size, 0, none⟩ = some (.pointer (some ⟨b, 0, none⟩)) := hx.cell 0
 have HX5 := Lib.hid hx
 have HY5 := Lib.hid (HY4.out.fr hf5 (fun e => by omega))
 have HV5 := Lib.hid (HV4.out.fr hf5 (fun e => by omega))
 have HS5 := Lib.hid hs5
 have HF5 := Lib.hid (HF4.out.andB hf5)
 have HG5 := Lib.hid (HG4.out.frB HS4.out.blk (by decide) hf5)
 have HPA5 := Lib.hid hpa
 have hsz45 := HY4.out.lt
 have hsv4 := HV4.out.lt
 clear hx hs5 hf5 hpa x4
 go_wp2_with ((with_reducible change wpList _ _ _ (Oper.mk _ (.store 62 _ _) _ _ _ _ :: _) _ _); refine wpList_store_over rfl 62 _ _ rfl _ 7 #[.int .i64 k, .string i, .slice A2 n2 c2] rfl rfl 68 _ HV5.out (by rw [hNz.sz]; exact Nat.le_of_ble_eq_true rfl) (by kernel_rfl) (cells62 k i A2 n2 c2).one ?_)
 refine Lib.hid ?_
 rintro w6 z6 HZ6 hv6 hf6
 have hN6 : CellsN 17 z6 := HZ6.out ▸ hNz.over (cells62 k i A2 n2 c2) (by decide)
 have hx := HX5.out.oth hf6 (by omega)
 have x6 : w6.cell? ⟨w.heap.size, 0, none⟩ = some (.pointer (some ⟨b, 0, none⟩)) := hx.cell 0
 have HX6 := Lib.hid hx
 have HY6 := Lib.hid (HY5.out.oth hf6 (by omega))
 have HV6 := Lib.hid hv6
 have HS6 := Lib.hid (HS5.out.fr hf6 (fun e => by omega) (fun j hj e => own_blk_ne HS5.out.row HV5.out (by decide) (by rw [hj, e])))
 have HF6 := Lib.hid (HF5.out.andX hf6 (by omega))
 have HG6 := Lib.hid (HG5.out.frB HV5.out (by decide) hf6)
 have HPA6 := Lib.hid (HPA5.out.frB2 HV5.out hf6 (by omega))
 clear hx hv6 hf6 x5
 go_wp2_with fail
 obtain ⟨q4, hm4, hm5, hcal⟩ := HN2.out q' w6 hsm HS6.out
 have HMM := Lib.hid (fun w1 h1 => HMU.out q4 w1 hm4 hm5 h1)
 clear hm4 hm5
 refine hcal.mono ?_
 rintro e w7 ⟨rfl, hs7, hf7⟩
 have hx := HX6.out.fr hf7 (fun e => by omega)
 have x7 : w7.cell? ⟨w.heap.size, 0, none⟩ = some (.pointer (some ⟨b, 0, none⟩)) := hx.cell 0
 have HX7 := Lib.hid hx
 have HY7 := Lib.hid (HY6.out.fr hf7 (fun e => by omega))
 have HV7 := Lib.hid (HV6.out.fr hf7 (fun e => by omega))
 have HS7 := Lib.hid hs7
 have HF7 := Lib.hid (HF6.out.andB hf7)
 have HG7 := Lib.hid (HG6.out.frB HS6.out.blk (by decide) hf7)
 have HPA7 := Lib.hid (HPA6.out.fr hf7 (fun j cs hj hb e => Blk.ne_ hb HS6.out.blk (by decide) e))
 clear hx hs7 hf7 hcal x6
 go_wp2_with ((with_reducible change wpList _ _ _ (Oper.mk _ (.store 59 _ _) _ _ _ _ :: _) _ _); refine wpList_store_over rfl 59 _ _ rfl _ 5 #[.string v3, o3] rfl rfl 68 _ HV7.out (by rw [hN6.sz]; exact Nat.le_of_ble_eq_true rfl) (by kernel_rfl) (cells59 v3 o3 ho3).one ?_)
 refine Lib.hid ?_
 rintro w8 z8 HZ8 hv8 hf8
 have hN8 : CellsN 17 z8 := HZ8.out ▸ hN6.over (cells59 v3 o3 ho3) (by decide)
 have hx := HX7.out.oth hf8 (by omega)
 have x8 : w8.cell? ⟨w.heap.size, 0, none⟩ = some (.pointer (some ⟨b, 0, none⟩)) := hx.cell 0
 have HX8 := Lib.hid hx
 have HY8 := Lib.hid (HY7.out.oth hf8 (by omega))
 have HV8 := Lib.hid hv8
 have HS8 := Lib.hid (HS7.out.fr hf8 (fun e => by omega) (fun j hj e => own_blk_ne HS7.out.row HV7.out (by decide) (by rw [hj, e])))
 have HF8 := Lib.hid (HF7.out.andX hf8 (by omega))
 have HG8 := Lib.hid (HG7.out.frB HV7.out (by decide) hf8)
 have HPA8 := Lib.hid (HPA7.out.frB2 HV7.out hf8 (by omega))
 have HZE := Lib.hid (show z8 = #[.int .i64 0, .string v1, .nilIface, .string ⟨#[]⟩, .nilIface, .string v3, o3, .int .i64 k, .string i, .slice A2 n2 c2, .string ⟨#[]⟩, .string ⟨#[]⟩, .nilIface, .slice none 0 0, .string ⟨#[]⟩, .string ⟨#[]⟩, .slice none 0 0] by rw [HZ8.out, HZ6.out, HZZ.out]; rfl)
 clear hx hv8 hf8 x7 HZ8 HZ6 HZZ
 go_wp2_with fail
 refine (HMM.out w8 HS8.out).mono ?_
 rintro e w9 ⟨rfl, hs9, hf9⟩
 have hx := HX8.out.fr hf9 (fun e => by omega)
 have x9 : w9.cell? ⟨w.heap.size, 0, none⟩ = some (.pointer (some ⟨b, 0, none⟩)) := hx.cell 0
 have HX9 := Lib.hid hx
 have HY9 := Lib.hid (HY8.out.fr hf9 (fun e => by omega))
 have HV9 := Lib.hid (HV8.out.fr hf9 (fun e => by omega))
 have HS9 := Lib.hid hs9
 have HF9 := Lib.hid (HF8.out.andB hf9)
 have HG9 := Lib.hid (HG8.out.frB HS8.out.blk (by decide) hf9)
 have HPA9 := Lib.hid (HPA8.out.fr hf9 (fun j cs hj hb e => Blk.ne_ hb HS8.out.blk (by decide) e))
 clear hx hs9 hf9 x8
 go_wp2_with (first | ((with_reducible change wpList _ _ _ (Oper.mk _ (.load 68 _) _ _ _ _ :: _) _ _); refine wpList_load_blk rfl 68 _ rfl _ rfl 68 z8 HV9.out _ Tryz.underlying68 rfl (inf68c hN8) ?_) | ((with_reducible change wpList _ _ _ (Oper.mk _ (.store 68 _ _) _ _ _ _ :: _) _ _); refine wpList_store_blkH rfl 68 _ _ rfl _ z8 rfl rfl 68 _ HY9.out (by rw [hN8.sz, hz0]) (inf68c hN8) (hN8).one ?_))
 refine Lib.hid ?_
 rintro wz hbz hfz
 have HFZ := Lib.hid (HF9.out.andX hfz (by omega)).done
 have HSZ := Lib.hid (HS9.out.fr hfz (fun e => by omega) (fun j hj e => own_blk_ne HS9.out.row HY9.out (by decide) (by rw [hj, e])))
 go_wp2_with fail
 exact bodyPost_ret (v := .agg z8) (results_cell_row rfl _ _ (w.heap.size + 1) 68 _ (0, 0) _ rfl hbz Tryz.underlying68 rfl (inf68c hN8)) rfl ⟨k, i, A2, n2, c2, by rw [HZE.out], (HPA9.out.frB2 HY9.out hfz (by omega)).base (by omega), HSZ.out, HFZ.out⟩

theorem no_wordP {rs : List Int} {q : Nat} {T : ByteArray} (h : peekOf rs (skip rs [0] q) = 63) (hT : 0 < T.size) (hx : ¬ (txt T).getD 0 0 = 63) : wordAt rs q T = false ∧ wordTo rs q T = skip rs [0] q := by
 have h1 : isAt rs (skip rs [0] q) (txt T) = false := isAt_false (i := 0) (by rw [txt_len]; exact hT) (by rw [Nat.add_zero, h]; exact fun e => hx e.symm)
 have h2 : wordAt rs q T = false := by
  unfold wordAt
  rw [h1]
  rfl
 refine ⟨h2, ?_⟩
 unfold wordTo
 rw [h2, if_neg Bool.false_ne_true]
theorem pitem (t : PT) (v1 v3 : ByteArray) (o3 : Value) (ho3 : o3.oneCell' = true) (left : Int) (rs : List Int) (p q5 : Nat) (b c : Nat) (A : Option Addr) (w : World) (h63 : peekOf rs (skip rs [0] p) = 63)
    (HT : ∀ w1, Sg w1 → Sc w1 b A c rs (skip rs [0] p) → Calls Tryz.prog 105 #[.agg #[.pointer (some ⟨b, 0, none⟩)]] w1 (TriP rs t v1 v3 o3 q5 w1 b A c)) (hg : Sg w) (h : Sc w b A c rs p) :
    Calls Tryz.prog 78 #[.agg #[.pointer (some ⟨b, 0, none⟩)], .int .i64 left] w (TriP rs t v1 v3 o3 q5 w b A c) := by
 have hf0 : Fr (fun _ => False) w (w.alloc (.cells #[.pointer (some ⟨b, 0, none⟩)] 89)) := (Fr.refl _ _).alloc _
 have HX := Lib.hid (show Blk (w.alloc (.cells #[.pointer (some ⟨b, 0, none⟩)] 89)) w.heap.size 89 #[.pointer (some ⟨b, 0, none⟩)] from Blk.new w 89 _)
 have HS := Lib.hid (h.frF hf0)
 have HG := Lib.hid (hg.frF hf0)
 have HF := Lib.hid (FrN.of (b := b) hf0)
 have hbl := h.blk.lt
 have HW := Lib.hid (fun T q w1 (h1 : Ascii T) (h2 : T.size ≤ 100) (h3 : 0 < T.size) (h4 : ¬ (txt T).getD 0 0 = 63) (h5 : peekOf rs (skip rs [0] q) = 63) h6 => (show Calls Tryz.prog 42 #[.agg #[.pointer (some ⟨b, 0, none⟩)], .string T] w1 (ScPost w1 b A c rs (skip rs [0] q) (.bool false)) by
  have hw := word_sc T b c q A rs w1 h1 h2 h6
  rw [(no_wordP h5 h3 h4).1, (no_wordP h5 h3 h4).2] at hw
  exact hw))
 have HNX := Lib.hid (fun q w1 h1 => nextsign_sc b c q A rs w1 h1)
 have HTT := Lib.hid HT
 have HSK := Lib.hid (skip_skip rs _ p (Nat.le_refl _))
 have H63 := Lib.hid h63
 have h63' : peekOf rs (skip rs [0] (skip rs [0] p)) = 63 := by rw [HSK.out]; exact h63
 have H632 := Lib.hid h63'
 obtain ⟨s, hs⟩ : ∃ s, s = skip rs [0] p := ⟨_, rfl⟩
 rw [← hs] at HTT HSK H632 H63
 have HSS := Lib.hid hs
 unfold TriP at HTT
 clear h hg hf0 HT h63 hs h63'
 go_enter Tryz.func78, Tryz.ntmps78
 go_wp2_with ((with_reducible change wpList _ _ _ (Oper.mk _ (.alloc 68) _ _ _ _ :: _) _ _); refine wpList_alloc_blk rfl 68 rfl Z68 infz68 ?_)
 generalize (w.alloc (.cells #[.pointer (some ⟨b, 0, none⟩)] 89)) = wb0 at *
 refine Lib.hid ?_
 rintro w0 z0 HZ0 HY0 HF0 hs0
 have hz0 : z0.size = 17 := by rw [HZ0.out]; rfl
 have hx0 := HX.out.fr HF0.out (fun h => h)
 have x0 : w0.cell? ⟨w.heap.size, 0, none⟩ = some (.pointer (some ⟨b, 0, none⟩)) := hx0.cell 0
 have HX0 := Lib.hid hx0
 have HS0 := Lib.hid (HS.out.frF HF0.out)
 have HG0 := Lib.hid (HG.out.frF HF0.out)
 have HFr0 := Lib.hid (HF.out.andF HF0.out)
 have hyl := HY0.out.lt
 clear HZ0 HX HS HG HF HF0 hx0
 go_wp2_with fail
 refine (HW.out ⟨#[70, 73, 76, 84, 69, 82]⟩ p w0 (ascii_of (by decide)) (by decide) (by decide) (by decide) (by rw [← HSS.out]; exact H63.out) HS0.out).mono ?_
 rw [← HSS.out]
 rintro e w1 ⟨rfl, hs1, hf1⟩
 have hx := HX0.out.fr hf1 (fun e => by omega)
 have x1 : w1.cell? ⟨w.heap.size, 0, none⟩ = some (.pointer (some ⟨b, 0, none⟩)) := hx.cell 0
 have HX1 := Lib.hid hx
 have HY1 := Lib.hid (HY0.out.fr hf1 (fun e => by omega))
 have HS1 := Lib.hid hs1
 have HF1 := Lib.hid (HFr0.out.andB hf1)
 have HG1 := Lib.hid (HG0.out.frB HS0.out.blk (by decide) hf1)
 clear hx hs1 hf1 x0
 go_wp2_with fail
 refine (HW.out ⟨#[66, 73, 78, 68]⟩ s w1 (ascii_of (by decide)) (by decide) (by decide) (by decide) (by rw [HSK.out]; exact H63.out) HS1.out).mono ?_
 rw [HSK.out]
 rintro e w2 ⟨rfl, hs2, hf2⟩
 have hx := HX1.out.fr hf2 (fun e => by omega)
 have x2 : w2.cell? ⟨w.heap.size, 0, none⟩ = some (.pointer (some ⟨b, 0, none⟩)) := hx.cell 0
 have HX2 := Lib.hid hx
 have HY2 := Lib.hid (HY1.out.fr hf2 (fun e => by omega))
 have HS2 := Lib.hid hs2
 have HF2 := Lib.hid (HF1.out.andB hf2)
 have HG2 := Lib.hid (HG1.out.frB HS1.out.blk (by decide) hf2)
 clear hx hs2 hf2 x1
 go_wp2_with fail
 refine (HW.out ⟨#[79, 80, 84, 73, 79, 78, 65, 76]⟩ s w2 (ascii_of (by decide)) (by decide) (by decide) (by decide) (by rw [HSK.out]; exact H63.out) HS2.out).mono ?_
 rw [HSK.out]
 rintro e w3 ⟨rfl, hs3, hf3⟩
 have hx := HX2.out.fr hf3 (fun e => by omega)
 have x3 : w3.cell? ⟨w.heap.size, 0, none⟩ = some (.pointer (some ⟨b, 0, none⟩)) := hx.cell 0
 have HX3 := Lib.hid hx
 have HY3 := Lib.hid (HY2.out.fr hf3 (fun e => by omega))
 have HS3 := Lib.hid hs3
 have HF3 := Lib.hid (HF2.out.andB hf3)
 have HG3 := Lib.hid (HG2.out.frB HS2.out.blk (by decide) hf3)
 clear hx hs3 hf3 x2
 go_wp2_with fail
 refine (HW.out ⟨#[87, 73, 78, 68, 79, 87]⟩ s w3 (ascii_of (by decide)) (by decide) (by decide) (by decide) (by rw [HSK.out]; exact H63.out) HS3.out).mono ?_
 rw [HSK.out]
 rintro e w4 ⟨rfl, hs4, hf4⟩
 have hx := HX3.out.fr hf4 (fun e => by omega)
 have x4 : w4.cell? ⟨w.heap.size, 0, none⟩ = some (.pointer (some ⟨b, 0, none⟩)) := hx.cell 0
 have HX4 := Lib.hid hx
 have HY4 := Lib.hid (HY3.out.fr hf4 (fun e => by omega))
 have HS4 := Lib.hid hs4
 have HF4 := Lib.hid (HF3.out.andB hf4)
 have HG4 := Lib.hid (HG3.out.frB HS3.out.blk (by decide) hf4)
 clear hx hs4 hf4 x3
 go_wp2_with fail
 refine (HNX.out s w4 HS4.out).mono ?_
 rw [HSK.out, H63.out]
 rintro e w5 ⟨rfl, hs5, hf5⟩
 have hx := HX4.out.fr hf5 (fun e => by omega)
 have x5 : w5.cell? ⟨w.heap.size, 0, none⟩ = some (.pointer (some ⟨b, 0, none⟩)) := hx.cell 0
 have HX5 := Lib.hid hx
 have HY5 := Lib.hid (HY4.out.fr hf5 (fun e => by omega))
 have HS5 := Lib.hid hs5
 have HF5 := Lib.hid (HF4.out.andB hf5)
 have HG5 := Lib.hid (HG4.out.frB HS4.out.blk (by decide) hf5)
 clear hx hs5 hf5 x4
 go_wp2_with fail
 refine (HTT.out w5 HG5.out HS5.out).mono ?_
 rintro e w6 ⟨k, i, A2, n2, c2, rfl, hpa, hs6, hf6⟩
 have hx := HX5.out.fr hf6 (fun e => by omega)
 have x6 : w6.cell? ⟨w.heap.size, 0, none⟩ = some (.pointer (some ⟨b, 0, none⟩)) := hx.cell 0
 have HX6 := Lib.hid hx
 have HY6 := Lib.hid (HY5.out.fr hf6 (fun e => by omega))
 have HS6 := Lib.hid hs6
 have HF6 := Lib.hid (HF5.out.andB hf6)
 have HG6 := Lib.hid (HG5.out.frB HS5.out.blk (by decide) hf6)
 have HPA6 := Lib.hid hpa
 have hsz5 := HY5.out.lt
 clear hx hs6 hf6 hpa x5
 go_wp2_with ((with_reducible change wpList _ _ _ (Oper.mk _ (.store 68 _ _) _ _ _ _ :: _) _ _); refine wpList_store_blkH rfl 68 _ _ rfl _ #[.int .i64 0, .string v1, .nilIface, .string ⟨#[]⟩, .nilIface, .string v3, o3, .int .i64 k, .string i, .slice A2 n2 c2, .string ⟨#[]⟩, .string ⟨#[]⟩, .nilIface, .slice none 0 0, .string ⟨#[]⟩, .string ⟨#[]⟩, .slice none 0 0] rfl rfl 68 _ HY6.out (by rw [hz0]; rfl) (inf68c (cells17 v1 ⟨#[]⟩ v3 o3 ho3 k i A2 n2 c2)) ((cells17 v1 ⟨#[]⟩ v3 o3 ho3 k i A2 n2 c2)).one ?_)
 refine Lib.hid ?_
 rintro wz hbz hfz
 have HFZ := Lib.hid (HF6.out.andX hfz (by omega)).done
 have HSZ := Lib.hid (HS6.out.fr hfz (fun e => by omega) (fun j hj e => own_blk_ne HS6.out.row HY6.out (by decide) (by rw [hj, e])))
 go_wp2_with fail
 exact bodyPost_ret (v := .agg #[.int .i64 0, .string v1, .nilIface, .string ⟨#[]⟩, .nilIface, .string v3, o3, .int .i64 k, .string i, .slice A2 n2 c2, .string ⟨#[]⟩, .string ⟨#[]⟩, .nilIface, .slice none 0 0, .string ⟨#[]⟩, .string ⟨#[]⟩, .slice none 0 0]) (results_cell_row rfl _ _ (w.heap.size + 1) 68 _ (0, 0) _ rfl hbz Tryz.underlying68 rfl (inf68c (cells17 v1 ⟨#[]⟩ v3 o3 ho3 k i A2 n2 c2))) rfl ⟨k, i, A2, n2, c2, rfl, (HPA6.out.frB2 HY6.out hfz (by omega)).base (by omega), HSZ.out, HFZ.out⟩



theorem flat_push {w6 w8 : World} {ob b c q gg cap : Nat} {A : Option Addr} {rs : List Int} {o : Obj} (hs : Sc w6 b A c rs q) (ho : Blk w6 ob 50 #[.slice none 0 0]) (hgr : (w6.alloc o).grownBy w8 (Value.slice none 0 0).ownBlock) :
    (Sc (w8.setCell ⟨ob, 0, none⟩ (.slice (some ⟨gg, 0, none⟩) 1 cap)) b A c rs q ∧ Blk (w8.setCell ⟨ob, 0, none⟩ (.slice (some ⟨gg, 0, none⟩) 1 cap)) ob 50 #[.slice (some ⟨gg, 0, none⟩) 1 cap]) ∧ Fr (fun j => j = ob) w6 (w8.setCell ⟨ob, 0, none⟩ (.slice (some ⟨gg, 0, none⟩) 1 cap)) := by
 have F8 : Fr (fun _ => False) w6 w8 := ((Fr.refl _ w6).alloc o).trans (Fr.of_grown hgr) (fun _ _ h => by cases h)
 have ho8 := ho.fr F8 (fun h => h)
 have FS : Fr (fun j => j = ob) w8 (w8.setCell ⟨ob, 0, none⟩ (.slice (some ⟨gg, 0, none⟩) 1 cap)) := (Fr.refl (fun j => j = ob) w8).setCell ⟨ob, 0, none⟩ (fun _ => rfl) _
 exact ⟨⟨(hs.frF F8).fr FS (fun e => Blk.ne_ hs.blk ho (by decide) e) (fun j hj e => own_blk_ne hs.row ho (by decide) (by rw [hj, e])), ho8.set_ 0 _⟩, (F8.mono (fun _ _ h => h.elim)).trans' FS⟩

/-- A group of one triple with a path. -/
def GPath (t : PT) (v1 v3 : ByteArray) (o3 : Value) (w : World) (B : Nat) (v : Value) : Prop :=
 ∃ (A : Option Addr) (c : Nat) (pk : Int) (pi : ByteArray) (pA : Option Addr) (pn pc : Nat), v = .slice A 1 c ∧ w.ownsRow B 68 17 v 1 [.int .i64 0, .string v1, .nilIface, .string ⟨#[]⟩, .nilIface, .string v3, o3, .int .i64 pk, .string pi, .slice pA pn pc, .string ⟨#[]⟩, .string ⟨#[]⟩, .nilIface, .slice none 0 0, .string ⟨#[]⟩, .string ⟨#[]⟩, .slice none 0 0] ∧ PAt 62 w B t [.int .i64 pk, .string pi, .slice pA pn pc]
theorem pgroup (t : PT) (v1 v3 : ByteArray) (o3 : Value) (ho3 : o3.oneCell' = true) (left : Int) (hl : 1 ≤ left) (hl2 : left ≤ 40) (b c p0 p p1 q1 q2 : Nat) (A : Option Addr) (rs : List Int) (w : World) (hs0 : skip rs [0] p0 = p) (hp : peekOf rs p = 123)
    (hne : markAt rs (p + 1) ⟨#[125]⟩ = false ∧ markTo rs (p + 1) ⟨#[125]⟩ = p1)
    (HITM : ∀ w1, Sg w1 → Sc w1 b A c rs p1 → Calls Tryz.prog 78 #[.agg #[.pointer (some ⟨b, 0, none⟩)], .int .i64 (left - 1)] w1 (TriP rs t v1 v3 o3 q1 w1 b A c))
    (hend : markAt rs q1 ⟨#[125]⟩ = true ∧ markTo rs q1 ⟨#[125]⟩ = q2) (hg : Sg w) (h : Sc w b A c rs p0) :
    Calls Tryz.prog 46 #[.agg #[.pointer (some ⟨b, 0, none⟩)], .int .i64 left] w (GrpPostG (GPath t v1 v3 o3) w b A c rs q2) := by
 obtain ⟨i46, hi46, hz460, hz461, hz462⟩ := info_parts infZ46
 have hf : Fr (fun _ => False) w ((w.alloc (.cells #[.pointer (some ⟨b, 0, none⟩)] 89)).alloc (.cells #[.slice none 0 0] 50)) := ((Fr.refl _ _).alloc _).alloc _
 have hz : (w.alloc (.cells #[.pointer (some ⟨b, 0, none⟩)] 89)).heap.size = w.heap.size + 1 := by simp
 have hy := Blk.new (w.alloc (.cells #[.pointer (some ⟨b, 0, none⟩)] 89)) 50 #[.slice none 0 0]
 rw [hz] at hy
 have HB := Lib.hid (blanks_sc b c p0 A rs _ (h.frF hf))
 rw [hs0] at HB
 clear hs0
 have HP := Lib.hid (fun w1 h1 => place_sc b c p A rs w1 h1)
 have y1 := mark_yes (x := 123) (skip_open hp) hp
 have HM := Lib.hid (fun w1 h1 => must_sc ⟨#[123]⟩ b c p (p + 1) A rs w1 (ascii_of (by decide)) (by decide) y1.1 y1.2 h1)
 have HE1 := Lib.hid (fun w1 h1 => mark_sc ⟨#[125]⟩ b c (p + 1) A rs w1 (ascii_of (by decide)) (by decide) h1)
 rw [hne.1, hne.2] at HE1
 have HE2 := Lib.hid (fun w1 h1 => mark_sc ⟨#[125]⟩ b c q1 A rs w1 (ascii_of (by decide)) (by decide) h1)
 rw [hend.1, hend.2] at HE2
 have HIT := Lib.hid HITM
 have HSG := Lib.hid (hg.frF hf)
 have HX := Lib.hid ((Blk.new w 89 #[.pointer (some ⟨b, 0, none⟩)]).alloc (.cells #[.slice none 0 0] 50))
 have HY := Lib.hid hy
 have HF := Lib.hid hf
 have hbl := h.blk.lt
 have h0 := h
 have hl' : (left == 0) = false := by simp; omega
 have hlw : IntKind.i64.wrap (left - 1) = left - 1 := IntWalk.i64_in _ (by omega)
 clear h hf hy hz hp y1 hne hend HITM hg
 go_enter Tryz.func46, Tryz.ntmps46
 go_wp2_with fail
 refine HB.out.mono ?_
 rintro e w1 ⟨⟨k, rfl⟩, hs1, hf1⟩
 have hx1 := box_keep HX.out hbl hf1
 have x1 : w1.cell? ⟨w.heap.size, 0, none⟩ = some (.pointer (some ⟨b, 0, none⟩)) := hx1.cell 0
 have HX1 := Lib.hid hx1
 have HY1 := Lib.hid (old_keep HY.out (Nat.le_succ _) hbl hf1)
 have HF1 := Lib.hid ((HF.out.mono (T := fun j => j = b) (fun _ _ h => h.elim)).trans' hf1)
 have HSG1 := Lib.hid (HSG.out.frB (h0.frF HF.out).blk (by decide) hf1)
 have HPP := Lib.hid (HP.out w1 hs1)
 have HMM := Lib.hid (HM.out w1 hs1)
 clear hx1 hf1 h0
 have HS1 := Lib.hid hs1
 clear hs1
 go_wp2_with fail
 refine HPP.out.mono ?_
 rintro e w1' ⟨rfl, rfl⟩
 go_wp2_with fail
 refine HMM.out.mono ?_
 rintro e w2 ⟨rfl, hs2, hf2⟩
 have hsg2 := HSG1.out.frB HS1.out.blk (by decide) hf2
 have hf3 : Fr (fun _ => False) w2 (w2.alloc (.cells #[.slice none 0 0] 50)) := (Fr.refl _ _).alloc _
 have HX3 := Lib.hid ((box_keep HX1.out hbl hf2).fr hf3 (fun h => h))
 have HY3 := Lib.hid ((old_keep HY1.out (Nat.le_succ _) hbl hf2).fr hf3 (fun h => h))
 have HO3 := Lib.hid (Blk.new w2 50 #[.slice none 0 0])
 have HF3 := Lib.hid ((HF1.out.trans' hf2).trans hf3 (fun _ _ h => h.elim))
 have HS3 := Lib.hid (hs2.frF hf3)
 have HSG3 := Lib.hid (hsg2.frF hf3)
 have hly := (old_keep HY1.out (Nat.le_succ _) hbl hf2).lt
 clear hs2 hf2 hf3 x1 hsg2
 go_wp2_with fail
 go_loopg [20] (1) (fun g _ wr => (g = 1 ∧ w2.alloc (.cells #[.slice none 0 0] 50) = wr) ∨ (∃ (gg cap : Nat) (pk : Int) (pi : ByteArray) (pA : Option Addr) (pn pc : Nat), Sc wr b A c rs q1 ∧ Blk wr w2.heap.size 50 #[.slice (some ⟨gg, 0, none⟩) 1 cap] ∧ Blk wr w.heap.size 89 #[.pointer (some ⟨b, 0, none⟩)] ∧ Blk wr (w.heap.size + 1) 50 #[.slice none 0 0] ∧ Fr (fun j => j = b) w wr ∧ wr.ownsRow (w.heap.size + 2) 68 17 (.slice (some ⟨gg, 0, none⟩) 1 cap) 1 [.int .i64 0, .string v1, .nilIface, .string ⟨#[]⟩, .nilIface, .string v3, o3, .int .i64 pk, .string pi, .slice pA pn pc, .string ⟨#[]⟩, .string ⟨#[]⟩, .nilIface, .slice none 0 0, .string ⟨#[]⟩, .string ⟨#[]⟩, .slice none 0 0] ∧ PAt 62 wr (w.heap.size + 2) t [.int .i64 pk, .string pi, .slice pA pn pc]))
 case atStart => exact .inl ⟨rfl, rfl⟩
 case round =>
  rcases hrel with ⟨rfl, rfl⟩ | ⟨gg, cap, pk, pi, pA, pn, pc, hs, ho, hx, hyy, hfr, hrow, hpat⟩
  · have x3 : (w2.alloc (.cells #[.slice none 0 0] 50)).cell? ⟨w.heap.size, 0, none⟩ = some (.pointer (some ⟨b, 0, none⟩)) := HX3.out.cell 0
    have HEE := Lib.hid (HE1.out _ HS3.out)
    generalize w2.alloc (.cells #[.slice none 0 0] 50) = w3 at *
    go_wp2_with fail
    refine HEE.out.mono ?_
    rintro e w4 ⟨rfl, hs4, hf4⟩
    have hx4 := box_keep HX3.out hbl hf4
    have x4 : w4.cell? ⟨w.heap.size, 0, none⟩ = some (.pointer (some ⟨b, 0, none⟩)) := hx4.cell 0
    have hb2 : b < w2.heap.size := by omega
    have ho4 := HO3.out.fr hf4 (fun e => by omega)
    have o4 : w4.cell? ⟨w2.heap.size, 0, none⟩ = some (.slice none 0 0) := ho4.cell 0
    have HO4 := Lib.hid ho4
    have HX4 := Lib.hid hx4
    have HSG4 := Lib.hid (HSG3.out.frB HS3.out.blk (by decide) hf4)
    have HY4 := Lib.hid (old_keep HY3.out (Nat.le_succ _) hbl hf4)
    have HF4 := Lib.hid (HF3.out.trans' hf4)
    have HS4 := Lib.hid hs4
    have hs4z : w2.heap.size < w4.heap.size := ho4.lt
    have hws : w.heap.size ≤ w4.heap.size := HF4.out.size
    unfold TriP at HIT
    clear hx4 hs4 hf4 x3 ho4
    go_wp2_with fail
    go_region_law (first
     | (go_simp; go_at_call 78; refine (HIT.out _ (HSG4.out.frF (by repeat' (first | exact Fr.refl _ _ | refine Fr.drew ?_))) (HS4.out.frF (by repeat' (first | exact Fr.refl _ _ | refine Fr.drew ?_)))).mono ?_; rintro e w6 ⟨pk, pi, pA, pn, pc, rfl, hpa6, hs6, hf6⟩; have F6 : Fr (fun j => j = b) w4 w6 := Fr.trans' (by repeat' (first | exact Fr.refl _ _ | refine Fr.drew ?_)) hf6; have ho6 := HO4.out.fr F6 (fun e => by omega); have o6 : w6.cell? ⟨w2.heap.size, 0, none⟩ = some (.slice none 0 0) := ho6.cell 0; have l6 := ho6.lt)
     | (refine step_append_lies _ (by rfl) _ _ 48 (by rfl) (w.heap.size + 2) 68 i46 _ 17 280 Tryz.underlying48 hi46 hz460 hz461 hz462 rfl (by decide) (.slice none 0 0) 0 [] (by rfl) (World.ownsRow_nil _ _ _ _) _ 1 1 [.int .i64 0, .string v1, .nilIface, .string ⟨#[]⟩, .nilIface, .string v3, o3, .int .i64 pk, .string pi, .slice pA pn pc, .string ⟨#[]⟩, .string ⟨#[]⟩, .nilIface, .slice none 0 0, .string ⟨#[]⟩, .string ⟨#[]⟩, .slice none 0 0] (by rfl) rfl (World.news_of_block (heap_alloc_new w6 _)) (by intro u hu; simp only [List.mem_cons, List.not_mem_nil, or_false] at hu; rcases hu with rfl | rfl | rfl | rfl | rfl | rfl | rfl | rfl | rfl | rfl | rfl | rfl | rfl | rfl | rfl | rfl | rfl <;> first | rfl | exact ho3) (by decide) (by unfold maxLen; omega) (by omega) (by have := F6.size; simp; omega) _ rfl ?_; intro g8 cap w8 hown8 hgr8 hor8 hlt8; rw [Nat.zero_add, List.nil_append] at hown8; have HPU := Lib.hid (flat_push (gg := g8) (cap := cap) hs6 ho6 hgr8); have ho8 := (ho6.fr (((Fr.refl (fun _ => False) w6).alloc _).trans (Fr.of_grown hgr8) (fun _ _ h => by cases h)) (fun h => h)); have o8 := ho8.cell 0; have f8 := ho8.frozen 0; have l8 := ho8.lt))
    all_goals
     have HX8 := Lib.hid ((box_keep HX4.out hbl F6).fr HPU.out.2 (fun e => by omega))
     have HY8 := Lib.hid ((old_keep HY4.out (Nat.le_succ _) hbl F6).fr HPU.out.2 (fun e => by omega))
     have HF8 := Lib.hid ((HF4.out.trans' F6).trans HPU.out.2 (fun j hj e => absurd hj (by omega)))
     have FS8 := (Fr.refl (fun j => j = w2.heap.size) w8).setCell ⟨w2.heap.size, 0, none⟩ (fun _ => rfl) (.slice (some ⟨g8, 0, none⟩) 1 cap)
     have HOW8 := Lib.hid (ownsRow_fr hown8 FS8 (fun k hk e => own_blk_ne hown8 ho8 (by decide) (by rw [hk, e])))
     have HPA8 := Lib.hid ((((hpa6.base (show w.heap.size + 2 ≤ w4.heap.size by omega)).frF ((Fr.refl (fun _ => False) w6).alloc _)).frF ((Fr.of_grown hgr8).mono (fun _ _ h => by cases h))).frB ho8 (by decide) FS8)
     clear hs6 hf6 F6 ho6 o6 l6 hown8 hgr8 hor8 hlt8 ho8 hpa6 FS8
     go_wp2_with fail
     go_roundg (0)
     case measure => omega
     case rel => exact .inr ⟨_, _, _, _, _, _, _, HPU.out.1.1, HPU.out.1.2, HX8.out, HY8.out, HF8.out, HOW8.out, HPA8.out⟩
  · have x0 : wr.cell? ⟨w.heap.size, 0, none⟩ = some (.pointer (some ⟨b, 0, none⟩)) := hx.cell 0
    have HEE := Lib.hid (HE2.out _ hs)
    have HS := Lib.hid hs
    have HO := Lib.hid ho
    have HYY := Lib.hid hyy
    have HFR := Lib.hid hfr
    have HROW := Lib.hid hrow
    have HPAT := Lib.hid hpat
    clear hs ho hx hyy hfr hrow hpat
    go_wp2_with fail
    refine HEE.out.mono ?_
    rintro e w4 ⟨rfl, hs4, hf4⟩
    have ho4 := HO.out.fr hf4 (fun e => Blk.ne_ HO.out HS.out.blk (by decide) e)
    have o4 : w4.cell? ⟨w2.heap.size, 0, none⟩ = some (.slice (some ⟨gg, 0, none⟩) 1 cap) := ho4.cell 0
    have hy4 := old_keep HYY.out (Nat.le_succ _) hbl hf4
    have yc : w4.cell? ⟨w.heap.size + 1, 0, none⟩ = some (.slice none 0 0) := hy4.cell 0
    have yf := hy4.frozen 0
    have yl := hy4.lt
    have FS : Fr (fun j => j = w.heap.size + 1) w4 (w4.setCell ⟨w.heap.size + 1, 0, none⟩ (.slice (some ⟨gg, 0, none⟩) 1 cap)) := (Fr.refl (fun j => j = w.heap.size + 1) w4).setCell ⟨w.heap.size + 1, 0, none⟩ (fun _ => rfl) _
    have HY5 := Lib.hid (show Blk (w4.setCell ⟨w.heap.size + 1, 0, none⟩ (.slice (some ⟨gg, 0, none⟩) 1 cap)) (w.heap.size + 1) 50 #[.slice (some ⟨gg, 0, none⟩) 1 cap] from hy4.set_ 0 (.slice (some ⟨gg, 0, none⟩) 1 cap))
    have HS5 := Lib.hid (hs4.fr FS (fun e => by omega) (fun j hj e => own_blk_ne hs4.row hy4 (by decide) (by rw [hj, e])))
    have HF5 := Lib.hid ((HFR.out.trans' hf4).trans (T := fun j => j = b ∨ j = w.heap.size + 1) (FS.mono (fun _ _ h => .inr h)) (fun j hj h => h.elim id (fun h => absurd hj (by omega))))
    have hr4 := ownsRow_fr HROW.out hf4 (fun k hk e => own_blk_ne HROW.out HS.out.blk (by decide) (by rw [hk, e]))
    have HR5 := Lib.hid (ownsRow_base (ownsRow_fr hr4 FS (fun k hk e => own_blk_ne hr4 hy4 (by decide) (by rw [hk, e]))) (show w.heap.size ≤ w.heap.size + 2 by omega))
    have HPA5 := Lib.hid (((HPAT.out.frB HS.out.blk (by decide) hf4).frB hy4 (by decide) FS).base (show w.heap.size ≤ w.heap.size + 2 by omega))
    clear hr4
    clear hs4 hf4 ho4 hy4 FS
    go_wp2_with fail
    exact bodyPost_ret (v := .agg #[.slice (some ⟨gg, 0, none⟩) 1 cap]) (results_cell_row rfl _ _ (w.heap.size + 1) 50 _ (0, 0) _ rfl HY5.out Tryz.underlying50 rfl (by kernel_rfl)) rfl ⟨_, rfl, ⟨_, _, pk, pi, pA, pn, pc, rfl, HR5.out, HPA5.out⟩, HS5.out, HF5.out⟩

/-- What a group has made, told by a predicate that stays where the scanner's own blocks turn. -/
structure GLawP (G : World → Nat → Value → Prop) : Prop where
 slice : ∀ {w : World} {B : Nat} {v : Value}, G w B v → ∃ A n c, v = .slice A n c
 base : ∀ {w : World} {B B' : Nat} {v : Value}, B' ≤ B → G w B v → G w B' v
 frF : ∀ {w w' : World} {B : Nat} {v : Value}, G w B v → Fr (fun _ => False) w w' → G w' B v
 frB : ∀ {w w' : World} {B x t : Nat} {cs : Array Value} {v : Value}, G w B v → Blk w x t cs → t ≠ 68 → t ≠ 50 → t ≠ 62 → Fr (fun j => j = x) w w' → G w' B v
theorem glawp (t : PT) (v1 v3 : ByteArray) (o3 : Value) : GLawP (GPath t v1 v3 o3) := by
 refine ⟨fun h => ?_, fun hB h => ?_, fun h hf => ?_, fun h hx h1 h2 h3 hf => ?_⟩
 · obtain ⟨A, c, pk, pi, pA, pn, pc, rfl, _⟩ := h
   exact ⟨_, _, _, rfl⟩
 · obtain ⟨A, c, pk, pi, pA, pn, pc, rfl, h1, h2⟩ := h
   exact ⟨A, c, pk, pi, pA, pn, pc, rfl, ownsRow_base h1 hB, h2.base hB⟩
 · obtain ⟨A, c, pk, pi, pA, pn, pc, rfl, h1, h2⟩ := h
   exact ⟨A, c, pk, pi, pA, pn, pc, rfl, ownsRow_fr h1 hf (fun _ _ h => h), h2.frF hf⟩
 · obtain ⟨A, c, pk, pi, pA, pn, pc, rfl, h4, h5⟩ := h
   exact ⟨A, c, pk, pi, pA, pn, pc, rfl, ownsRow_fr h4 hf (fun k hk e => own_blk_ne h4 hx (fun h => h1 h.symm) (by rw [hk, e])), h5.frB hx h3 hf⟩
theorem query_scP (G : World → Nat → Value → Prop) (HGL : GLawP G) (rs : List Int) (l : List UInt8) (dis : Bool) (s0 s1 s2' : ByteArray) (p1 p2 s2 p4 p5 p6 p7 s7 p8 q : Nat) (deep : Bool) (pl : Int) (QT : QText rs l dis (.agg #[.string s0, .string s1, .string s2']) p1 p2 s2 p4 p5 p6 p7 s7 p8)
    (hgr : wordAt rs q tGR = false) (b c : Nat) (A : Option Addr) (w : World)
    (HG : ∀ w1, Fr (fun j => j = b) w w1 → Sc w1 b A c rs p8 → Calls Tryz.prog 46 #[.agg #[.pointer (some ⟨b, 0, none⟩)], .int .i64 40] w1 (GrpAny G w1 b A c rs q deep pl)) (h : Sc w b A c rs 0) :
    Calls Tryz.prog 20 #[.agg #[.pointer (some ⟨b, 0, none⟩)]] w (QueryPost G w b A c rs (skip rs [0] q) deep pl tRS ⟨l.toArray⟩ dis (.agg #[.string s0, .string s1, .string s2'])) := by
 have hbl := h.blk.lt
 have N1 := Lib.hid (fun w1 h1 => need_sc tREG b c 0 p1 A rs w1 (ascii_of (by decide)) (by decide) QT.reg.1 QT.reg.2 h1)
 have N2 := Lib.hid (fun B N nc w1 h1 hr => one_sc [tRS, tIS, tDS] 0 b c p1 B A N nc rs w1 (by intro T hT; simp only [List.mem_cons, List.not_mem_nil, or_false] at hT; rcases hT with rfl | rfl | rfl <;> exact ⟨ascii_of (by decide), by decide⟩) (by decide) (by decide) QT.kind.2.2.1 (fun j hj => absurd hj (by omega)) ⟨QT.kind.1, QT.kind.2.2.2.1⟩ p2 ⟨QT.kind.2.1, QT.kind.2.2.2.2⟩ h1 hr)
 have N3 := Lib.hid (fun w1 h1 => iri_sc l b c p2 s2 A rs w1 QT.iri.2.2.2.1 QT.iri.2.2.2.2.1 QT.iri.2.2.2.2.2 QT.iri.1 QT.iri.2.1 QT.iri.2.2.1 h1)
 have N4 := Lib.hid (fun w1 h1 => need_sc tAS b c _ p4 A rs w1 (ascii_of (by decide)) (by decide) QT.asx.1 QT.asx.2 h1)
 have N5 := Lib.hid (fun w1 h1 => need_sc tSEL b c p4 p5 A rs w1 (ascii_of (by decide)) (by decide) QT.sel.1 QT.sel.2 h1)
 have N6 := Lib.hid (fun w1 h1 => word_sc tDIS b c p5 A rs w1 (ascii_of (by decide)) (by decide) h1)
 rw [QT.dis.1, QT.dis.2] at N6
 have N7 := Lib.hid (fun w1 h1 => QT.one b c A w1 h1)
 have N8 := Lib.hid (fun w1 h1 => nextsign_sc b c p7 A rs w1 h1)
 have N9 := Lib.hid (fun w1 h1 => nextsign_sc b c s7 A rs w1 h1)
 rw [QT.nxt.1] at N8
 rw [QT.nxt.2.1] at N9
 have e63 : (peekOf rs s7 == 63) = false := by simpa using QT.nxt.2.2.1
 have e40 : (peekOf rs s7 == 40) = false := by simpa using QT.nxt.2.2.2
 have N10 := Lib.hid (fun w1 h1 => word_sc tFROM b c s7 A rs w1 (ascii_of (by decide)) (by decide) h1)
 rw [QT.frm, one_stay QT.frm QT.nxt.2.1] at N10
 have N11 := Lib.hid (fun w1 h1 => need_sc tWH b c s7 p8 A rs w1 (ascii_of (by decide)) (by decide) QT.whr.1 QT.whr.2 h1)
 have N12 := Lib.hid HG
 have N13 := Lib.hid (fun w1 h1 => word_sc tGR b c q A rs w1 (ascii_of (by decide)) (by decide) h1)
 rw [hgr, one_stay hgr rfl] at N13
 clear HG hgr QT
 generalize peekOf rs s7 = pk at *
 generalize skip rs [0] q = q9 at *
 generalize (⟨l.toArray⟩ : ByteArray) = it at *
 generalize s2 + l.length + 2 = p3 at *
 simp only [show ([tRS, tIS, tDS] : List ByteArray).length = 3 from rfl, show ([tRS, tIS, tDS] : List ByteArray).getD 0 ByteArray.empty = tRS from rfl, show ([tRS, tIS, tDS] : List ByteArray).map Value.string = [.string tRS, .string tIS, .string tDS] from rfl] at N2
 unfold tREG tRS tIS tDS tAS tSEL tDIS tFROM tWH tGR at *
 have hf : Fr (fun _ => False) w ((w.alloc (.cells #[.pointer (some ⟨b, 0, none⟩)] 89)).alloc (.cells #[.string ⟨#[]⟩, .string ⟨#[]⟩, .bool false, .slice none 0 0, .slice none 0 0, .slice none 0 0, .slice none 0 0] 52)) := ((Fr.refl _ _).alloc _).alloc _
 have hz : (w.alloc (.cells #[.pointer (some ⟨b, 0, none⟩)] 89)).heap.size = w.heap.size + 1 := by simp
 have hy := Blk.new (w.alloc (.cells #[.pointer (some ⟨b, 0, none⟩)] 89)) 52 #[.string ⟨#[]⟩, .string ⟨#[]⟩, .bool false, .slice none 0 0, .slice none 0 0, .slice none 0 0, .slice none 0 0]
 rw [hz] at hy
 have HX := Lib.hid ((Blk.new w 89 #[.pointer (some ⟨b, 0, none⟩)]).alloc (.cells #[.string ⟨#[]⟩, .string ⟨#[]⟩, .bool false, .slice none 0 0, .slice none 0 0, .slice none 0 0, .slice none 0 0] 52))
 have HY := Lib.hid hy
 have HF := Lib.hid hf
 have HS0 := Lib.hid (h.frF hf)
 clear h hf hy hz
 go_enter Tryz.func20, Tryz.ntmps20
 go_wp2_with fail
 generalize ((w.alloc (.cells #[.pointer (some ⟨b, 0, none⟩)] 89)).alloc (.cells #[.string ⟨#[]⟩, .string ⟨#[]⟩, .bool false, .slice none 0 0, .slice none 0 0, .slice none 0 0, .slice none 0 0] 52)) = w0 at *
 refine (N1.out _ HS0.out).mono ?_
 rintro e w1 ⟨rfl, hs1, hf1⟩
 have hx1 := box_keep HX.out hbl hf1
 have x1 : w1.cell? ⟨w.heap.size, 0, none⟩ = some (.pointer (some ⟨b, 0, none⟩)) := hx1.cell 0
 have HX1 := Lib.hid hx1
 have HY1 := Lib.hid (old_keep HY.out (Nat.le_succ _) hbl hf1)
 have HS1 := Lib.hid hs1
 have HF1 := Lib.hid ((HF.out.mono (T := fun j => j = b) (fun _ _ h => h.elim)).trans' hf1)
 have hf2 : Fr (fun _ => False) w1 (w1.alloc (.cells #[.string ⟨#[82, 83, 84, 82, 69, 65, 77]⟩, .string ⟨#[73, 83, 84, 82, 69, 65, 77]⟩, .string ⟨#[68, 83, 84, 82, 69, 65, 77]⟩] 9)) := (Fr.refl _ _).alloc _
 have N2' := Lib.hid (N2.out 0 (some ⟨w1.heap.size, 0, none⟩) 3 _ (hs1.frF hf2) (World.ownsRow_lit (base := 0) (e := 9) (size := 1) w1 #[.string ⟨#[82, 83, 84, 82, 69, 65, 77]⟩, .string ⟨#[73, 83, 84, 82, 69, 65, 77]⟩, .string ⟨#[68, 83, 84, 82, 69, 65, 77]⟩] 3 (Nat.zero_le _) (by decide) rfl))
 have HX2 := Lib.hid (hx1.fr hf2 (fun h => h))
 have HY2 := Lib.hid (HY1.out.fr hf2 (fun h => h))
 have HF2 := Lib.hid (HF1.out.trans hf2 (fun _ _ h => h.elim))
 clear hx1 hs1 hf1 hf2
 go_wp2_with fail
 refine N2'.out.mono ?_
 rintro e w3 ⟨rfl, hs3, hf3⟩
 have hlo : w.heap.size + 1 < w3.heap.size := Nat.lt_of_lt_of_le HY2.out.lt hf3.size
 have hlo2 : w.heap.size < w3.heap.size := by omega
 have hf4 : Fr (fun _ => False) w3 (w3.alloc (.cells #[.string ⟨#[82, 83, 84, 82, 69, 65, 77]⟩, .string ⟨#[]⟩, .bool false, .slice none 0 0, .slice none 0 0, .slice none 0 0, .slice none 0 0] 52)) := (Fr.refl _ _).alloc _
 obtain ⟨ob, hob⟩ : ∃ ob, ob = w3.heap.size := ⟨_, rfl⟩
 have HO4 := Lib.hid (show Blk (w3.alloc (.cells #[.string ⟨#[82, 83, 84, 82, 69, 65, 77]⟩, .string ⟨#[]⟩, .bool false, .slice none 0 0, .slice none 0 0, .slice none 0 0, .slice none 0 0] 52)) ob 52 #[.string ⟨#[82, 83, 84, 82, 69, 65, 77]⟩, .string ⟨#[]⟩, .bool false, .slice none 0 0, .slice none 0 0, .slice none 0 0, .slice none 0 0] by rw [hob]; exact Blk.new _ _ _)
 have x3 : w3.cell? ⟨w.heap.size, 0, none⟩ = some (.pointer (some ⟨b, 0, none⟩)) := (box_keep HX2.out hbl hf3).cell 0
 have HX4 := Lib.hid ((box_keep HX2.out hbl hf3).fr hf4 (fun h => h))
 have HY4 := Lib.hid ((old_keep HY2.out (Nat.le_succ _) hbl hf3).fr hf4 (fun h => h))
 have HS4 := Lib.hid (hs3.frF hf4)
 have HF4 := Lib.hid ((HF2.out.trans' hf3).trans hf4 (fun _ _ h => h.elim))
 have hlob : b < ob := by omega
 have hlob2 : w.heap.size + 1 < ob := by omega
 have HOB := Lib.hid hob
 clear hs3 hf3 hf4 x1 hob
 go_wp2_with fail
 rw [← HOB.out]
 clear HOB
 generalize w3.alloc (.cells #[.string ⟨#[82, 83, 84, 82, 69, 65, 77]⟩, .string ⟨#[]⟩, .bool false, .slice none 0 0, .slice none 0 0, .slice none 0 0, .slice none 0 0] 52) = w4 at *
 refine (N3.out _ HS4.out).mono ?_
 rintro e w5 ⟨rfl, hs5, hf5⟩
 have hx5 := box_keep HX4.out hbl hf5
 have hy5 := old_keep HY4.out (Nat.le_succ _) hbl hf5
 have ho5 := HO4.out.fr hf5 (fun e => by omega)
 have oc5 : w5.cell? ⟨ob, 1, none⟩ = some (.string ⟨#[]⟩) := ho5.cell 1
 have of5 := ho5.frozen 1
 have ol5 := ho5.lt
 have FS5 : Fr (fun j => j = ob) w5 (w5.setCell ⟨ob, 1, none⟩ (.string it)) := (Fr.refl (fun j => j = ob) w5).setCell ⟨ob, 1, none⟩ (fun _ => rfl) _
 have hx5c : w5.cell? ⟨w.heap.size, 0, none⟩ = some (.pointer (some ⟨b, 0, none⟩)) := hx5.cell 0
 have hne5 : ¬ ob = w.heap.size := by omega
 have HX5 := Lib.hid (hx5.fr FS5 (fun e => by omega))
 have HY5 := Lib.hid (hy5.fr FS5 (fun e => by omega))
 have HO5 := Lib.hid (show Blk (w5.setCell ⟨ob, 1, none⟩ (.string it)) ob 52 #[.string ⟨#[82, 83, 84, 82, 69, 65, 77]⟩, .string it, .bool false, .slice none 0 0, .slice none 0 0, .slice none 0 0, .slice none 0 0] from ho5.set_ 1 (.string it))
 have HS5 := Lib.hid (hs5.fr FS5 (fun e => by omega) (fun j hj e => own_blk_ne hs5.row ho5 (by decide) (by rw [hj, e])))
 have HF5 := Lib.hid ((HF4.out.trans' hf5).trans (T := fun j => j = b ∨ j = ob) (FS5.mono (fun _ _ h => .inr h)) (fun j hj h => h.elim id (fun h => absurd hj (by omega))))
 clear hs5 hf5 hx5 hy5 ho5 FS5
 go_wp2_with fail
 clear oc5 of5 hx5c
 generalize (w5.setCell ⟨ob, 1, none⟩ (.string it)) = w5' at *
 refine (N4.out _ HS5.out).mono ?_
 rintro e w6 ⟨rfl, hs6, hf6⟩
 have hx6 := box_keep HX5.out hbl hf6
 have hy6 := old_keep HY5.out (Nat.le_succ _) hbl hf6
 have ho6 := HO5.out.fr hf6 (fun e => by omega)
 have x6 : w6.cell? ⟨w.heap.size, 0, none⟩ = some (.pointer (some ⟨b, 0, none⟩)) := hx6.cell 0
 have HX6 := Lib.hid hx6
 have HY6 := Lib.hid hy6
 have HO6 := Lib.hid ho6
 have HS6 := Lib.hid hs6
 have HF6 := Lib.hid (HF5.out.trans' hf6)
 clear hs6 hf6 hx6 hy6 ho6
 go_wp2_with fail
 refine (N5.out _ HS6.out).mono ?_
 rintro e w7 ⟨rfl, hs7, hf7⟩
 have hx7 := box_keep HX6.out hbl hf7
 have hy7 := old_keep HY6.out (Nat.le_succ _) hbl hf7
 have ho7 := HO6.out.fr hf7 (fun e => by omega)
 have x7 : w7.cell? ⟨w.heap.size, 0, none⟩ = some (.pointer (some ⟨b, 0, none⟩)) := hx7.cell 0
 have HX7 := Lib.hid hx7
 have HY7 := Lib.hid hy7
 have HO7 := Lib.hid ho7
 have HS7 := Lib.hid hs7
 have HF7 := Lib.hid (HF6.out.trans' hf7)
 clear hs7 hf7 hx7 hy7 ho7
 go_wp2_with fail
 refine (N6.out _ HS7.out).mono ?_
 rintro e w8 ⟨rfl, hs8, hf8⟩
 have hx8 := box_keep HX7.out hbl hf8
 have hy8 := old_keep HY7.out (Nat.le_succ _) hbl hf8
 have ho8 := HO7.out.fr hf8 (fun e => by omega)
 have oc8 : w8.cell? ⟨ob, 2, none⟩ = some (.bool false) := ho8.cell 2
 have of8 := ho8.frozen 2
 have ol8 := ho8.lt
 have FS8 : Fr (fun j => j = ob) w8 (w8.setCell ⟨ob, 2, none⟩ (.bool dis)) := (Fr.refl (fun j => j = ob) w8).setCell ⟨ob, 2, none⟩ (fun _ => rfl) _
 have hx8c : w8.cell? ⟨w.heap.size, 0, none⟩ = some (.pointer (some ⟨b, 0, none⟩)) := hx8.cell 0
 have hne8 : ¬ ob = w.heap.size := by omega
 have HX8 := Lib.hid (hx8.fr FS8 (fun e => by omega))
 have HY8 := Lib.hid (hy8.fr FS8 (fun e => by omega))
 have HO8 := Lib.hid (show Blk (w8.setCell ⟨ob, 2, none⟩ (.bool dis)) ob 52 #[.string ⟨#[82, 83, 84, 82, 69, 65, 77]⟩, .string it, .bool dis, .slice none 0 0, .slice none 0 0, .slice none 0 0, .slice none 0 0] from ho8.set_ 2 (.bool dis))
 have HS8 := Lib.hid (hs8.fr FS8 (fun e => by omega) (fun j hj e => own_blk_ne hs8.row ho8 (by decide) (by rw [hj, e])))
 have HF8 := Lib.hid ((HF7.out.trans' hf8).trans (T := fun j => j = b ∨ j = ob) (FS8.mono (fun _ _ h => .inr h)) (fun j hj h => h.elim id (fun h => absurd hj (by omega))))
 clear hs8 hf8 hx8 hy8 ho8 FS8
 go_wp2_with fail
 clear oc8 of8 hx8c
 generalize (w8.setCell ⟨ob, 2, none⟩ (.bool dis)) = w8' at *
 refine (N7.out _ HS8.out).mono ?_
 rintro e w9 ⟨rfl, hs9, hf9⟩
 have hx9 := box_keep HX8.out hbl hf9
 have hy9 := old_keep HY8.out (Nat.le_succ _) hbl hf9
 have ho8 := HO8.out.fr hf9 (fun e => by omega)
 have oc8 : w9.cell? ⟨ob, 3, none⟩ = some (.slice none 0 0) := ho8.cell 3
 have of8 := ho8.frozen 3
 have ol8 := ho8.lt
 have FS9 : Fr (fun j => j = ob) w9 (w9.setCell ⟨ob, 3, none⟩ (.slice (some ⟨w9.heap.size, 0, none⟩) 1 1)) := (Fr.refl (fun j => j = ob) _).setCell ⟨ob, 3, none⟩ (fun _ => rfl) _
 have hfa : Fr (fun _ => False) (w9.setCell ⟨ob, 3, none⟩ (.slice (some ⟨w9.heap.size, 0, none⟩) 1 1)) ((w9.setCell ⟨ob, 3, none⟩ (.slice (some ⟨w9.heap.size, 0, none⟩) 1 1)).alloc (.cells #[.string s0, .string s1, .string s2'] 122)) := (Fr.refl _ _).alloc _
 have hx9c : w9.cell? ⟨w.heap.size, 0, none⟩ = some (.pointer (some ⟨b, 0, none⟩)) := hx9.cell 0
 have hne9 : ¬ ob = w.heap.size := by omega
 obtain ⟨sb, hsb⟩ : ∃ sb, sb = w9.heap.size := ⟨_, rfl⟩
 have hsl := Blk.new (w9.setCell ⟨ob, 3, none⟩ (.slice (some ⟨w9.heap.size, 0, none⟩) 1 1)) 122 #[.string s0, .string s1, .string s2']
 rw [show ((w9.setCell ⟨ob, 3, none⟩ (.slice (some ⟨w9.heap.size, 0, none⟩) 1 1))).heap.size = w9.heap.size by simp, ← hsb] at hsl
 rw [← hsb] at FS9 hfa
 have HSL9 := Lib.hid hsl
 have HX9 := Lib.hid ((hx9.fr FS9 (fun e => by omega)).fr hfa (fun h => h))
 have HY9 := Lib.hid ((hy9.fr FS9 (fun e => by omega)).fr hfa (fun h => h))
 have HO9 := Lib.hid ((show Blk (w9.setCell ⟨ob, 3, none⟩ (.slice (some ⟨sb, 0, none⟩) 1 1)) ob 52 #[.string ⟨#[82, 83, 84, 82, 69, 65, 77]⟩, .string it, .bool dis, .slice (some ⟨sb, 0, none⟩) 1 1, .slice none 0 0, .slice none 0 0, .slice none 0 0] from ho8.set_ 3 _).fr hfa (fun h => h))
 have HS9 := Lib.hid ((hs9.fr FS9 (fun e => by omega) (fun j hj e => own_blk_ne hs9.row ho8 (by decide) (by rw [hj, e]))).frF hfa)
 have HF9 := Lib.hid (((HF8.out.trans' hf9).trans (T := fun j => j = b ∨ j = ob) (FS9.mono (fun _ _ h => .inr h)) (fun j hj h => h.elim id (fun h => absurd hj (by omega)))).trans hfa (fun _ _ h => h.elim))
 have hsbb : b < sb := by omega
 have hsbo : ob < sb := by omega
 clear hs9 hf9 hx9 hy9 ho8 FS9 hfa hsl
 go_wp2_with fail
 clear hx9c oc8 of8
 rw [← hsb]
 clear hsb
 generalize ((w9.setCell ⟨ob, 3, none⟩ (.slice (some ⟨sb, 0, none⟩) 1 1)).alloc (.cells #[.string s0, .string s1, .string s2'] 122)) = w10 at *
 have x10 : w10.cell? ⟨w.heap.size, 0, none⟩ = some (.pointer (some ⟨b, 0, none⟩)) := HX9.out.cell 0
 go_loopw [33] (fun _ wr => w10 = wr) (fun _ _ => 0)
 case atStart => exact rfl
 case round =>
  subst hrel
  have HX10 := HX9
  have HY10 := HY9
  have HO10 := HO9
  have HSL10 := HSL9
  have HS10 := HS9
  have HF10 := HF9
  clear HX9 HY9 HO9 HSL9 HS9 HF9
  go_wp2_with fail
  refine (N8.out _ HS10.out).mono ?_
  rintro e w11 ⟨rfl, hs11, hf11⟩
  have hx11 := box_keep HX10.out hbl hf11
  have HY11 := Lib.hid (old_keep HY10.out (Nat.le_succ _) hbl hf11)
  have HO11 := Lib.hid (HO10.out.fr hf11 (fun e => by omega))
  have HSL11 := Lib.hid (HSL10.out.fr hf11 (fun e => by omega))
  have x11 : w11.cell? ⟨w.heap.size, 0, none⟩ = some (.pointer (some ⟨b, 0, none⟩)) := hx11.cell 0
  have HX11 := Lib.hid hx11
  have HS11 := Lib.hid hs11
  have HF11 := Lib.hid (HF10.out.trans' hf11)
  clear hs11 hf11 hx11
  go_wp2_with fail
  refine (N9.out _ HS11.out).mono ?_
  rintro e w12 ⟨rfl, hs12, hf12⟩
  have hx12 := box_keep HX11.out hbl hf12
  have HY12 := Lib.hid (old_keep HY11.out (Nat.le_succ _) hbl hf12)
  have HO12 := Lib.hid (HO11.out.fr hf12 (fun e => by omega))
  have HSL12 := Lib.hid (HSL11.out.fr hf12 (fun e => by omega))
  have x12 : w12.cell? ⟨w.heap.size, 0, none⟩ = some (.pointer (some ⟨b, 0, none⟩)) := hx12.cell 0
  have HX12 := Lib.hid hx12
  have HS12 := Lib.hid hs12
  have HF12 := Lib.hid (HF11.out.trans' hf12)
  clear hs12 hf12 hx12
  go_wp2_with fail
  go_loopw [48] (fun _ wr => w12 = wr) (fun _ _ => 0)
  case atStart => exact rfl
  case round =>
   subst hrel
   go_wp2_with fail
   refine (N10.out _ HS12.out).mono ?_
   rintro e w13 ⟨rfl, hs13, hf13⟩
   have hx13 := box_keep HX12.out hbl hf13
   have HY13 := Lib.hid (old_keep HY12.out (Nat.le_succ _) hbl hf13)
   have HO13 := Lib.hid (HO12.out.fr hf13 (fun e => by omega))
   have HSL13 := Lib.hid (HSL12.out.fr hf13 (fun e => by omega))
   have x13 : w13.cell? ⟨w.heap.size, 0, none⟩ = some (.pointer (some ⟨b, 0, none⟩)) := hx13.cell 0
   have HX13 := Lib.hid hx13
   have HS13 := Lib.hid hs13
   have HF13 := Lib.hid (HF12.out.trans' hf13)
   clear hs13 hf13 hx13
   go_wp2_with fail
   refine (N11.out _ HS13.out).mono ?_
   rintro e w14 ⟨rfl, hs14, hf14⟩
   have hx14 := box_keep HX13.out hbl hf14
   have HY14 := Lib.hid (old_keep HY13.out (Nat.le_succ _) hbl hf14)
   have HO14 := Lib.hid (HO13.out.fr hf14 (fun e => by omega))
   have HSL14 := Lib.hid (HSL13.out.fr hf14 (fun e => by omega))
   have x14 : w14.cell? ⟨w.heap.size, 0, none⟩ = some (.pointer (some ⟨b, 0, none⟩)) := hx14.cell 0
   have HX14 := Lib.hid hx14
   have HS14 := Lib.hid hs14
   have HF14 := Lib.hid (HF13.out.trans' hf14)
   clear hs14 hf14 hx14
   go_wp2_with fail
   have N12' := Lib.hid (N12.out _ HF14.out HS14.out)
   cases deep with
   | true =>
    unfold GrpAny at N12'
    simp only [if_true] at N12'
    refine N12'.out.mono ?_
    rintro e w15 ⟨hT, hf15⟩
    unfold Thrown at hT
    subst hT
    have HP := Lib.hid (show QueryPost G w b A c rs q9 true pl ⟨#[82, 83, 84, 82, 69, 65, 77]⟩ it dis (.agg #[.string s0, .string s1, .string s2']) (.panicked [{ v := failV pl 15, recovered := false }]) w15 from by
     unfold QueryPost
     rw [if_pos rfl]
     exact ⟨rfl, HF14.out.trans' hf15⟩)
    clear hf15
    go_wp2_with fail
    exact ⟨rfl, HP.out⟩
   | false =>
    unfold GrpAny at N12'
    simp only [Bool.false_eq_true, if_false] at N12'
    refine N12'.out.mono ?_
    rintro e w15 ⟨v, rfl, hg15, hs15, hf15⟩
    obtain ⟨A5, n5, c5, rfl⟩ := HGL.slice hg15
    have hx15 := box_keep HX14.out hbl hf15
    have hy15 := old_keep HY14.out (Nat.le_succ _) hbl hf15
    have ho15 := HO14.out.fr hf15 (fun e => by omega)
    have hl15 := HSL14.out.fr hf15 (fun e => by omega)
    have oc : w15.cell? ⟨ob, 5, none⟩ = some (.slice none 0 0) := ho15.cell 5
    have of_ := ho15.frozen 5
    have ol := ho15.lt
    have FS : Fr (fun j => j = ob) w15 (w15.setCell ⟨ob, 5, none⟩ (.slice A5 n5 c5)) := (Fr.refl (fun j => j = ob) w15).setCell ⟨ob, 5, none⟩ (fun _ => rfl) _
    have xc : w15.cell? ⟨w.heap.size, 0, none⟩ = some (.pointer (some ⟨b, 0, none⟩)) := hx15.cell 0
    have hne : ¬ ob = w.heap.size := by omega
    have HX16 := Lib.hid (hx15.fr FS (fun e => by omega))
    have HY16 := Lib.hid (hy15.fr FS (fun e => by omega))
    have HO16 := Lib.hid (show Blk (w15.setCell ⟨ob, 5, none⟩ (.slice A5 n5 c5)) ob 52 #[.string ⟨#[82, 83, 84, 82, 69, 65, 77]⟩, .string it, .bool dis, .slice (some ⟨sb, 0, none⟩) 1 1, .slice none 0 0, .slice A5 n5 c5, .slice none 0 0] from ho15.set_ 5 (.slice A5 n5 c5))
    have HSL16 := Lib.hid (hl15.fr FS (fun e => by omega))
    have HS16 := Lib.hid (hs15.fr FS (fun e => by omega) (fun j hj e => own_blk_ne hs15.row ho15 (by decide) (by rw [hj, e])))
    have HG16 := Lib.hid (HGL.frB (HGL.base HF14.out.size hg15) ho15 (by decide) (by decide) (by decide) FS)
    have HF16 := Lib.hid ((HF14.out.trans' hf15).trans (T := fun j => j = b ∨ j = ob) (FS.mono (fun _ _ h => .inr h)) (fun j hj h => h.elim id (fun h => absurd hj (by omega))))
    clear hx15 hy15 ho15 hl15 FS hs15 hg15 hf15
    go_wp2_with fail
    clear oc of_ xc
    generalize w15.setCell ⟨ob, 5, none⟩ (.slice A5 n5 c5) = w16 at *
    refine (N13.out _ HS16.out).mono ?_
    rintro e w17 ⟨rfl, hs17, hf17⟩
    have hy17 := old_keep HY16.out (Nat.le_succ _) hbl hf17
    have ho17 := HO16.out.fr hf17 (fun e => by omega)
    have hl17 := HSL16.out.fr hf17 (fun e => by omega)
    have HRG := Lib.hid (blkRange (cs := [.string ⟨#[82, 83, 84, 82, 69, 65, 77]⟩, .string it, .bool dis, .slice (some ⟨sb, 0, none⟩) 1 1, .slice none 0 0, .slice A5 n5 c5, .slice none 0 0]) ho17)
    have HTH := Lib.hid (Blk.there (cs := [.string ⟨#[]⟩, .string ⟨#[]⟩, .bool false, .slice none 0 0, .slice none 0 0, .slice none 0 0, .slice none 0 0]) hy17 (n := 7) rfl)
    have hst := Blk.setAll (vs := [.string ⟨#[82, 83, 84, 82, 69, 65, 77]⟩, .string it, .bool dis, .slice (some ⟨sb, 0, none⟩) 1 1, .slice none 0 0, .slice A5 n5 c5, .slice none 0 0]) (old := [.string ⟨#[]⟩, .string ⟨#[]⟩, .bool false, .slice none 0 0, .slice none 0 0, .slice none 0 0, .slice none 0 0]) hy17 rfl
    have HONE := Lib.hid (show (#[.string ⟨#[82, 83, 84, 82, 69, 65, 77]⟩, .string it, .bool dis, .slice (some ⟨sb, 0, none⟩) 1 1, .slice none 0 0, .slice A5 n5 c5, .slice none 0 0] : Array Value).all (·.oneCell') = true from all_oneCell_toArray (by
     intro v hv
     simp only [List.mem_cons, List.not_mem_nil, or_false] at hv
     rcases hv with rfl | rfl | rfl | rfl | rfl | rfl | rfl <;> rfl))
    have HY18 := Lib.hid hst.1
    have HG17 := HGL.frB HG16.out HS16.out.blk (by decide) (by decide) (by decide) hf17
    have HP := Lib.hid (show QueryPost G w b A c rs q9 false pl ⟨#[82, 83, 84, 82, 69, 65, 77]⟩ it dis (.agg #[.string s0, .string s1, .string s2']) (.returned (.agg #[.string ⟨#[82, 83, 84, 82, 69, 65, 77]⟩, .string it, .bool dis, .slice (some ⟨sb, 0, none⟩) 1 1, .slice none 0 0, .slice A5 n5 c5, .slice none 0 0])) (w17.setCells (w.heap.size + 1) 0 [.string ⟨#[82, 83, 84, 82, 69, 65, 77]⟩, .string it, .bool dis, .slice (some ⟨sb, 0, none⟩) 1 1, .slice none 0 0, .slice A5 n5 c5, .slice none 0 0]) from by
     unfold QueryPost
     rw [if_neg (by decide)]
     exact ⟨sb, _, rfl, hl17.fr hst.2 (fun e => by omega), HGL.frB HG17 hy17 (by decide) (by decide) (by decide) hst.2, hs17.fr hst.2 (fun e => by omega) (fun j hj e => own_blk_ne hs17.row hy17 (by decide) (by rw [hj, e])), (HF16.out.trans' hf17).trans (T := fun j => j = b ∨ j = w.heap.size + 1) (hst.2.mono (fun _ _ h => .inr h)) (fun j hj h => h.elim id (fun h => absurd hj (by omega)))⟩)
    clear hy17 ho17 hl17 hst hs17 hf17 HG17
    go_wp2_with (first | refine wpList_load_mid rfl 52 _ rfl ob 0 rfl _ _ HRG.out Tryz.underlying52 rfl info30 ?_ | refine wpList_store_mid rfl 52 _ _ rfl _ _ _ rfl rfl HTH.out info30 HONE.out ?_)
    exact bodyPost_ret (v := .agg #[.string ⟨#[82, 83, 84, 82, 69, 65, 77]⟩, .string it, .bool dis, .slice (some ⟨sb, 0, none⟩) 1 1, .slice none 0 0, .slice A5 n5 c5, .slice none 0 0]) (results_cell_row rfl _ _ (w.heap.size + 1) 52 _ (0, 0) _ rfl HY18.out Tryz.underlying52 rfl (by kernel_rfl)) rfl HP.out

theorem inf52q : (Tryz.prog.info? 52).map (·.size) = some 7 := by kernel_rfl
/-- What is known of a tree's cells stays where the scanner's and the guard's blocks turn. -/
structure PLaw (PQ : World → Nat → List Value → Prop) : Prop where
 shape : ∀ {w : World} {B : Nat} {cs : List Value}, PQ w B cs → ∃ kind t dis A1 n1 c1 A2 n2 c2 A3 n3 c3 A4 n4 c4, cs = [.string kind, .string t, .bool dis, .slice A1 n1 c1, .slice A2 n2 c2, .slice A3 n3 c3, .slice A4 n4 c4]
 base : ∀ {w : World} {B B' : Nat} {cs : List Value}, B' ≤ B → PQ w B cs → PQ w B' cs
 frF : ∀ {w w' : World} {B : Nat} {cs : List Value}, PQ w B cs → Fr (fun _ => False) w w' → PQ w' B cs
 frB : ∀ {w w' : World} {B x t : Nat} {cs : List Value} {ds : Array Value}, PQ w B cs → Blk w x t ds → (t = 161 ∨ t = 3 ∨ t = 53 ∨ t = 52) → Fr (fun j => j = x) w w' → PQ w' B cs
def zero52q : List Value := [.string ⟨#[]⟩, .string ⟨#[]⟩, .bool false, .slice none 0 0, .slice none 0 0, .slice none 0 0, .slice none 0 0]
/-- A query that is parsed. -/
def QPostS (PQ : World → Nat → List Value → Prop) (w : World) (b : Nat) (A : Option Addr) (c : Nat) (rs : List Int) (q : Nat) (e : Ending) (w' : World) : Prop :=
 ∃ cs, e = .returned (.agg cs.toArray) ∧ PQ w' w.heap.size cs ∧ Sc w' b A c rs q ∧ Fr (fun j => j = b) w w'
def P1Post (PQ : World → Nat → List Value → Prop) (w : World) (b : Nat) (A : Option Addr) (c : Nat) (rs : List Int) (q qb : Nat) (e : Ending) (w' : World) : Prop :=
 e = .returned (.tuple #[]) ∧ Sc w' b A c rs q ∧ (∃ cs, Blk w' qb 52 cs.toArray ∧ PQ w' w.heap.size cs) ∧ Fr (fun j => j = b ∨ j = qb) w w'

theorem parse1_ok (PQ : World → Nat → List Value → Prop) (HP : PLaw PQ) (b c q qb : Nat) (A : Option Addr) (rs : List Int) (w : World) (HQ : ∀ w1, Fr (fun _ => False) w w1 → Sc w1 b A c rs 0 → Calls Tryz.prog 20 #[.agg #[.pointer (some ⟨b, 0, none⟩)]] w1 (QPostS PQ w1 b A c rs q)) (hq : Blk w qb 52 zero52q.toArray) (h : Sc w b A c rs 0) :
    Calls Tryz.prog 19 #[.agg #[.pointer (some ⟨b, 0, none⟩)], .pointer (some ⟨qb, 0, none⟩)] w (P1Post PQ w b A c rs q qb) := by
 have hf : Fr (fun _ => False) w (w.alloc (.cells #[.pointer (some ⟨b, 0, none⟩)] 89)) := (Fr.refl _ _).alloc _
 have HQQ := Lib.hid (HQ _ hf (h.frF hf))
 have HB := Lib.hid (hq.fr hf (fun h => h))
 have HF := Lib.hid hf
 have hbl := h.blk.lt
 have hql := hq.lt
 have hnb : ¬ qb = b := Blk.ne_ hq h.blk (by decide)
 clear HQ hf hq h
 go_enter Tryz.func19, Tryz.ntmps19
 go_wp2_with fail
 refine HQQ.out.mono ?_
 rintro e w1 ⟨cs, rfl, hp1, hs1, hf1⟩
 obtain ⟨kind, t, dis, A1, n1, c1, A2, n2, c2, A3, n3, c3, A4, n4, c4, rfl⟩ := HP.shape hp1
 have hq1 := HB.out.fr hf1 hnb
 have hst := Blk.setAll (vs := [.string kind, .string t, .bool dis, .slice A1 n1 c1, .slice A2 n2 c2, .slice A3 n3 c3, .slice A4 n4 c4]) (old := zero52q) hq1 rfl
 have HTH := Lib.hid (Blk.there (cs := zero52q) hq1 (n := 7) rfl)
 have HST := Lib.hid hst.1
 have HS := Lib.hid (hs1.fr hst.2 (fun e => hnb e.symm) (fun j hj e => own_blk_ne hs1.row hq1 (by decide) (by rw [hj, e])))
 have HPP := Lib.hid (HP.base (Nat.le_trans (Nat.le_succ _) (by have := HF.out.size; simp at this ⊢)) (HP.frB hp1 hq1 (.inr (.inr (.inr rfl))) hst.2) : PQ _ w.heap.size _)
 have HFF := Lib.hid (((HF.out.mono (T := fun j => j = b ∨ j = qb) (fun _ _ h => h.elim)).trans' (hf1.mono (fun _ _ h => .inl h))).trans' (hst.2.mono (fun _ _ h => .inr h)))
 have HONE := Lib.hid (show (#[.string kind, .string t, .bool dis, .slice A1 n1 c1, .slice A2 n2 c2, .slice A3 n3 c3, .slice A4 n4 c4] : Array Value).all (·.oneCell') = true from all_oneCell_toArray (by
  intro v hv
  simp only [List.mem_cons, List.not_mem_nil, or_false] at hv
  rcases hv with rfl | rfl | rfl | rfl | rfl | rfl | rfl <;> rfl))
 have hl1 := hq1.lt
 clear hst hq1 hs1 hp1 hf1
 go_wp2_with (refine wpList_store_mid rfl 52 _ _ rfl _ _ _ rfl rfl HTH.out inf52q HONE.out ?_)
 go_end0
 exact ⟨rfl, HS.out, ⟨_, HST.out, HPP.out⟩, HFF.out⟩

theorem results_c3' {P : Program} {fn : Func} {p c d : Tmp} {ty : TypeId} (h : fn.results = #[.cell p ty, .tmp c, .tmp d]) (tmps : Array Value) (w : World) :
    (results fn tmps).run P w = ((asAddr (tmps.getD p undef)).run P w).andThen fun q w₁ => ((loadVar ty q).run P w₁).andThen fun v w₂ => .ok (.tuple #[v, tmps.getD c undef, tmps.getD d undef]) w₂ := by
 simp only [results, h]
 simp [Sem.run_bind, Result.andThen]
theorem results_c3 {P : Program} {fn : Func} {p c d : Tmp} {ty : TypeId} (h : fn.results = #[.cell p ty, .tmp c, .tmp d]) (tmps : Array Value) (w : World) (g : Nat) (t : TypeId) (cs : Array Value) (fr : Nat × Nat) (ds : TypeDesc)
    (hp : tmps.getD p undef = .pointer (some ⟨g, 0, none⟩)) (hg : w.heap[g]? = some (.cells cs t fr))
    (hu : P.underlying ty = some ds) (hd : (match ds with | .struct _ | .array _ _ => true | _ => false) = true) (hi : (P.info? ty).map (·.size) = some cs.size) (vc vd : Value) (hc : tmps.getD c undef = vc) (hd2 : tmps.getD d undef = vd) :
    (results fn tmps).run P w = .ok (.tuple #[.agg cs, vc, vd]) w := by
 rw [results_c3' h, hp, hc, hd2]
 simp [asAddr, run_loadVar_row w g t ty cs fr ds hg hu hd hi]

/-- A text that is parsed. -/
def ParsePostS (PQ : World → Nat → List Value → Prop) (w : World) (e : Ending) (w' : World) : Prop :=
 ∃ cs, e = .returned (.tuple #[.agg cs.toArray, .int .i64 0, .int .i64 0]) ∧ PQ w' w.heap.size cs ∧ Fr (fun _ => False) w w'
def PWq (PQ : World → Nat → List Value → Prop) (qb B : Nat) (w : World) : Prop := ∃ cs : List Value, Blk w qb 52 cs.toArray ∧ PQ w B cs
theorem kept_pwq (PQ : World → Nat → List Value → Prop) (HP : PLaw PQ) (qb B : Nat) : Kept (PWq PQ qb B) := by
 constructor
 · rintro w1 w2 ⟨cs, h1, h2⟩ hf
   exact ⟨cs, h1.fr hf (fun h => h), HP.frF h2 hf⟩
 · rintro w1 w2 x t ds ⟨cs, h1, h2⟩ hx ht hf
   refine ⟨cs, h1.fr hf (fun e => Blk.ne_ h1 hx (fun e2 => ?_) e), HP.frB h2 hx ?_ hf⟩
   · subst e2
     rcases ht with h | h | h <;> exact absurd h (by decide)
   · rcases ht with h | h | h
     · exact .inl h
     · exact .inr (.inl h)
     · exact .inr (.inr (.inl h))
theorem enters39 : ∀ args w, (callFunc 19 args).run Tryz.prog w = .ok (.enter 19 args) w := fun args w => by kernel_rfl

theorem guarded_okG (s : ByteArray) (F n' qb : Nat) (C : Array Value) (PW : World → Prop) (hPW : Kept PW) (w : World) (rs : List Int) (hA : Text s rs) (hs : s.size ≤ 4096) (hn : skip rs [0] n' = rs.length) (hqb : qb < w.heap.size) (hen : ∀ args w, (callFunc F args).run Tryz.prog w = .ok (.enter F args) w)
    (HF : ∀ (b c : Nat) (A : Option Addr) (w1 : World), w.heap.size ≤ b → Fr (fun _ => False) w w1 → Sc w1 b A c rs 0 → Calls Tryz.prog F (#[.agg #[.pointer (some ⟨b, 0, none⟩)]] ++ C) w1 fun e w' => e = .returned (.tuple #[]) ∧ Sc w' b A c rs n' ∧ PW w' ∧ Fr (fun j => j = b ∨ j = qb) w1 w') :
    Calls Tryz.prog 18 #[.string s, .func (.func F) #[] C] w fun e w' => e = .returned (.tuple #[.int .i64 0, .int .i64 0]) ∧ PW w' ∧ Fr (fun j => j = qb) w w' := by
 have hmf : ∀ (fn : Fn) (first cap : Array Value) (w : World), (Instr.makeFunc fn first cap).run Tryz.prog w = .ok (.func fn first cap) w := fun _ _ _ _ => rfl
 have HN := Lib.hid (fun w1 => new_scG s rs w1 hA hs)
 have hlen : ¬ ((s.size : Int) > 8192) := by omega
 have HFF := Lib.hid HF
 have HSK := Lib.hid hn
 have HPW := Lib.hid hPW
 clear HF hA hn hPW
 go_enter_defers Tryz.func18, Tryz.ntmps18
 go_wp2_with fail
 refine (HN.out _).mono ?_
 rintro e w1 ⟨b, g, c, rfl, hb, hs1, hf1⟩
 have hz1 : (w.alloc (.cells #[.int .i64 0] 3)).heap.size = w.heap.size + 1 := by simp
 have hz2 : ((w.alloc (.cells #[.int .i64 0] 3)).alloc (.cells #[.int .i64 0] 53)).heap.size = w.heap.size + 1 + 1 := by simp
 have hb' : w.heap.size + 1 + 1 ≤ b := by omega
 have hbl := hs1.blk.lt
 have hR1 := ((Blk.new w 3 #[.int .i64 0]).alloc (.cells #[.int .i64 0] 53)).fr hf1 (fun h => h)
 have hE1 := (Blk.new (w.alloc (.cells #[.int .i64 0] 3)) 53 #[.int .i64 0]).fr hf1 (fun h => h)
 rw [hz1] at hE1
 have hfa : Fr (fun _ => False) w1 (w1.alloc (.cells #[.pointer (some ⟨b, 0, none⟩)] 89)) := (Fr.refl _ _).alloc _
 have HX2 := Lib.hid (Blk.new w1 89 #[.pointer (some ⟨b, 0, none⟩)])
 have HR2 := Lib.hid (hR1.fr hfa (fun h => h))
 have HE2 := Lib.hid (hE1.fr hfa (fun h => h))
 have HF1 := Lib.hid (((((Fr.refl (fun _ => False) w).alloc (.cells #[.int .i64 0] 3)).alloc (.cells #[.int .i64 0] 53)).trans' hf1).trans' hfa)
 have HCL := Lib.hid (HFF.out b c (some ⟨g, 0, none⟩) _ (by omega) HF1.out (hs1.frF hfa))
 have hsz1 := hf1.size
 rw [hz2] at hsz1
 clear hs1 hf1 hfa hR1 hE1 hz1 hz2
 go_wp2_with fail
 refine HCL.out.mono ?_
 rintro e w2 ⟨rfl, hs2, hp2, hf2⟩
 have hx2 := HX2.out.fr hf2 (fun e => by omega)
 have x2 : w2.cell? ⟨w1.heap.size, 0, none⟩ = some (.pointer (some ⟨b, 0, none⟩)) := hx2.cell 0
 have HX3 := Lib.hid hx2
 have HR3 := Lib.hid (HR2.out.fr hf2 (fun e => by omega))
 have HE3 := Lib.hid (HE2.out.fr hf2 (fun e => by omega))
 have HF2 := Lib.hid ((HF1.out.mono (T := fun j => j = b ∨ j = qb) (fun _ _ h => h.elim)).trans' hf2)
 have HBL := Lib.hid (blanks_sc b c n' (some ⟨g, 0, none⟩) rs w2 hs2)
 rw [HSK.out] at HBL
 have HP2 := Lib.hid hp2
 have HS2 := Lib.hid hs2
 clear hf2 hx2 hp2 hs2
 go_wp2_with fail
 refine HBL.out.mono ?_
 rintro e w3 ⟨⟨k, rfl⟩, hs3, hf3⟩
 have hx3 := HX3.out.fr hf3 (fun e => by omega)
 have x3 : w3.cell? ⟨w1.heap.size, 0, none⟩ = some (.pointer (some ⟨b, 0, none⟩)) := hx3.cell 0
 have HR4 := Lib.hid (HR3.out.fr hf3 (fun e => by omega))
 have HE4 := Lib.hid (HE3.out.fr hf3 (fun e => by omega))
 have HP3 := Lib.hid (HPW.out.2 _ _ b _ _ HP2.out HS2.out.blk (.inl rfl) hf3)
 have HF3 := Lib.hid (HF2.out.trans hf3 (fun _ _ e => .inl e))
 have HEN := Lib.hid (end_sc b c _ _ rs w3 hs3)
 rw [decide_eq_true rfl] at HEN
 clear hs3 hf3 hx3 x2
 go_wp2_with fail
 refine HEN.out.mono ?_
 rintro e w4 ⟨rfl, hf4⟩
 have hr4 := HR4.out.fr hf4 (fun h => h)
 have he4 := HE4.out.fr hf4 (fun h => h)
 have hp4 := HPW.out.1 _ _ HP3.out hf4
 have a1 : w4.cell? ⟨w.heap.size, 0, none⟩ = some (.int .i64 0) := hr4.cell 0
 have a2 : w4.cell? ⟨w.heap.size + 1, 0, none⟩ = some (.int .i64 0) := he4.cell 0
 have z1 := hr4.frozen 0
 have z2 := he4.frozen 0
 have l1 := hr4.lt
 have l2 := he4.lt
 have FS1 : Fr (fun j => j = w.heap.size) w4 (w4.setCell ⟨w.heap.size, 0, none⟩ (.int .i64 0)) := (Fr.refl (fun j => j = w.heap.size) w4).setCell ⟨w.heap.size, 0, none⟩ (fun _ => rfl) _
 have he5 := he4.fr FS1 (fun e => by omega)
 have hp5 := HPW.out.2 _ _ w.heap.size _ _ hp4 hr4 (.inr (.inl rfl)) FS1
 have FS2 : Fr (fun j => j = w.heap.size + 1) (w4.setCell ⟨w.heap.size, 0, none⟩ (.int .i64 0)) ((w4.setCell ⟨w.heap.size, 0, none⟩ (.int .i64 0)).setCell ⟨w.heap.size + 1, 0, none⟩ (.int .i64 0)) := (Fr.refl (fun j => j = w.heap.size + 1) _).setCell ⟨w.heap.size + 1, 0, none⟩ (fun _ => rfl) _
 have HP6 := Lib.hid (HPW.out.2 _ _ (w.heap.size + 1) _ _ hp5 he5 (.inr (.inr rfl)) FS2)
 have hr6 := (hr4.set_ 0 (.int .i64 0)).fr FS2 (fun e => by omega)
 have he6 := he5.set_ 0 (.int .i64 0)
 have HF6 := Lib.hid (((HF3.out.trans hf4 (fun _ _ h => h.elim)).trans (T := fun j => j = b ∨ j = qb ∨ w.heap.size ≤ j) (FS1.mono (fun j _ e => .inr (.inr (by omega)))) (fun j hj h => by rcases h with h | h | h; exact .inl h; exact .inr h; exact absurd hj (by omega))).trans (T := fun j => j = b ∨ j = qb ∨ w.heap.size ≤ j) (FS2.mono (fun j _ e => .inr (.inr (by omega)))) (fun j hj h => by rcases h with h | h | h; exact .inl h; exact .inr h; exact absurd hj (by omega)))
 have r6 : ((w4.setCell ⟨w.heap.size, 0, none⟩ (.int .i64 0)).setCell ⟨w.heap.size + 1, 0, none⟩ (.int .i64 0)).cell? ⟨w.heap.size, 0, none⟩ = some (.int .i64 0) := hr6.cell 0
 have e6 : ((w4.setCell ⟨w.heap.size, 0, none⟩ (.int .i64 0)).setCell ⟨w.heap.size + 1, 0, none⟩ (.int .i64 0)).cell? ⟨w.heap.size + 1, 0, none⟩ = some (.int .i64 0) := he6.cell 0
 clear hf4 hp4 hp5 FS1 FS2 hr4 he4 he5 hr6 he6
 go_wp2_with fail
 refine leaves_cons (f := 34) (args := #[.pointer (some ⟨w.heap.size, 0, none⟩), .pointer (some ⟨w.heap.size + 1, 0, none⟩)]) (by simp) (by simp [go_sem]) ?_
 refine (catch_idle w.heap.size (w.heap.size + 1) _).mono ?_
 rintro e u' w7 ⟨rfl, rfl, rfl⟩
 simp [Leaves, settle, results, Tryz.results18, go_sem, r6, e6, Result.andThen]
 exact ⟨HP6.out, HF6.out.mono (fun j hj h => h.elim (fun h => absurd h (by omega)) id)⟩
theorem parse_okG (PQ : World → Nat → List Value → Prop) (HP : PLaw PQ) (s : ByteArray) (n' : Nat) (w : World) (rs : List Int) (hA : Text s rs) (hs : s.size ≤ 4096) (hn : skip rs [0] n' = rs.length)
    (HQ : ∀ (b c : Nat) (A : Option Addr) (w1 : World), w.heap.size ≤ b → Fr (fun _ => False) w w1 → Sc w1 b A c rs 0 → Calls Tryz.prog 20 #[.agg #[.pointer (some ⟨b, 0, none⟩)]] w1 (QPostS PQ w1 b A c rs n')) :
    Calls Tryz.prog 7 #[.string s] w (ParsePostS PQ w) := by
 have hf : Fr (fun _ => False) w ((w.alloc (.cells zero52q.toArray 52)).alloc (.cells zero52q.toArray 52)) := ((Fr.refl _ _).alloc _).alloc _
 have hz : (w.alloc (.cells zero52q.toArray 52)).heap.size = w.heap.size + 1 := by simp
 have hz2 : ((w.alloc (.cells zero52q.toArray 52)).alloc (.cells zero52q.toArray 52)).heap.size = w.heap.size + 2 := by simp
 have hr := (Blk.new w 52 zero52q.toArray).alloc (.cells zero52q.toArray 52)
 have hq := Blk.new (w.alloc (.cells zero52q.toArray 52)) 52 zero52q.toArray
 rw [hz] at hq
 have HG := Lib.hid (guarded_okG s 19 n' (w.heap.size + 1) #[.pointer (some ⟨w.heap.size + 1, 0, none⟩)] (PWq PQ (w.heap.size + 1) w.heap.size) (kept_pwq PQ HP (w.heap.size + 1) w.heap.size)
  _ rs hA hs hn (by rw [hz2]; omega) enters39 (fun b c A w1 hb hf1 hs1 => by
   rw [hz2] at hb
   refine (parse1_ok PQ HP b c n' (w.heap.size + 1) A rs w1 (fun w2 hf2 hs2 => HQ b c A w2 (by omega) ((hf.trans' hf1).trans' hf2) hs2) (hq.fr hf1 (fun h => h)) hs1).mono ?_
   rintro e w' ⟨rfl, hs', ⟨cs, hb', hp'⟩, hf'⟩
   have hsz : w.heap.size ≤ w1.heap.size := by have := (hf.trans' hf1).size; exact this
   exact ⟨rfl, hs', ⟨cs, hb', HP.base hsz hp'⟩, hf'⟩))
 have HR := Lib.hid hr
 have HF := Lib.hid hf
 have hmf : ∀ (fn : Fn) (first cap : Array Value) (w : World), (Instr.makeFunc fn first cap).run Tryz.prog w = .ok (.func fn first cap) w := fun _ _ _ _ => rfl
 clear hf hz hz2 hr hq HQ hA hn
 unfold zero52q at HG HR HF
 go_enter Tryz.func7, Tryz.ntmps7
 go_wp2_with fail
 refine HG.out.mono ?_
 rintro e w1 ⟨rfl, ⟨cs, hb1, hp1⟩, hf1⟩
 obtain ⟨kind, t, dis, A1, n1, c1, A2, n2, c2, A3, n3, c3, A4, n4, c4, rfl⟩ := HP.shape hp1
 have hr1 := HR.out.fr hf1 (fun e => by omega)
 have hst := Blk.setAll (vs := [.string kind, .string t, .bool dis, .slice A1 n1 c1, .slice A2 n2 c2, .slice A3 n3 c3, .slice A4 n4 c4]) (old := zero52q) hr1 rfl
 have HRG := Lib.hid (blkRange (cs := [.string kind, .string t, .bool dis, .slice A1 n1 c1, .slice A2 n2 c2, .slice A3 n3 c3, .slice A4 n4 c4]) hb1)
 have HTH := Lib.hid (Blk.there (cs := zero52q) hr1 (n := 7) rfl)
 have HST := Lib.hid hst.1
 have HPP := Lib.hid (HP.frB hp1 hr1 (.inr (.inr (.inr rfl))) hst.2)
 have HFF := Lib.hid ((HF.out.trans hf1 (fun j hj e => by omega)).trans hst.2 (fun j hj e => by omega))
 have HONE := Lib.hid (show (#[.string kind, .string t, .bool dis, .slice A1 n1 c1, .slice A2 n2 c2, .slice A3 n3 c3, .slice A4 n4 c4] : Array Value).all (·.oneCell') = true from all_oneCell_toArray (by
  intro v hv
  simp only [List.mem_cons, List.not_mem_nil, or_false] at hv
  rcases hv with rfl | rfl | rfl | rfl | rfl | rfl | rfl <;> rfl))
 have hl1 := hr1.lt
 clear hst hr1 hp1 hf1 hb1
 go_wp2_with (first | refine wpList_load_mid rfl 52 _ rfl (w.heap.size + 1) 0 rfl _ _ HRG.out Tryz.underlying52 rfl inf52q ?_ | refine wpList_store_mid rfl 52 _ _ rfl _ _ _ rfl rfl HTH.out inf52q HONE.out ?_)
 exact bodyPost_ret (v := .tuple #[.agg #[.string kind, .string t, .bool dis, .slice A1 n1 c1, .slice A2 n2 c2, .slice A3 n3 c3, .slice A4 n4 c4], .int .i64 0, .int .i64 0]) (results_c3 rfl _ _ w.heap.size 52 _ (0, 0) _ rfl HST.out Tryz.underlying52 rfl (by kernel_rfl) _ _ rfl rfl) rfl ⟨_, rfl, HPP.out, HFF.out⟩

theorem word_head {rs : List Int} (H : HeadIs rs) (p : Nat) (T : ByteArray) (hp : p < 47) (hs : skip hdL [0] p + T.size < 47) : wordAt rs p T = wordAt hdL p T ∧ wordTo rs p T = wordTo hdL p T := by
 have h1 := skip_agree (hd := hdL) (N := 47) rfl H.n H.pk 47 p (by omega) hp (by omega)
 have h2 := isAt_agree (ts := txt T) (p := skip hdL [0] p) (N := 47) H.pk (by rw [txt_len]; omega)
 have h3 : wordAt rs p T = wordAt hdL p T := by
  unfold wordAt
  rw [h1, h2, H.pk _ hs]
 refine ⟨h3, ?_⟩
 unfold wordTo
 rw [h3, h1]
theorem mark_head {rs : List Int} (H : HeadIs rs) (p : Nat) (T : ByteArray) (hp : p < 47) (hs : skip hdL [0] p + T.size ≤ 47) (hT : 0 < T.size) : markAt rs p T = markAt hdL p T ∧ markTo rs p T = markTo hdL p T := by
 have h1 := skip_agree (hd := hdL) (N := 47) rfl H.n H.pk 47 p (by omega) hp (by omega)
 have h2 := isAt_agree (ts := txt T) (p := skip hdL [0] p) (N := 47) H.pk (by rw [txt_len]; omega)
 have h3 : markAt rs p T = markAt hdL p T := by
  unfold markAt
  rw [h1, h2]
 refine ⟨h3, ?_⟩
 unfold markTo
 rw [h3, h1]
theorem skip_head {rs : List Int} (H : HeadIs rs) (p : Nat) (hp : p < 47) (hs : skip hdL [0] p < 47) : skip rs [0] p = skip hdL [0] p :=
 skip_agree (hd := hdL) (N := 47) rfl H.n H.pk 47 p (by omega) hp hs
theorem peek_head {rs : List Int} (H : HeadIs rs) (p : Nat) (x : Int) (hp : p < 47) (h : peekOf hdL p = x) : peekOf rs p = x := (H.pk p hp).trans h
theorem name_one {rs : List Int} {s : Nat} {x : UInt8} (h1 : peekOf rs s = 63) (h2 : peekOf rs (s + 1) = (x.toNat : Int)) (h3 : peekOf rs (s + 2) = 32) (hx : clsOf (x.toNat : Int) = 1) (hx2 : x.toNat < 128) (hx3 : letterOf (x.toNat : Int) = true) : Name rs s [x] := by
 refine ⟨h1, by rw [h2]; exact hx, fun i hi => ?_, ?_⟩
 · have : i = 0 := by simp at hi; exact hi
   subst this
   exact ⟨h2, hx2, hx3⟩
 · show letterOf (peekOf rs (s + 1 + 1)) = false
   rw [show s + 1 + 1 = s + 2 from rfl, h3]
   decide
def lUO : List UInt8 := [117, 58, 111]
theorem uo_good : (Tm.iri ⟨lUO.toArray⟩).good = true := by decide +kernel
theorem our_qtext {rs : List Int} (H : HeadIs rs) : QText rs lUO false (selV [120]) 8 16 17 25 32 33 35 36 41 := by
 have hk : ∀ p x, p < 47 → peekOf hdL p = x → peekOf rs p = x := fun p x h1 h2 => peek_head H p x h1 h2
 refine ⟨?_, ?_, ?_, ?_, ?_, ?_, ?_, ?_, ?_, ?_⟩
 · have := word_head H 0 tREG (by decide) (by decide +kernel)
   rw [this.1, this.2]
   decide +kernel
 · have h1 := word_head H 8 tRS (by decide) (by decide +kernel)
   have h2 := word_head H 9 tRS (by decide) (by decide +kernel)
   have h3 := skip_head H 8 (by decide) (by decide +kernel)
   have h4 := skip_head H 9 (by decide) (by decide +kernel)
   rw [show skip hdL [0] 8 = 9 by decide +kernel] at h3
   rw [show skip hdL [0] 9 = 9 by decide +kernel] at h4
   rw [h3, h4, h1.1, h1.2, h2.1, h2.2]
   decide +kernel
 · have h3 := skip_head H 16 (by decide) (by decide +kernel)
   have h4 := skip_head H 17 (by decide) (by decide +kernel)
   refine ⟨h3.trans (by decide +kernel), h4.trans (by decide +kernel), ⟨hk 17 60 (by decide) (by decide +kernel), fun i hi => ?_, hk 21 62 (by decide) (by decide +kernel)⟩, by decide, by decide, uo_good⟩
   have hi3 : i = 0 ∨ i = 1 ∨ i = 2 := by have : i < 3 := hi; omega
   rcases hi3 with rfl | rfl | rfl
   · exact ⟨hk 18 117 (by decide) (by decide +kernel), by decide, by decide, by decide, by decide⟩
   · exact ⟨hk 19 58 (by decide) (by decide +kernel), by decide, by decide, by decide, by decide⟩
   · exact ⟨hk 20 111 (by decide) (by decide +kernel), by decide, by decide, by decide, by decide⟩
 · have := word_head H 22 tAS (by decide) (by decide +kernel)
   show wordAt rs 22 tAS = true ∧ wordTo rs 22 tAS = 25
   rw [this.1, this.2]
   decide +kernel
 · have := word_head H 25 tSEL (by decide) (by decide +kernel)
   rw [this.1, this.2]
   decide +kernel
 · have := word_head H 32 tDIS (by decide) (by decide +kernel)
   rw [this.1, this.2]
   decide +kernel
 · intro b c A w h
   have h4 := (skip_head H 33 (by decide) (by decide +kernel)).trans (by decide +kernel : skip hdL [0] 33 = 33)
   exact selected_sc [120] b c 33 33 A rs w (by decide) h4 h4 (name_one (hk 33 63 (by decide) (by decide +kernel)) (hk 34 120 (by decide) (by decide +kernel)) (hk 35 32 (by decide) (by decide +kernel)) (by decide) (by decide) (by decide)) h
 · have h3 := (skip_head H 35 (by decide) (by decide +kernel)).trans (by decide +kernel : skip hdL [0] 35 = 36)
   have h4 := (skip_head H 36 (by decide) (by decide +kernel)).trans (by decide +kernel : skip hdL [0] 36 = 36)
   have h5 := hk 36 87 (by decide) (by decide +kernel)
   refine ⟨h3, h4, ?_, ?_⟩
   · rw [h5]; decide
   · rw [h5]; decide
 · have := word_head H 36 tFROM (by decide) (by decide +kernel)
   rw [this.1]
   decide +kernel
 · have := word_head H 36 tWH (by decide) (by decide +kernel)
   rw [this.1, this.2]
   decide +kernel
/-- What a path begins with. -/
def FirstOk (rs : List Int) (One : Nat → PT → Nat → Nat → Prop) : Prop := ∀ p t e d, One p t e d → ¬ peekOf rs (skip rs [0] p) = 63
theorem AtomP.first {rs : List Int} {P : Nat → PT → Nat → Nat → Prop} : FirstOk rs (AtomP rs P) := fun p t e d h => by
 cases h with
 | paren _ _ _ h1 _ _ => rw [mark_one h1]; decide
 | back _ i h1 h2 h3 => rw [mark_one h2]; decide
 | step _ i h1 h2 h3 => rw [h3.parts.1]; decide
theorem StepP.first {rs : List Int} {P : Nat → PT → Nat → Nat → Prop} : FirstOk rs (StepP rs P) := fun p t e d h => by
 cases h with
 | plain _ _ _ h1 _ => exact AtomP.first _ _ _ _ h1
 | often _ _ _ h1 _ => exact AtomP.first _ _ _ _ h1
theorem SepP.first {rs : List Int} {x : UInt8} {k : Int} {One : Nat → PT → Nat → Nat → Prop} (hO : FirstOk rs One) : FirstOk rs (SepP rs x k One) := fun p t e d h => by
 have key : ∀ ts d', RunP rs x One p ts e d' → ¬ peekOf rs (skip rs [0] p) = 63 := fun ts d' hr => by
  obtain ⟨t0, _, e0, d0, _, h1, _⟩ := hr.rest
  exact hO _ _ _ _ h1
 cases h with
 | one _ _ _ h _ => exact key _ _ h
 | many ts _ d0 h _ _ => exact key _ _ h
theorem PathP.first {rs : List Int} : ∀ n, FirstOk rs (PathP rs n)
 | 0 => fun p t e d h => h.elim
 | n + 1 => SepP.first (SepP.first StepP.first)
/-- The tree of our text, as the program has it. -/
def PQo (t : PT) (w : World) (B : Nat) (cs : List Value) : Prop := ∃ (g : Nat) (v : Value), cs = [.string tRS, .string ⟨lUO.toArray⟩, .bool false, .slice (some ⟨g, 0, none⟩) 1 1, .slice none 0 0, v, .slice none 0 0] ∧ GPath t ⟨#[120]⟩ ⟨#[121]⟩ .nilIface w B v
theorem plaw_o (t : PT) : PLaw (PQo t) := by
 have hG := glawp t ⟨#[120]⟩ ⟨#[121]⟩ .nilIface
 refine ⟨fun h => ?_, fun hB h => ?_, fun h hf => ?_, fun h hx ht hf => ?_⟩
 · obtain ⟨g, v, rfl, hg⟩ := h
   obtain ⟨A, n, c, rfl⟩ := hG.slice hg
   exact ⟨_, _, _, _, _, _, _, _, _, _, _, _, _, _, _, rfl⟩
 · obtain ⟨g, v, rfl, hg⟩ := h
   exact ⟨g, v, rfl, hG.base hB hg⟩
 · obtain ⟨g, v, rfl, hg⟩ := h
   exact ⟨g, v, rfl, hG.frF hg hf⟩
 · obtain ⟨g, v, rfl, hg⟩ := h
   exact ⟨g, v, rfl, hG.frB hg hx (by rcases ht with h | h | h | h <;> rw [h] <;> decide) (by rcases ht with h | h | h | h <;> rw [h] <;> decide) (by rcases ht with h | h | h | h <;> rw [h] <;> decide) hf⟩
theorem our_parse (s : ByteArray) (rs : List Int) (hT : Text s rs) (H : HeadIs rs) (T : TailIs rs) (hl : rs.length ≤ 4000) (hw : wt rs ≤ 4000) (hs : s.size ≤ 4096) (n : Nat) (t : PT) (e d : Nat) (hP : PathP rs n 46 t e d) (hd : d ≤ 40) (he : skip rs [0] e = rs.length - 6) (w : World) (hg : Sg w) :
    Calls Tryz.prog 7 #[.string s] w (ParsePostS (PQo t) w) := by
 have hn8 := T.n
 have h47 := H.n
 have hv := hT.signs
 have sk : ∀ p x, clsOf x ≠ 0 → peekOf rs p = x → skip rs [0] p = p := fun p x h1 h2 => skip_sign (by rw [h2]; exact h1)
 have e5 : peekOf rs (rs.length - 6 + 1) = 121 := by rw [show rs.length - 6 + 1 = rs.length - 5 by omega]; exact T.s5
 have e4 : peekOf rs (rs.length - 6 + 2) = 32 := by rw [show rs.length - 6 + 2 = rs.length - 4 by omega]; exact T.s4
 have hk : ∀ p x, p < 47 → peekOf hdL p = x → peekOf rs p = x := fun p x h1 h2 => peek_head H p x h1 h2
 have k4 : skip rs [0] (rs.length - 4) = rs.length - 3 := by
  rw [skip_step (by omega) (by have h := T.s4; unfold peekOf at h; rw [if_pos (by omega)] at h; rw [h]; decide), show rs.length - 4 + 1 = rs.length - 3 by omega]
  exact sk _ 46 (by decide) T.s3
 have k2 : skip rs [0] (rs.length - 2) = rs.length - 1 := by
  rw [skip_step (by omega) (by have h := T.s2; unfold peekOf at h; rw [if_pos (by omega)] at h; rw [h]; decide), show rs.length - 2 + 1 = rs.length - 1 by omega]
  exact sk _ 125 (by decide) T.s1
 have m4 : markAt rs (rs.length - 4) ⟨#[46]⟩ = true ∧ markTo rs (rs.length - 4) ⟨#[46]⟩ = rs.length - 2 := by
  have h1 : markAt rs (rs.length - 4) ⟨#[46]⟩ = true := by
   unfold markAt
   rw [k4, isAt_one, T.s3]
   decide
  exact ⟨h1, by rw [markTo_yes h1, k4, show (⟨#[46]⟩ : ByteArray).size = 1 from rfl]; omega⟩
 have m2 : markAt rs (rs.length - 2) ⟨#[125]⟩ = true ∧ markTo rs (rs.length - 2) ⟨#[125]⟩ = rs.length := by
  have h1 : markAt rs (rs.length - 2) ⟨#[125]⟩ = true := by
   unfold markAt
   rw [k2, isAt_one, T.s1]
   decide
  exact ⟨h1, by rw [markTo_yes h1, k2, show (⟨#[125]⟩ : ByteArray).size = 1 from rfl]; omega⟩
 have ke : skip rs [0] rs.length = rs.length := skip_stop (fun h => by omega)
 have hgr : wordAt rs rs.length tGR = false := by
  unfold wordAt
  rw [ke, isAt_false (i := 0) (by rw [txt_len]; decide) (by rw [Nat.add_zero, show peekOf rs rs.length = -1 by unfold peekOf; rw [if_neg (by omega)]]; decide)]
  rfl
 have k44 : skip rs [0] 44 = 44 := sk 44 63 (by decide) (head_63 H)
 have nx : Name rs 44 [120] := name_one (head_63 H) (hk 45 120 (by decide) (by decide +kernel)) (hk 46 32 (by decide) (by decide +kernel)) (by decide) (by decide) (by decide)
 have ny : Name rs (rs.length - 6) [121] := name_one T.s6 e5 e4 (by decide) (by decide) (by decide)
 have k6 : skip rs [0] (rs.length - 6) = rs.length - 6 := sk _ 63 (by decide) T.s6
 have hfst := PathP.first n _ _ _ _ hP
 have hm43 : markAt rs 43 ⟨#[125]⟩ = false ∧ markTo rs 43 ⟨#[125]⟩ = 44 := by
  have := mark_head H 43 ⟨#[125]⟩ (by decide) (by decide +kernel) (by decide)
  rw [this.1, this.2]
  decide +kernel
 have k41 : skip rs [0] 41 = 42 := (skip_head H 41 (by decide) (by decide +kernel)).trans (by decide +kernel)
 refine parse_okG (PQo t) (plaw_o t) s rs.length w rs hT hs ke (fun b c A w1 hb hf1 hs1 => ?_)
 have hg1 := hg.frF hf1
 have htri : ∀ w2, Sg w2 → Sc w2 b A c rs 44 → Calls Tryz.prog 105 #[.agg #[.pointer (some ⟨b, 0, none⟩)]] w2 (TriP rs t ⟨#[120]⟩ ⟨#[121]⟩ .nilIface (rs.length - 2) w2 b A c) := fun w2 hg2 hs2 =>
  ptriple t ⟨#[120]⟩ ⟨#[121]⟩ .nilIface rfl (peekOf rs (skip rs [0] 46)) rs 44 46 e (rs.length - 2) b c A w2 (fun w3 h3 => node_var [120] b c 44 44 A rs w3 (by decide) k44 k44 nx h3) rfl hfst
   (fun w3 hg3 hs3 => path_ok n rs hl hw hv 46 t e d hP hd (skip rs [0] 46) b c A w3 Sm.skip hg3 hs3)
   (fun q w3 hq hs3 => ⟨rs.length - 4, m4.1, m4.2, by
    have h := node_var [121] b c q (rs.length - 6) A rs w3 (by decide) (by rw [← he]; exact hq.symm) k6 ny hs3
    rw [show rs.length - 6 + 1 + ([121] : List UInt8).length = rs.length - 4 by simp; omega] at h
    exact h⟩) hg2 hs2
 have hgrp : ∀ w2, Fr (fun j => j = b) w1 w2 → Sc w2 b A c rs 41 → Calls Tryz.prog 46 #[.agg #[.pointer (some ⟨b, 0, none⟩)], .int .i64 40] w2 (GrpAny (GPath t ⟨#[120]⟩ ⟨#[121]⟩ .nilIface) w2 b A c rs rs.length false 0) := fun w2 hf2 hs2 => by
  refine Calls.mono ?_ (fun e' w' (h : GrpPostG (GPath t ⟨#[120]⟩ ⟨#[121]⟩ .nilIface) w2 b A c rs rs.length e' w') => show (if false = true then _ else _) by rw [if_neg Bool.false_ne_true]; exact h)
  refine pgroup t ⟨#[120]⟩ ⟨#[121]⟩ .nilIface rfl 40 (by decide) (by decide) b c 41 42 44 (rs.length - 2) rs.length A rs w2 k41 (hk 42 123 (by decide) (by decide +kernel)) hm43 (fun w3 hg3 hs3 => ?_) m2 (hg1.frB hs1.blk (by decide) hf2) hs2
  exact pitem t ⟨#[120]⟩ ⟨#[121]⟩ .nilIface rfl (40 - 1) rs 44 (rs.length - 2) b c A w3 (by rw [k44]; exact head_63 H) (fun w4 hg4 hs4 => by rw [k44] at hs4; exact htri w4 hg4 hs4) hg3 hs3
 refine (query_scP (GPath t ⟨#[120]⟩ ⟨#[121]⟩ .nilIface) (glawp t _ _ _) rs lUO false ⟨#[120]⟩ ⟨#[]⟩ ⟨#[]⟩ 8 16 17 25 32 33 35 36 41 rs.length false 0 (our_qtext H) hgr b c A w1 hgrp hs1).mono (fun e' w' h => ?_)
 unfold QueryPost at h
 rw [if_neg Bool.false_ne_true] at h
 obtain ⟨g, v, rfl, _, hgp, hsc, hf⟩ := h
 rw [ke] at hsc
 exact ⟨_, rfl, ⟨g, v, rfl, hgp⟩, hsc, hf⟩





/-- What the program says its number is, of an IRI's size. -/
abbrev sz (i : ByteArray) : Int := (i.size : Int)

theorem row_cap {w : World} {B e m n c : Nat} {A : Option Addr} {L : List Value} (h : w.ownsRow B e m (.slice A n c) n L) : (n : Int) ≤ (c : Int) := by
 rcases h.2 with ⟨h0, h1⟩ | ⟨gg, cap, cur, h0, _, _, hc, _⟩
 · omega
 · injection h0 with _ _ h0
   omega
theorem row_addr {w : World} {B e m n c : Nat} {A : Option Addr} {L : List Value} (h : w.ownsRow B e m (.slice A n c) n L) (hn : 0 < n) : ∃ g, A = some ⟨g, 0, none⟩ := by
 rcases h.2 with ⟨h0, h1⟩ | ⟨gg, cap, cur, h0, _⟩
 · omega
 · injection h0 with h0 _ _
   exact ⟨gg, h0⟩
/-- A path's parts as the document has them. -/
def TParts39 (w : World) (B : Nat) (A : Option Addr) (c : Nat) (ts : List PT) (L : List (List Value)) : Prop :=
 L.length = ts.length ∧ (∀ (i : Nat) t l, ts[i]? = some t → L[i]? = some l → PAt 39 w B t l) ∧ w.ownsRow B 39 3 (.slice A ts.length c) ts.length L.flatten
theorem TParts39.frF {w w' : World} {B c : Nat} {A : Option Addr} {ts : List PT} {L : List (List Value)} (h : TParts39 w B A c ts L) (hf : Fr (fun _ => False) w w') : TParts39 w' B A c ts L :=
 ⟨h.1, fun i t l h1 h2 => (h.2.1 i t l h1 h2).frF hf, ownsRow_fr h.2.2 hf (fun _ _ h => h)⟩
theorem TParts39.three {w : World} {B c : Nat} {A : Option Addr} {ts : List PT} {L : List (List Value)} (h : TParts39 w B A c ts L) : ∀ l ∈ L, l.length = 3 := fun l hl => by
 obtain ⟨i, hi⟩ := List.getElem?_of_mem hl
 have hlt := (List.getElem?_eq_some_iff.1 hi).1
 have ht := List.getElem?_eq_getElem (l := ts) (i := i) (by rw [← h.1]; exact hlt)
 obtain ⟨k, t, A', n, c', rfl⟩ := (h.2.1 i _ l ht hi).cells
 rfl

end Go.Proofs.YtagchljgmjmlcaaGreatDoor
