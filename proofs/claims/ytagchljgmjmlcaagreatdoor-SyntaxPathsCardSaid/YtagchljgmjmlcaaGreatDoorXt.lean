/- Texts of the proof, one behind the other: Rz, Qa, Qb, Qc, Qd, Qe. -/
import Derived.Test.YtagchljgmjmlcaaGreatDoorXs
import Derived.Test.YtagchljgmjmlcaaGreatDoorXg
import Derived.Deep.CutBlock
import Derived.Deep.RegionLawGrows
import Derived.Deep.Cut
import Derived.Deep.CutRange
import Derived.WalkKit
import Derived.WalkLawsBesides
import Derived.WalkSpells
import Derived.Deep.QuietTactic
import Derived.BigRegion
import Derived.BigQuiet
import Derived.Lib.Hide
import Derived.Outline
import Derived.Deep.AppendLies
import Derived.Deep.RegionLaw
import Derived.Deep.RegionWith
import Derived.Deep.RegionHeld3
import Derived.Deep.LoopGhost
import Derived.Deep.DeepFit
import Derived.Laws.ResultCell
import Derived.Laws.RangeAny
import Derived.Deep.MidRow
import Derived.StillTailTactics
import Derived.OpenShut
namespace Go.Proofs.YtagchljgmjmlcaaGreatDoor
set_option linter.unusedVariables false
open Go.RowKit Go
set_option maxRecDepth 100000
set_option maxHeartbeats 40000000

/-- A path of ours stands in our text. -/
def PathGood (rs : List Int) : Prop := ∃ (t : PT) (e d : Nat), PathP rs (rs.length + 1) 46 t e d ∧ d ≤ 40 ∧ skip rs [0] e = rs.length - 6 ∧ e ≤ rs.length
/-- What the reference says of our text: its path. -/
def PathIs (rs : List Int) (w' : World) (B : Nat) (cs : Array Value) : Prop :=
 ∃ pv : ByteArray, cs[7]? = some (.string pv) ∧ (pv = ⟨#[]⟩ → ∃ (t : PT) (e d : Nat), PathP rs (rs.length + 1) 46 t e d ∧ d ≤ 40 ∧ skip rs [0] e = rs.length - 6 ∧ e ≤ rs.length ∧ PAt 39 w' B t (sub cs 19 3)) ∧ (PathGood rs → pv = ⟨#[]⟩)
theorem hm43 {rs : List Int} (H : HeadIs rs) : mkI rs 43 ⟨#[63]⟩ = 45 := (mk_head H 43 _ (by decide) (by decide +kernel) (by decide)).trans (by decide +kernel)
theorem mark_at {rs : List Int} {p q : Nat} {x : UInt8} (hs : skip rs [0] p = q) (h : peekOf rs q = (x.toNat : Int)) : markAt rs p ⟨#[x]⟩ = true ∧ markTo rs p ⟨#[x]⟩ = q + 1 := by
 have h1 : markAt rs p ⟨#[x]⟩ = true := by
  unfold markAt
  rw [isAt_one, hs]
  exact decide_eq_true h
 exact ⟨h1, by rw [markTo_yes h1, hs]; rfl⟩
theorem skip_one {rs : List Int} {p q : Nat} {x : Int} (h : peekOf rs p = 32) (hq : q = p + 1) (h2 : peekOf rs q = x) (hx : clsOf x ≠ 0) : skip rs [0] p = q := by
 have hp : p < rs.length := peek_lt (by omega)
 have g1 : rs.getD p 0 = 32 := by rw [← h]; unfold peekOf; rw [if_pos hp]
 rw [skip_step hp (by rw [g1]; decide), ← hq]
 refine skip_stop fun hc => hx ?_
 have h3 := hc.2
 have g2 : peekOf rs q = rs.getD q 0 := by unfold peekOf; rw [if_pos hc.1]
 rw [← g2, h2] at h3
 simpa using h3
theorem qyes {rs : List Int} (H : HeadIs rs) (T : TailIs rs) (h : PathGood rs) : QYes rs ∧ ∀ w B cs (q : Nat), TripQ rs 43 w B cs (q : Int) → cs[7]? = some (.string ⟨#[]⟩) := by
 obtain ⟨t, e, d, hp, hd, hs, he⟩ := h
 have h4 := T.n
 have hn := H.n
 have v1 : VarP rs 43 45 46 := var_one (hm43 H) ((H.pk 45 (by decide)).trans (show peekOf hdL 45 = 120 by decide +kernel)) (by decide) ((H.pk 46 (by decide)).trans (by decide +kernel)) (by omega)
 have m63 := hp.no63
 have m1 := mark_at (x := 63) hs T.s6
 have v2 : VarP rs e (rs.length - 5) (rs.length - 4) := by
  have h := var_one (rs := rs) (p := e) (f := rs.length - 5) (x := 121) (by unfold mkI; rw [if_pos m1.1, m1.2]; omega) T.s5 (by decide) (by rw [show rs.length - 5 + 1 = rs.length - 4 by omega]; exact T.s4) (by omega)
  rw [show rs.length - 5 + 1 = rs.length - 4 by omega] at h
  exact h
 have m2 := mark_at (x := 46) (skip_one T.s4 (show rs.length - 3 = rs.length - 4 + 1 by omega) T.s3 (by decide)) T.s3
 have m3 := mark_at (x := 125) (skip_one T.s2 (show rs.length - 1 = rs.length - 2 + 1 by omega) T.s1 (by decide)) T.s1
 have key : ∀ w B cs (q : Nat), TripQ rs 43 w B cs (q : Int) → q = rs.length - 2 ∧ cs[7]? = some (.string ⟨#[]⟩) := fun w B cs q hq => by
  obtain ⟨pv, c7, k1, k2⟩ := hq.1 q rfl
  by_cases h0 : pv = ⟨#[]⟩
  · obtain ⟨s0, t', e', d', o, n1, hp', hd', _, n2, m46, rfl⟩ := k1 h0
    obtain ⟨f, v⟩ := n1.2.2.2 v1.mark
    obtain rfl := (v.fn v1).2
    obtain ⟨rfl, rfl, rfl⟩ := hp'.fn hp
    obtain ⟨f2, v'⟩ := n2.2.2.2 v2.mark
    obtain rfl := (v'.fn v2).2
    exact ⟨by rw [m2.2]; omega, by rw [c7, h0]⟩
  · obtain ⟨s0, n1, m⟩ := k2 h0
    obtain ⟨f, v⟩ := n1.2.2.2 v1.mark
    obtain rfl := (v.fn v1).2
    rw [m63] at m
    cases m
 exact ⟨⟨⟨45, 46, t, e, d, rs.length - 5, rs.length - 4, v1, m63, hp, hd, v2, m2.1⟩, rs.length - 2, fun w B cs q h => (key w B cs q h).1, m3.1, by rw [m3.2]; omega⟩, fun w B cs q h => (key w B cs q h).2⟩
theorem skip_all {rs : List Int} (T : TailIs rs) {q : Nat} (h : skip rs [0] q = rs.length) (hq : q ≤ rs.length) : q = rs.length := by
 have h4 := T.n
 by_cases e : q ≤ rs.length - 1
 · have := skip_no T.s1 (by decide) e
   omega
 · omega
theorem path_is {rs : List Int} (H : HeadIs rs) (T : TailIs rs) {w' : World} {B : Nat} {cs : Array Value} {i q : Nat} (h : TripQ rs 43 w' B cs (i : Int)) (hi : i ≤ rs.length) (hm : markAt rs i ⟨#[125]⟩ = true) (hq : q = markTo rs i ⟨#[125]⟩) (hs : skip rs [0] q = rs.length) : PathIs rs w' B cs := by
 have h4 := T.n
 have hm1 := mark_in hm hi
 have hqe := skip_all T hs (by omega)
 have hsi : skip rs [0] i = rs.length - 1 := by omega
 obtain ⟨pv, h1, h2, -⟩ := h.1 i rfl
 refine ⟨pv, h1, fun h0 => ?_, fun hg => by
  have h5 := (qyes H T hg).2 _ _ _ i h
  rw [h1] at h5
  injection h5 with h5
  injection h5⟩
 obtain ⟨s0, t, e, d, o, n1, hp, hd, hpa, n2, hmo, hio⟩ := h2 h0
 have ho := mark_in hmo n2.2.1
 have hpo := mark_one hmo
 have hio2 : i = rs.length - 2 := by
  by_cases e1 : i ≤ rs.length - 3
  · have := skip_no T.s3 (by decide) e1
    omega
  · by_cases e2 : i = rs.length - 2
    · exact e2
    · have h46 : peekOf rs (i - 1) = 46 := by rw [show i - 1 = skip rs [0] o by omega]; exact hpo
      have e3 : i = rs.length - 1 ∨ i = rs.length := by omega
      rcases e3 with e3 | e3
      · rw [e3, show rs.length - 1 - 1 = rs.length - 2 by omega, T.s2] at h46
        cases h46
      · rw [e3, T.s1] at h46
        cases h46
 have hso : skip rs [0] o = rs.length - 3 := by omega
 obtain ⟨f, hv⟩ : ∃ f, VarP rs e f o := by
  rcases n2.2.2.1 with hv | hE
  · exact hv
  · have := end_at T hso n2.2.1
    exact absurd (hE (by omega)) (fun h => (end_no T hso n2.2.1 h).elim)
 have hva := var_at T hv hso
 have hpd := (hv.pos).1
 obtain ⟨f2, hv2⟩ := n1.2.2.2 (by
  have h := hm43 H
  unfold mkI at h
  split at h
  · assumption
  · cases h)
 have hs0 := head_varp hv2 (f' := 45) (hm43 H) ((H.pk 45 (by decide)).trans (by decide +kernel)) ((H.pk 46 (by decide)).trans (by decide +kernel)) (by have := H.n; omega)
 rw [show (45 + 1 : Nat) = 46 from rfl] at hs0
 subst hs0
 have he : e ≤ rs.length := by have := n2.1; have := n2.2.1; omega
 have hme := mark_in hv.mark he
 have hf := hv.from_
 exact ⟨t, e, d, hp, hd, by omega, he, hpa⟩
/-- What the reference answers of our text. -/
def PPost (rs : List Int) (ok : Bool) (w : World) (e : Ending) (w' : World) : Prop :=
 ∃ (k i : ByteArray) (A1 : Option Addr) (n1 c1 : Nat) (A : Option Addr) (n c : Nat) (A4 : Option Addr) (n4 c4 : Nat) (b : Bool), e = .returned (.tuple #[.agg #[.string k, .string i, .bool false, .slice A1 n1 c1, .slice none 0 0, .slice A n c, .slice A4 n4 c4], .bool b]) ∧ Fr (fun _ => False) w w' ∧
  ((b = true → ok = true ∧ (n = 1 → ∃ cs : Array Value, w'.ownsRow w.heap.size 45 33 (.slice A 1 c) 1 cs.toList ∧ CellsN 33 cs ∧ PathIs rs w' w.heap.size cs))) ∧ (ok = true → PathGood rs → b = true ∧ n = 1)
theorem rparse_any (s : ByteArray) (t : List UInt8) (w : World) (ho : Ours s t) (hs : s.size ≤ 8090) : Calls Tryz.prog 6 #[.string s] w (PPost (rSigns s).1 (rSigns s).2 w) := by
 have HSI := Lib.hid (fun w1 => signs_any s w1 (by omega))
 unfold SignsPost at HSI
 have hbd : decide ((8192 : Int) < (s.size : Int)) = false := decide_eq_false (by omega)
 have hFA := Lib.hid (fun h => ho.facts h)
 have hlen := Lib.hid ho.size
 obtain ⟨rs, hrs⟩ : ∃ rs, rs = (rSigns s).1 := ⟨_, rfl⟩
 obtain ⟨ok, hok⟩ : ∃ b, b = (rSigns s).2 := ⟨_, rfl⟩
 rw [← hrs, ← hok] at HSI hFA
 rw [← hrs, ← hok]
 clear hrs hok
 go_enter Tryz.func6, Tryz.ntmps6
 go_wp2_with ((with_reducible change wpList _ _ _ (Oper.mk _ (.alloc 30) _ _ _ _ :: _) _ _); refine wpList_alloc_blk rfl 30 rfl Z30 infz30 ?_)
 refine Lib.hid ?_
 rintro w0 z0 HZ0 HB0 HF0 hs0
 have hb0 := HB0.out
 rw [HZ0.out] at hb0
 have HR0 := Lib.hid (show Blk w0 w.heap.size 30 #[.string ⟨#[]⟩, .string ⟨#[]⟩, .bool false, .slice none 0 0, .slice none 0 0, .slice none 0 0, .slice none 0 0] from hb0)
 clear HZ0 HB0 hb0 z0
 go_wp2_with fail
 refine (HSI.out w0).mono ?_
 rintro e w1 ⟨A0, c0, rfl, hrow, hle, hf1⟩
 have HR1 := Lib.hid (HR0.out.fr hf1 (fun h => h))
 have HF1 := Lib.hid (HF0.out.trans' hf1).up
 cases ok with
 | false =>
  clear HSI hFA
  go_wp2_with ((with_reducible change wpList _ _ _ (Oper.mk _ (.store 30 _ _) _ _ _ _ :: _) _ _); refine wpList_store_blkH rfl 30 _ _ rfl _ _ rfl rfl 30 _ HR1.out (by rfl) (by exact inf30) (by exact (cellsQ7 _ _ _ _ _ _ _ _ _ _ _ _ _ _ _).one) ?_)
  refine Lib.hid ?_
  rintro wb hbb hfb
  have HFF := Lib.hid ((HF1.out.andX hfb (Nat.le_refl _)).shut (Nat.le_refl _))
  go_wp2_with fail
  exact bodyPost_ret (v := .tuple #[.agg #[.string ⟨#[]⟩, .string ⟨#[]⟩, .bool false, .slice none 0 0, .slice none 0 0, .slice none 0 0, .slice none 0 0], .bool false]) (results_c2 rfl _ _ w.heap.size 30 _ (0, 0) _ rfl hbb Tryz.underlying30 rfl inf30 _ rfl) rfl ⟨_, _, _, _, _, _, _, _, _, _, _, false, rfl, HFF.out, (fun h => by cases h), fun h => by cases h⟩
 | true =>
  obtain ⟨H, T, hv, hw, _⟩ := hFA.out rfl
  have hwt : wt rs ≤ 8100 := by omega
  have hl4 : rs.length ≤ 8100 := by omega
  have hn47 := H.n
  obtain ⟨g, rfl⟩ : ∃ g, A0 = some ⟨g, 0, none⟩ := by
   rcases hrow.2 with ⟨h0, h1⟩ | ⟨g, cap, cur, h0, _⟩
   · exfalso
     have := hrow.1
     rw [h1] at this
     simp at this
     omega
   · injection h0 with h0
     exact ⟨g, h0⟩
  have hLs : Ls w1 g c0 rs := ownsRow_base hrow (Nat.zero_le _)
  have HQ := Lib.hid (rquery_any g c0 rs w1 hl4 hwt hv hLs H)
  have HBLK := Lib.hid (fun p w2 (hp : p ≤ rs.length) h => rblanks_any g c0 p rs w2 hl4 hv hp h)
  have HLS := Lib.hid hLs
  have HPI := Lib.hid (fun w' B cs i q h h1 h2 h3 h4 => path_is (w' := w') (B := B) (cs := cs) (i := i) (q := q) H T h h1 h2 h3 h4)
  have HSA := Lib.hid (fun q h h2 => skip_all T (q := q) h h2)
  have HT1 := Lib.hid T.s1
  have HQY := Lib.hid (fun hg => (qyes H T hg).1)
  have hszw := hf1.size
  clear HSI hFA hrow hf1 hLs H T hv hw hlen HR0 HF0
  go_wp2_with fail
  refine HQ.out.mono ?_
  rintro e w2 ⟨k, i, A1, n1, c1, A, n, cc, A4, n4, c4, E, rfl, hf2, hE, hye⟩
  have hf3 := hf2.alloc (.cells #[.string k, .string i, .bool false, .slice A1 n1 c1, .slice none 0 0, .slice A n cc, .slice A4 n4 c4] 30)
  have HX3 := Lib.hid (show Blk (w2.alloc (.cells #[.string k, .string i, .bool false, .slice A1 n1 c1, .slice none 0 0, .slice A n cc, .slice A4 n4 c4] 30)) w2.heap.size 30 #[.string k, .string i, .bool false, .slice A1 n1 c1, .slice none 0 0, .slice A n cc, .slice A4 n4 c4] from Blk.new w2 30 #[.string k, .string i, .bool false, .slice A1 n1 c1, .slice none 0 0, .slice A n cc, .slice A4 n4 c4])
  have HR3 := Lib.hid (HR1.out.fr hf3 (fun h => h))
  have HF3 := Lib.hid (HF1.out.andF hf3)
  have HL3 := Lib.hid (HLS.out.frF hf3)
  have hw1 := HF1.out.size
  have HE := Lib.hid hE
  have HYE := Lib.hid (fun hg => hye (HQY.out hg))
  clear hf2 hf3 HQ HR1 HF1 hye HQY
  rcases hE with rfl | ⟨q, rfl, hq, hqi⟩
  · clear HE
    go_wp2_with ((with_reducible change wpList _ _ _ (Oper.mk _ (.store 30 _ _) _ _ _ _ :: _) _ _); refine wpList_store_blkH rfl 30 _ _ rfl _ _ rfl rfl 30 _ HR3.out (by rfl) (by exact inf30) (by exact (cellsQ7 _ _ _ _ _ _ _ _ _ _ _ _ _ _ _).one) ?_)
    refine Lib.hid ?_
    rintro wb hbb hfb
    have HFF := Lib.hid ((HF3.out.andX hfb (Nat.le_refl _)).shut (Nat.le_refl _))
    go_wp2_with fail
    exact bodyPost_ret (v := .tuple #[.agg #[.string ⟨#[]⟩, .string ⟨#[]⟩, .bool false, .slice none 0 0, .slice none 0 0, .slice none 0 0, .slice none 0 0], .bool false]) (results_c2 rfl _ _ w.heap.size 30 _ (0, 0) _ rfl hbb Tryz.underlying30 rfl inf30 _ rfl) rfl ⟨_, _, _, _, _, _, _, _, _, _, _, false, rfl, HFF.out, (fun h => by cases h), fun _ hg => by have h9 := (HYE.out hg).2; omega⟩
  · have hq0 : ¬ ((q : Int) < 0) := by omega
    have HB := Lib.hid (HBLK.out q _ hq HL3.out)
    have hsk := (skip_le rs [0] (rs.length - q) q (Nat.le_refl _) hq).2
    by_cases hlt : skip rs [0] q < rs.length
    · clear hqi HE
      have HSK := Lib.hid (And.intro hlt (skip_le rs [0] (rs.length - q) q (Nat.le_refl _) hq).1)
      generalize skip rs [0] q = p2 at *
      go_wp2_with fail
      refine HB.out.mono ?_
      rintro e w5 ⟨rfl, rfl⟩
      have hlt2 : (p2 : Int) < (rs.length : Int) := by omega
      go_wp2_with ((with_reducible change wpList _ _ _ (Oper.mk _ (.store 30 _ _) _ _ _ _ :: _) _ _); refine wpList_store_blkH rfl 30 _ _ rfl _ _ rfl rfl 30 _ HR3.out (by rfl) (by exact inf30) (by exact (cellsQ7 _ _ _ _ _ _ _ _ _ _ _ _ _ _ _).one) ?_)
      refine Lib.hid ?_
      rintro wb hbb hfb
      have HFF := Lib.hid ((HF3.out.andX hfb (Nat.le_refl _)).shut (Nat.le_refl _))
      go_wp2_with fail
      exact bodyPost_ret (v := .tuple #[.agg #[.string ⟨#[]⟩, .string ⟨#[]⟩, .bool false, .slice none 0 0, .slice none 0 0, .slice none 0 0, .slice none 0 0], .bool false]) (results_c2 rfl _ _ w.heap.size 30 _ (0, 0) _ rfl hbb Tryz.underlying30 rfl inf30 _ rfl) rfl ⟨_, _, _, _, _, _, _, _, _, _, _, false, rfl, HFF.out, (fun h => by cases h), fun _ hg => by have h9 := (HYE.out hg).2; have h8 := HSK.out; omega⟩
    · have hall : skip rs [0] q = rs.length := by omega
      have HALL := Lib.hid hall
      have hqe := HSA.out q hall hq
      have HI := Lib.hid (show QInfo rs w2 w1.heap.size A n cc q from hqi.elim id (fun h => by
       have h2 := h.2
       rw [hqe, HT1.out] at h2
       exact absurd h2 (by decide)))
      rw [hall] at HB
      clear hqi HE hlt hall hsk hqe
      go_wp2_with fail
      refine HB.out.mono ?_
      rintro e w5 ⟨rfl, rfl⟩
      have hlt2 : ¬ ((rs.length : Int) < (rs.length : Int)) := by omega
      go_wp2_with (first | ((with_reducible change wpList _ _ _ (Oper.mk _ (.load 30 _) _ _ _ _ :: _) _ _); refine wpList_load_blk rfl 30 _ rfl _ rfl 30 #[.string k, .string i, .bool false, .slice A1 n1 c1, .slice none 0 0, .slice A n cc, .slice A4 n4 c4] HX3.out _ Tryz.underlying30 rfl inf30 ?_) | ((with_reducible change wpList _ _ _ (Oper.mk _ (.store 30 _ _) _ _ _ _ :: _) _ _); refine wpList_store_blkH rfl 30 _ _ rfl _ _ rfl rfl 30 _ HR3.out (by rfl) (by exact inf30) (by exact (cellsQ7 _ _ _ _ _ _ _ _ _ _ _ _ _ _ _).one) ?_))
      refine Lib.hid ?_
      rintro wb hbb hfb
      have HFF := Lib.hid ((HF3.out.andX hfb (Nat.le_refl _)).shut (Nat.le_refl _))
      go_wp2_with fail
      refine bodyPost_ret (v := .tuple #[.agg #[.string k, .string i, .bool false, .slice A1 n1 c1, .slice none 0 0, .slice A n cc, .slice A4 n4 c4], .bool true]) (results_c2 rfl _ _ w.heap.size 30 _ (0, 0) _ rfl hbb Tryz.underlying30 rfl inf30 _ rfl) rfl ⟨_, _, _, _, _, _, _, _, _, _, _, true, rfl, HFF.out, fun _ => ⟨rfl, fun hn1 => ?_⟩, fun _ hg => ⟨rfl, (HYE.out hg).1⟩⟩
      have hf4 : Fr (fun _ => False) w2 (w2.alloc (.cells #[.string k, .string i, .bool false, .slice A1 n1 c1, .slice none 0 0, .slice A n cc, .slice A4 n4 c4] 30)) := (Fr.refl _ _).alloc _
      obtain ⟨cs, j, h3, h4, h5, h6, h7, h8⟩ := HI.out hn1
      have h3' := ownsRow_fr (ownsRow_fr h3 hf4 (fun _ _ h => h)) hfb (fun kk hk e => own_blk_ne (ownsRow_fr h3 hf4 (fun _ _ h => h)) HR3.out (by decide) (by rw [hk, e]))
      have h5' := (h5.keep hf4 (fun _ _ _ h => h)).keep hfb (fun j ccs hb e => Blk.ne_ hb HR3.out (by decide) e)
      exact ⟨cs, ownsRow_base h3' hw1, h4, HPI.out wb w.heap.size cs j q (h5'.down hw1) h6 h7 h8 HALL.out⟩

theorem form_iriG (l : List Int) (b c p e : Nat) (A : Option Addr) (rs : List Int) (w : World) (h60 : peekOf rs p = 60) (hi : iriR rs p = (some l, e)) (h : Sc w b A c rs p) :
    Calls Tryz.prog 128 #[.pointer (some ⟨b, 0, none⟩)] w (ScPost w b A c rs e (.tuple #[(Tm.iri (strL l)).val, .bool true])) := by
 have HK := Lib.hid (peek_sc b c p A rs w h)
 have HIR := Lib.hid (fun w1 h1 => ntiri_any b c p A rs w1 h1)
 have HS := Lib.hid h
 rw [h60] at HK
 rw [hi] at HIR
 unfold IriPost at HIR
 unfold Tm.val
 clear h h60 hi
 go_enter Tryz.func128, Tryz.ntmps128
 go_wp2_with fail
 refine HK.out.mono ?_
 rintro e w1 ⟨rfl, hf1⟩
 have HX := Lib.hid (HIR.out w1 (HS.out.frF hf1))
 go_wp2_with fail
 refine HX.out.mono ?_
 rintro e w2 ⟨rfl, hs2, hf2⟩
 go_wp2_with fail
 go_ret2
 exact ⟨rfl, hs2, (hf1.mono (fun _ _ h => h.elim)).trans' hf2⟩
theorem read_iriG (l : List Int) (b c p q : Nat) (A : Option Addr) (rs : List Int) (w : World) (h60 : peekOf rs p = 60) (hi : iriR rs p = (some l, q)) (hsz : (strL l).size ≤ 4096) (hgd : (Tm.iri (strL l)).good = true) (h : Sc w b A c rs p) :
    Calls Tryz.prog 99 #[.pointer (some ⟨b, 0, none⟩)] w (ScPost w b A c rs q (.tuple #[(Tm.iri (strL l)).val, .int .i64 (q : Int), .int .i64 0])) := by
 have HP := Lib.hid (place_sc b c p A rs w h)
 have HF := Lib.hid (form_iriG l b c p q A rs w h60 hi h)
 have HP2 := Lib.hid (fun q w1 h1 => place_sc b c q A rs w1 h1)
 have HG := Lib.hid (fun w1 => tgood_any (Tm.iri (strL l)) w1 (show (strL l).size ≤ 4096 from hsz))
 rw [hgd] at HG
 unfold Tm.val at *
 generalize strL l = t at *
 clear h hi hgd h60
 go_enter Tryz.func99, Tryz.ntmps99
 go_wp2_with fail
 refine HP.out.mono ?_
 rintro e w1 ⟨rfl, rfl⟩
 go_wp2_with fail
 refine HF.out.mono ?_
 rintro e w2 ⟨rfl, hs2, hf2⟩
 have HPP := Lib.hid (HP2.out q w2 hs2)
 go_wp2_with fail
 refine HPP.out.mono ?_
 rintro e w3 ⟨rfl, rfl⟩
 go_wp2_with fail
 refine (HG.out _).mono ?_
 rintro e w4 ⟨rfl, hf4⟩
 go_wp2_with fail
 go_ret3
 exact ⟨rfl, hs2.frF hf4, hf2.trans hf4 (fun _ _ h => h.elim)⟩
theorem term_iriG (l : List Int) (b c p q q2 : Nat) (A : Option Addr) (rs : List Int) (w : World) (hq : skip rs [0] p = q) (h60 : peekOf rs q = 60) (hi : iriR rs q = (some l, q2)) (hsz : (strL l).size ≤ 4096) (hgd : (Tm.iri (strL l)).good = true) (h : Sc w b A c rs p) :
    Calls Tryz.prog 69 #[.agg #[.pointer (some ⟨b, 0, none⟩)]] w (ScPost w b A c rs q2 ((Tm.iri (strL l)).val)) := by
 have hf : Fr (fun _ => False) w (w.alloc (.cells #[.pointer (some ⟨b, 0, none⟩)] 89)) := (Fr.refl _ _).alloc _
 have HB := Lib.hid (blanks_sc b c p A rs _ (h.frF hf))
 rw [hq] at HB
 have HR := Lib.hid (fun w1 h1 => read_iriG l b c q q2 A rs w1 h60 hi hsz hgd h1)
 have HX := Lib.hid (Blk.new w 89 #[.pointer (some ⟨b, 0, none⟩)])
 have HF := Lib.hid hf
 have hbl := h.blk.lt
 unfold Tm.val at *
 generalize strL l = t at *
 clear h hf hgd hi hq h60
 go_enter Tryz.func69, Tryz.ntmps69
 go_wp2_with fail
 refine HB.out.mono ?_
 rintro e w1 ⟨⟨k, rfl⟩, hs1, hf1⟩
 have hx1 := box_keep HX.out hbl hf1
 have x1 : w1.cell? ⟨w.heap.size, 0, none⟩ = some (.pointer (some ⟨b, 0, none⟩)) := hx1.cell 0
 have HRR := Lib.hid (HR.out w1 hs1)
 have HF1 := Lib.hid ((HF.out.mono (T := fun j => j = b) (fun _ _ h => h.elim)).trans' hf1)
 clear hx1 hs1 hf1
 go_wp2_with fail
 refine HRR.out.mono ?_
 rintro e w2 ⟨rfl, hs2, hf2⟩
 go_wp2_with fail
 go_ret
 exact ⟨rfl, hs2, HF1.out.trans' hf2⟩
theorem as_i1G (x : Value) (w : World) : (Instr.typeAssert (.iface 164 x) 57 164 false).run Tryz.prog w = .ok x w := by kernel_rfl
theorem fd_198G (t : ByteArray) (w : World) : (Instr.field 164 (.agg #[.string t]) 0).run Tryz.prog w = .ok (.string t) w := by kernel_rfl
attribute [local go_sem] as_i1G fd_198G
theorem iri_scG (i : ByteArray) (b c p q2 : Nat) (A : Option Addr) (rs : List Int) (w : World) (hip : IriP rs p q2 i) (hw : wt rs ≤ 4000) (h : Sc w b A c rs p) :
    Calls Tryz.prog 41 #[.agg #[.pointer (some ⟨b, 0, none⟩)]] w (ScPost w b A c rs q2 (.string i)) := by
 obtain ⟨h60, l, hi, rfl⟩ := hip.parts
 have hsz : (strL l).size ≤ 4096 := by
  have := iriR_wt hi
  rw [strL_wt]
  omega
 have hgd : (Tm.iri (strL l)).good = true := good_ok _ (by show (0 : Int) ≤ 1; decide) (by show (1 : Int) ≤ 2; decide) hip.2
 obtain ⟨q, hq⟩ : ∃ q, q = skip rs [0] p := ⟨_, rfl⟩
 rw [← hq] at h60 hi
 have hq2 : skip rs [0] q = q := skip_sign (by rw [h60]; decide)
 have hf : Fr (fun _ => False) w (w.alloc (.cells #[.pointer (some ⟨b, 0, none⟩)] 89)) := (Fr.refl _ _).alloc _
 have HN := Lib.hid (nextsign_sc b c p A rs _ (h.frF hf))
 rw [← hq, h60] at HN
 have HT := Lib.hid (fun w1 h1 => term_iriG l b c q q q2 A rs w1 hq2 h60 hi hsz hgd h1)
 have HX := Lib.hid (Blk.new w 89 #[.pointer (some ⟨b, 0, none⟩)])
 have HF := Lib.hid hf
 have hbl := h.blk.lt
 unfold Tm.val at *
 generalize strL l = t at *
 clear h hf hgd hi hq hq2 hip h60 hsz
 go_enter Tryz.func41, Tryz.ntmps41
 go_wp2_with fail
 refine HN.out.mono ?_
 rintro e w1 ⟨rfl, hs1, hf1⟩
 have hx1 := box_keep HX.out hbl hf1
 have x1 : w1.cell? ⟨w.heap.size, 0, none⟩ = some (.pointer (some ⟨b, 0, none⟩)) := hx1.cell 0
 have HTT := Lib.hid (HT.out w1 hs1)
 have HF1 := Lib.hid ((HF.out.mono (T := fun j => j = b) (fun _ _ h => h.elim)).trans' hf1)
 clear hx1 hs1 hf1
 go_wp2_with fail
 refine HTT.out.mono ?_
 rintro e w2 ⟨rfl, hs2, hf2⟩
 go_wp2_with fail
 go_ret
 exact ⟨rfl, hs2, HF1.out.trans' hf2⟩
theorem skip_skip (rs : List Int) : ∀ (m p : Nat), rs.length - p ≤ m → skip rs [0] (skip rs [0] p) = skip rs [0] p
 | 0, p, hm => by
  have h := skip_stop (rs := rs) (cs := [0]) (p := p) (fun h => by omega)
  rw [h, h]
 | m + 1, p, hm => by
  by_cases hc : p < rs.length ∧ [(0 : Int)].contains (clsOf (rs.getD p 0)) = true
  · rw [skip_step hc.1 hc.2]
    exact skip_skip rs m (p + 1) (by omega)
  · rw [skip_stop hc, skip_stop hc]
/-- Two places with blanks alone between. -/
def Sm (rs : List Int) (p p' : Nat) : Prop := skip rs [0] p = skip rs [0] p'
theorem Sm.mark {rs : List Int} {p p' : Nat} (h : Sm rs p p') (T : ByteArray) : markAt rs p T = markAt rs p' T ∧ (markAt rs p T = true → markTo rs p T = markTo rs p' T) := by
 unfold Sm at h
 have e : markAt rs p T = markAt rs p' T := by unfold markAt; rw [h]
 exact ⟨e, fun h1 => by rw [markTo_yes h1, markTo_yes (e ▸ h1), h]⟩
theorem Sm.iri {rs : List Int} {p p' e : Nat} {i : ByteArray} (h : Sm rs p p') (h1 : IriP rs p e i) : IriP rs p' e i := by
 unfold Sm at h
 unfold IriP at *
 rw [← h]
 exact h1
theorem Sm.skip {rs : List Int} {p : Nat} : Sm rs p (skip rs [0] p) := (skip_skip rs _ p (Nat.le_refl _)).symm

/-- A path's parts, one behind the other. -/
structure PartsQ (w : World) (B : Nat) (v : Value) (ts : List PT) (L : List (List Value)) : Prop where
 len : L.length = ts.length
 each : ∀ (i : Nat) t l, ts[i]? = some t → L[i]? = some l → PBt 62 w (fun j => B ≤ j ∧ v.ownBlock ≠ some j) t l
 row : w.ownsRow B 62 3 v ts.length L.flatten
theorem PartsQ.frF {w w' : World} {B : Nat} {v : Value} {ts : List PT} {L : List (List Value)} (h : PartsQ w B v ts L) (hf : Fr (fun _ => False) w w') : PartsQ w' B v ts L :=
 ⟨h.len, fun i t l h1 h2 => (h.each i t l h1 h2).fr hf (fun _ _ h => h), ownsRow_fr h.row hf (fun _ _ h => h)⟩
theorem PartsQ.push {w w' : World} {B g c : Nat} {v : Value} {ts : List PT} {L : List (List Value)} {t : PT} {l : List Value} (h : PartsQ w B v ts L) (ht : PBt 62 w (fun j => B ≤ j ∧ v.ownBlock ≠ some j) t l)
    (hr : w'.ownsRow B 62 3 (.slice (some ⟨g, 0, none⟩) (ts.length + 1) c) (ts.length + 1) (L.flatten ++ l)) (hg : w.grownBy w' v.ownBlock) (hor : v.ownBlock = some g ∨ g = w.heap.size) : PartsQ w' B (.slice (some ⟨g, 0, none⟩) (ts.length + 1) c) (ts ++ [t]) (L ++ [l]) := by
 have hK : ∀ t l, PBt 62 w (fun j => B ≤ j ∧ v.ownBlock ≠ some j) t l → PBt 62 w' (fun j => B ≤ j ∧ (Value.slice (some ⟨g, 0, none⟩) (ts.length + 1) c).ownBlock ≠ some j) t l := fun t l h => by
  have h1 := h.imp (S' := fun j => B ≤ j ∧ (Value.slice (some ⟨g, 0, none⟩) (ts.length + 1) c).ownBlock ≠ some j ∧ v.ownBlock ≠ some j) (fun j hj hb => ⟨hb.1, fun e => by
   injection e with e
   have e : g = j := e
   rcases hor with h2 | h2
   · exact hb.2 (by rw [h2, e])
   · omega, hb.2⟩)
  refine PBt.imp (S := fun j => B ≤ j ∧ (Value.slice (some ⟨g, 0, none⟩) (ts.length + 1) c).ownBlock ≠ some j ∧ v.ownBlock ≠ some j) (fun j _ hb => ⟨hb.1, hb.2.1⟩) (h1.fr (Fr.of_grown hg) fun j hb => hb.2.2)
 refine ⟨by simp [h.len], fun i t' l' h1 h2 => ?_, by simpa using hr⟩
 by_cases hi : i < ts.length
 · rw [List.getElem?_append_left hi] at h1
   rw [List.getElem?_append_left (by rw [h.len]; exact hi)] at h2
   exact hK _ _ (h.each i t' l' h1 h2)
 · rw [List.getElem?_append_right (by omega)] at h1
   rw [List.getElem?_append_right (by rw [h.len]; omega), h.len] at h2
   generalize i - ts.length = m at h1 h2
   cases m with
   | zero =>
    injection h1 with h1
    injection h2 with h2
    rw [← h1, ← h2]
    exact hK _ _ ht
   | succ m => cases h1
theorem PartsQ.node {w : World} {B : Nat} {A : Option Addr} {c : Nat} {ts : List PT} {L : List (List Value)} (k : Int) (h : PartsQ w B (.slice A ts.length c) ts L) : PAt 62 w B (.node k ts) [.int .i64 k, .string ⟨#[]⟩, .slice A ts.length c] :=
 .node k ts A c L h.len (fun i t l h1 h2 => (h.each i t l h1 h2).toA (fun _ hb => hb.1)) h.row
theorem infZ62 : (Tryz.prog.info? 62).map (fun i => (i.zero, i.size, i.bytes)) = some (some (.agg #[.int .i64 0, .string ⟨#[]⟩, .slice none 0 0]), 3, 48) := by kernel_rfl
theorem inf62 : (Tryz.prog.info? 62).map (·.size) = some 3 := by kernel_rfl
theorem zer62 : ((Tryz.prog.info? 62).bind (·.zero)).isSome = true := by kernel_rfl
abbrev Z62 : Array Value := #[.int .i64 0, .string ⟨#[]⟩, .slice none 0 0]
theorem PartsQ.frB {w w' : World} {B x t : Nat} {v : Value} {ts : List PT} {L : List (List Value)} {cs : Array Value} (h : PartsQ w B v ts L) (hx : Blk w x t cs) (ht : 62 ≠ t) (hxB : x < B) (hf : Fr (fun j => j = x) w w') : PartsQ w' B v ts L :=
 ⟨h.len, fun i t l h1 h2 => (h.each i t l h1 h2).fr hf (fun j hj e => by have := hj.1; omega), ownsRow_fr h.row hf (fun k hk e => own_blk_ne h.row hx ht (by rw [hk, e]))⟩
/-- Only the scanner's block, and new ones, have turned. -/
abbrev FrN (b : Nat) (w a : World) : Prop := Fr (fun j => j = b ∨ w.heap.size ≤ j) w a
theorem FrN.of {w a : World} {b : Nat} (h : Fr (fun _ => False) w a) : FrN b w a := h.mono (fun _ _ h => h.elim)
theorem FrN.andF {w a c : World} {b : Nat} (h : FrN b w a) (h2 : Fr (fun _ => False) a c) : FrN b w c := h.trans h2 (fun _ _ h => h.elim)
theorem FrN.andB {w a c : World} {b : Nat} (h : FrN b w a) (h2 : Fr (fun j => j = b) a c) : FrN b w c := h.trans h2 (fun _ _ h => .inl h)
theorem FrN.andX {w a c : World} {b x : Nat} (h : FrN b w a) (h2 : Fr (fun j => j = x) a c) (hx : w.heap.size ≤ x) : FrN b w c := h.trans h2 (fun _ hj e => absurd hj (by omega))
theorem FrN.andG {w a c : World} {b : Nat} {row : Option Nat} (h : FrN b w a) (h2 : a.grownBy c row) (hx : ∀ k, row = some k → w.heap.size ≤ k) : FrN b w c := h.trans (Fr.of_grown h2) (fun j hj e => absurd hj (by have := hx j e; omega))
theorem FrN.done {w a : World} {b : Nat} (h : FrN b w a) : Fr (fun j => j = b) w a := h.mono (fun k hk h => h.elim id (fun h => absurd hk (by omega)))
/-- A path, as the program reads it. -/
def PP (rs : List Int) (q : Nat) (t : PT) (w : World) (b : Nat) (A : Option Addr) (c : Nat) (e : Ending) (w' : World) : Prop :=
 ∃ (k : Int) (i : ByteArray) (A' : Option Addr) (n c' : Nat), e = .returned (.agg #[.int .i64 k, .string i, .slice A' n c']) ∧ PAt 62 w' w.heap.size t [.int .i64 k, .string i, .slice A' n c'] ∧ (∃ q', Sm rs q q' ∧ Sc w' b A c rs q') ∧ Fr (fun j => j = b) w w'
theorem cells62 (k : Int) (i : ByteArray) (A : Option Addr) (n c : Nat) : CellsN 3 #[.int .i64 k, .string i, .slice A n c] := ⟨rfl, one39 _ _ _ _ _⟩
/-- What is left of a run. -/
inductive Rest (rs : List Int) (x : UInt8) (One : Nat → PT → Nat → Nat → Prop) : Nat → List PT → Nat → Prop
 | nil (e : Nat) : Rest rs x One e [] e
 | cons (e e1 e2 d : Nat) (t : PT) (ts : List PT) (h1 : markAt rs e (mk1 x) = true) (h2 : One (markTo rs e (mk1 x)) t e1 d) (h3 : Rest rs x One e1 ts e2) : Rest rs x One e (t :: ts) e2
theorem Rest.snoc {rs : List Int} {x : UInt8} {One : Nat → PT → Nat → Nat → Prop} {e e1 e2 d : Nat} {t : PT} {ts : List PT} (h : Rest rs x One e ts e1) (h1 : markAt rs e1 (mk1 x) = true) (h2 : One (markTo rs e1 (mk1 x)) t e2 d) : Rest rs x One e (ts ++ [t]) e2 := by
 induction h with
 | nil e => exact .cons e _ _ d t [] h1 h2 (.nil _)
 | cons e e1 e2 d t ts a1 a2 a3 ih => exact .cons e e1 _ _ t _ a1 a2 (ih h1 h2)
theorem RunP.rest {rs : List Int} {x : UInt8} {One : Nat → PT → Nat → Nat → Prop} {p e d : Nat} {ts : List PT} (h : RunP rs x One p ts e d) : ∃ t0 ts' e0 d0, ts = t0 :: ts' ∧ One p t0 e0 d0 ∧ Rest rs x One e0 ts' e := by
 induction h with
 | one t e d h => exact ⟨t, [], e, d, rfl, h, .nil _⟩
 | more ts t e d e1 d1 h h1 h2 ih =>
  obtain ⟨t0, ts', e0, d0, rfl, h3, h4⟩ := ih
  exact ⟨t0, ts' ++ [t], e0, d0, rfl, h3, h4.snoc h1 h2⟩

theorem PAt.frB2 {ty : TypeId} {w w' : World} {B x y : Nat} {cs : Array Value} {t : PT} {l : List Value} (h : PAt ty w B t l) (hx : Blk w x y cs) (hf : Fr (fun j => j = x) w w') (hB : x < B) : PAt ty w' B t l := h.fr hf (fun j _ hj _ e => by omega)
theorem Sm.trans {rs : List Int} {p q r : Nat} (h : Sm rs p q) (h2 : Sm rs q r) : Sm rs p r := Eq.trans h h2
def RowOk (rs : List Int) (P : Nat → PT → Nat → Nat → Prop) : Prop := ∀ (p : Nat) (t : PT) (e d : Nat), P p t e d → ∀ (p' b c : Nat) (A : Option Addr) (w : World), Sm rs p p' → Sg w → Sc w b A c rs p' → Calls Tryz.prog 163 #[.agg #[.pointer (some ⟨b, 0, none⟩)]] w (PP rs e t w b A c)
theorem patom (P : Nat → PT → Nat → Nat → Prop) (rs : List Int) (hw : wt rs ≤ 4000) (HR : RowOk rs P) (p : Nat) (t : PT) (e d : Nat) (hA : AtomP rs P p t e d) (p' b c : Nat) (A : Option Addr) (w : World) (hp : Sm rs p p') (hg : Sg w) (h : Sc w b A c rs p') :
    Calls Tryz.prog 201 #[.agg #[.pointer (some ⟨b, 0, none⟩)]] w (PP rs e t w b A c) := by
 have hx := Blk.new w 89 #[.pointer (some ⟨b, 0, none⟩)]
 have hy := Blk.new (w.alloc (.cells #[.pointer (some ⟨b, 0, none⟩)] 89)) 62 #[.int .i64 0, .string ⟨#[]⟩, .slice none 0 0]
 rw [show (w.alloc (.cells #[.pointer (some ⟨b, 0, none⟩)] 89)).heap.size = w.heap.size + 1 by simp] at hy
 have HX := Lib.hid (show Blk ((w.alloc (.cells #[.pointer (some ⟨b, 0, none⟩)] 89)).alloc (.cells #[.int .i64 0, .string ⟨#[]⟩, .slice none 0 0] 62)) w.heap.size 89 #[.pointer (some ⟨b, 0, none⟩)] from hx.alloc _)
 have HY := Lib.hid (show Blk ((w.alloc (.cells #[.pointer (some ⟨b, 0, none⟩)] 89)).alloc (.cells #[.int .i64 0, .string ⟨#[]⟩, .slice none 0 0] 62)) (w.heap.size + 1) 62 Z62 from hy)
 have hf0 : Fr (fun _ => False) w ((w.alloc (.cells #[.pointer (some ⟨b, 0, none⟩)] 89)).alloc (.cells #[.int .i64 0, .string ⟨#[]⟩, .slice none 0 0] 62)) := ((Fr.refl _ _).alloc _).alloc _
 have HF := Lib.hid (FrN.of (b := b) hf0)
 have HS := Lib.hid (h.frF hf0)
 have HG := Lib.hid (hg.frF hf0)
 have x0 : ((w.alloc (.cells #[.pointer (some ⟨b, 0, none⟩)] 89)).alloc (.cells #[.int .i64 0, .string ⟨#[]⟩, .slice none 0 0] 62)).cell? ⟨w.heap.size, 0, none⟩ = some (.pointer (some ⟨b, 0, none⟩)) := HX.out.cell 0
 have hbl := h.blk.lt
 have HM40 := Lib.hid (fun w1 h1 => mark_sc ⟨#[40]⟩ b c p' A rs w1 (ascii_of (by decide)) (by decide) h1)
 have hm40 := hp.mark ⟨#[40]⟩
 have hm94 := hp.mark ⟨#[94]⟩
 rw [← hm40.1] at HM40
 cases hA with
 | paren _ e1 _ h1 h2 h3 =>
  have h1' : markAt rs p ⟨#[40]⟩ = true := h1
  rw [h1', ← hm40.2 h1'] at HM40
  have HRR := Lib.hid (fun w1 hg1 h5 => HR _ t e1 d h2 (markTo rs p ⟨#[40]⟩) b c A w1 rfl hg1 h5)
  have HMU := Lib.hid (fun q w1 (h4 : Sm rs e1 q) h5 => must_sc ⟨#[41]⟩ b c q (markTo rs e1 ⟨#[41]⟩) A rs w1 (ascii_of (by decide)) (by decide) (by rw [← (h4.mark _).1]; exact h3) ((h4.mark _).2 h3).symm h5)
  generalize markTo rs p ⟨#[40]⟩ = p1 at *
  unfold mk1
  generalize markTo rs e1 ⟨#[41]⟩ = e2 at *
  unfold PP at HRR
  clear h hg hx hy hf0 hm40 hm94 h1 h1' h2 h3 HR hp hw
  go_enter Tryz.func201, Tryz.ntmps201
  go_wp2_with fail
  refine (HM40.out _ HS.out).mono ?_
  generalize ((w.alloc (.cells #[.pointer (some ⟨b, 0, none⟩)] 89)).alloc (.cells #[.int .i64 0, .string ⟨#[]⟩, .slice none 0 0] 62)) = w0 at *
  rintro e w1 ⟨rfl, hs1, hf1⟩
  have hx := HX.out.fr hf1 (fun e => by omega)
  have x1 : w1.cell? ⟨w.heap.size, 0, none⟩ = some (.pointer (some ⟨b, 0, none⟩)) := hx.cell 0
  have HX1 := Lib.hid hx
  have HY1 := Lib.hid (HY.out.fr hf1 (fun e => by omega))
  have HS1 := Lib.hid hs1
  have HF1 := Lib.hid (HF.out.andB hf1)
  have HG1 := Lib.hid (HG.out.frB HS.out.blk (by decide) hf1)
  clear hx hs1 hf1 x0
  go_wp2_with fail
  refine (HRR.out w1 HG1.out HS1.out).mono ?_
  rintro e w2 ⟨k, i, A2, n2, c2, rfl, hpa, ⟨q', hsm, hs2⟩, hf2⟩
  have hx := HX1.out.fr hf2 (fun e => by omega)
  have x2 : w2.cell? ⟨w.heap.size, 0, none⟩ = some (.pointer (some ⟨b, 0, none⟩)) := hx.cell 0
  have HX2 := Lib.hid hx
  have HY2 := Lib.hid (HY1.out.fr hf2 (fun e => by omega))
  have HS2 := Lib.hid hs2
  have HF2 := Lib.hid (HF1.out.andB hf2)
  have HG2 := Lib.hid (HG1.out.frB HS1.out.blk (by decide) hf2)
  have HSM := Lib.hid hsm
  have hw1 := HY1.out.lt
  have hfa : Fr (fun _ => False) w2 (w2.alloc (.cells #[.int .i64 k, .string i, .slice A2 n2 c2] 62)) := (Fr.refl _ _).alloc _
  have HN3 := Lib.hid (show Blk (w2.alloc (.cells #[.int .i64 k, .string i, .slice A2 n2 c2] 62)) w2.heap.size 62 #[.int .i64 k, .string i, .slice A2 n2 c2] from Blk.new w2 62 #[.int .i64 k, .string i, .slice A2 n2 c2])
  have HPA3 := Lib.hid (hpa.frF hfa)
  have x3 : (w2.alloc (.cells #[.int .i64 k, .string i, .slice A2 n2 c2] 62)).cell? ⟨w.heap.size, 0, none⟩ = some (.pointer (some ⟨b, 0, none⟩)) := (HX2.out.fr hfa (fun h => h)).cell 0
  have HX3 := Lib.hid (HX2.out.fr hfa (fun h => h))
  have HY3 := Lib.hid (HY2.out.fr hfa (fun h => h))
  have HS3 := Lib.hid (HS2.out.frF hfa)
  have HF3 := Lib.hid (HF2.out.andF hfa)
  have HG3 := Lib.hid (HG2.out.frF hfa)
  have hsz := HY2.out.lt
  clear hx hs2 hf2 hpa hsm hfa x1 x2
  go_wp2_with fail
  refine (HMU.out q' _ HSM.out HS3.out).mono ?_
  generalize w2.alloc (.cells #[.int .i64 k, .string i, .slice A2 n2 c2] 62) = w3 at *
  rintro e w4 ⟨rfl, hs4, hf4⟩
  have hx := HX3.out.fr hf4 (fun e => by omega)
  have x4 : w4.cell? ⟨w.heap.size, 0, none⟩ = some (.pointer (some ⟨b, 0, none⟩)) := hx.cell 0
  have HX4 := Lib.hid hx
  have HY4 := Lib.hid (HY3.out.fr hf4 (fun e => by omega))
  have HS4 := Lib.hid hs4
  have HF4 := Lib.hid (HF3.out.andB hf4)
  have HG4 := Lib.hid (HG3.out.frB HS3.out.blk (by decide) hf4)
  have HPA4 := Lib.hid (HPA3.out.fr hf4 (fun j cs hj hb e => Blk.ne_ hb HS3.out.blk (by decide) e))
  have HN4 := Lib.hid (HN3.out.fr hf4 (fun e => by omega))
  clear hx hs4 hf4 x3
  go_wp2_with (first | ((with_reducible change wpList _ _ _ (Oper.mk _ (.load 62 _) _ _ _ _ :: _) _ _); refine wpList_load_blk rfl 62 _ rfl _ rfl 62 #[.int .i64 k, .string i, .slice A2 n2 c2] HN4.out _ Tryz.underlying62 rfl inf62 ?_) | ((with_reducible change wpList _ _ _ (Oper.mk _ (.store 62 _ _) _ _ _ _ :: _) _ _); refine wpList_store_blkH rfl 62 _ _ rfl _ #[.int .i64 k, .string i, .slice A2 n2 c2] rfl rfl 62 _ HY4.out (by rfl) (by exact inf62) (by exact (cells62 _ _ _ _ _).one) ?_))
  refine Lib.hid ?_
  rintro wz hbz hfz
  have HFZ := Lib.hid (HF4.out.andX hfz (by omega)).done
  have HSZ := Lib.hid (HS4.out.fr hfz (fun e => by omega) (fun j hj e => own_blk_ne HS4.out.row HY4.out (by decide) (by rw [hj, e])))
  go_wp2_with fail
  exact bodyPost_ret (v := .agg #[.int .i64 k, .string i, .slice A2 n2 c2]) (results_cell_row rfl _ _ (w.heap.size + 1) 62 _ (0, 0) _ rfl hbz Tryz.underlying62 rfl inf62) rfl ⟨_, _, _, _, _, rfl, ((HPA4.out.frB2 HY4.out hfz (by omega)).base (by omega)), ⟨_, rfl, HSZ.out⟩, HFZ.out⟩
 | back _ i h1 h2 h3 =>
  have h1' : markAt rs p ⟨#[40]⟩ = false := h1
  have h2' : markAt rs p ⟨#[94]⟩ = true := h2
  have hs1' : Sm rs p (markTo rs p' ⟨#[40]⟩) := by
   unfold markTo
   rw [← hm40.1, h1', if_neg Bool.false_ne_true]
   exact hp.trans (Sm.skip)
  rw [h1'] at HM40
  generalize markTo rs p' ⟨#[40]⟩ = p1 at *
  have HM94 := Lib.hid (fun w1 h1 => mark_sc ⟨#[94]⟩ b c p1 A rs w1 (ascii_of (by decide)) (by decide) h1)
  have hm94' := hs1'.mark ⟨#[94]⟩
  rw [← hm94'.1, h2', ← hm94'.2 h2'] at HM94
  have HI := Lib.hid (fun w1 h1 => iri_scG i b c _ e A rs w1 h3 hw h1)
  unfold mk1 at HI
  generalize markTo rs p ⟨#[94]⟩ = p2 at *
  clear h hg hx hy hf0 hm40 hm94 h1 h1' h2 h2' h3 HR hp hw hs1' hm94'
  go_enter Tryz.func201, Tryz.ntmps201
  go_wp2_with fail
  refine (HM40.out _ HS.out).mono ?_
  generalize ((w.alloc (.cells #[.pointer (some ⟨b, 0, none⟩)] 89)).alloc (.cells #[.int .i64 0, .string ⟨#[]⟩, .slice none 0 0] 62)) = w0 at *
  rintro e w1 ⟨rfl, hs1, hf1⟩
  have hx := HX.out.fr hf1 (fun e => by omega)
  have x1 : w1.cell? ⟨w.heap.size, 0, none⟩ = some (.pointer (some ⟨b, 0, none⟩)) := hx.cell 0
  have HX1 := Lib.hid hx
  have HY1 := Lib.hid (HY.out.fr hf1 (fun e => by omega))
  have HS1 := Lib.hid hs1
  have HF1 := Lib.hid (HF.out.andB hf1)
  have HG1 := Lib.hid (HG.out.frB HS.out.blk (by decide) hf1)
  clear hx hs1 hf1 x0
  go_wp2_with fail
  refine (HM94.out _ HS1.out).mono ?_
  rintro e w2 ⟨rfl, hs2, hf2⟩
  have hx := HX1.out.fr hf2 (fun e => by omega)
  have x2 : w2.cell? ⟨w.heap.size, 0, none⟩ = some (.pointer (some ⟨b, 0, none⟩)) := hx.cell 0
  have HX2 := Lib.hid hx
  have HY2 := Lib.hid (HY1.out.fr hf2 (fun e => by omega))
  have HS2 := Lib.hid hs2
  have HF2 := Lib.hid (HF1.out.andB hf2)
  have HG2 := Lib.hid (HG1.out.frB HS1.out.blk (by decide) hf2)
  clear hx hs2 hf2 x1
  go_wp2_with fail
  refine (HI.out w2 HS2.out).mono ?_
  rintro e w3 ⟨rfl, hs3, hf3⟩
  have hx := HX2.out.fr hf3 (fun e => by omega)
  have x3 : w3.cell? ⟨w.heap.size, 0, none⟩ = some (.pointer (some ⟨b, 0, none⟩)) := hx.cell 0
  have HX3 := Lib.hid hx
  have HY3 := Lib.hid (HY2.out.fr hf3 (fun e => by omega))
  have HS3 := Lib.hid hs3
  have HF3 := Lib.hid (HF2.out.andB hf3)
  have HG3 := Lib.hid (HG2.out.frB HS2.out.blk (by decide) hf3)
  have hsz := HY3.out.lt
  clear hx hs3 hf3 x2
  go_wp2_with (first | ((with_reducible change wpList _ _ _ (Oper.mk _ (.store 62 _ _) _ _ _ _ :: _) _ _); refine wpList_store_blkH rfl 62 _ _ rfl _ #[.int .i64 1, .string i, .slice none 0 0] rfl rfl 62 _ HY3.out (by rfl) (by exact inf62) (by exact (cells62 _ _ _ _ _).one) ?_))
  refine Lib.hid ?_
  rintro wz hbz hfz
  have HFZ := Lib.hid (HF3.out.andX hfz (by omega)).done
  have HSZ := Lib.hid (HS3.out.fr hfz (fun e => by omega) (fun j hj e => own_blk_ne HS3.out.row HY3.out (by decide) (by rw [hj, e])))
  go_wp2_with fail
  exact bodyPost_ret (v := .agg #[.int .i64 1, .string i, .slice none 0 0]) (results_cell_row rfl _ _ (w.heap.size + 1) 62 _ (0, 0) _ rfl hbz Tryz.underlying62 rfl inf62) rfl ⟨_, _, _, _, _, rfl, .leaf _ _, ⟨_, rfl, HSZ.out⟩, HFZ.out⟩
 | step _ i h1 h2 h3 =>
  have h1' : markAt rs p ⟨#[40]⟩ = false := h1
  have h2' : markAt rs p ⟨#[94]⟩ = false := h2
  have hs1' : Sm rs p (markTo rs p' ⟨#[40]⟩) := by
   unfold markTo
   rw [← hm40.1, h1', if_neg Bool.false_ne_true]
   exact hp.trans (Sm.skip)
  rw [h1'] at HM40
  generalize markTo rs p' ⟨#[40]⟩ = p1 at *
  have HM94 := Lib.hid (fun w1 h1 => mark_sc ⟨#[94]⟩ b c p1 A rs w1 (ascii_of (by decide)) (by decide) h1)
  have hm94' := hs1'.mark ⟨#[94]⟩
  have hs2' : Sm rs p (markTo rs p1 ⟨#[94]⟩) := by
   unfold markTo
   rw [← hm94'.1, h2', if_neg Bool.false_ne_true]
   exact hs1'.trans (Sm.skip)
  rw [← hm94'.1, h2'] at HM94
  generalize markTo rs p1 ⟨#[94]⟩ = p2 at *
  have HI := Lib.hid (fun w1 h1 => iri_scG i b c p2 e A rs w1 (hs2'.iri h3) hw h1)
  clear h hg hx hy hf0 hm40 hm94 h1 h1' h2 h2' h3 HR hp hw hs1' hm94' hs2'
  go_enter Tryz.func201, Tryz.ntmps201
  go_wp2_with fail
  refine (HM40.out _ HS.out).mono ?_
  generalize ((w.alloc (.cells #[.pointer (some ⟨b, 0, none⟩)] 89)).alloc (.cells #[.int .i64 0, .string ⟨#[]⟩, .slice none 0 0] 62)) = w0 at *
  rintro e w1 ⟨rfl, hs1, hf1⟩
  have hx := HX.out.fr hf1 (fun e => by omega)
  have x1 : w1.cell? ⟨w.heap.size, 0, none⟩ = some (.pointer (some ⟨b, 0, none⟩)) := hx.cell 0
  have HX1 := Lib.hid hx
  have HY1 := Lib.hid (HY.out.fr hf1 (fun e => by omega))
  have HS1 := Lib.hid hs1
  have HF1 := Lib.hid (HF.out.andB hf1)
  have HG1 := Lib.hid (HG.out.frB HS.out.blk (by decide) hf1)
  clear hx hs1 hf1 x0
  go_wp2_with fail
  refine (HM94.out _ HS1.out).mono ?_
  rintro e w2 ⟨rfl, hs2, hf2⟩
  have hx := HX1.out.fr hf2 (fun e => by omega)
  have x2 : w2.cell? ⟨w.heap.size, 0, none⟩ = some (.pointer (some ⟨b, 0, none⟩)) := hx.cell 0
  have HX2 := Lib.hid hx
  have HY2 := Lib.hid (HY1.out.fr hf2 (fun e => by omega))
  have HS2 := Lib.hid hs2
  have HF2 := Lib.hid (HF1.out.andB hf2)
  have HG2 := Lib.hid (HG1.out.frB HS1.out.blk (by decide) hf2)
  clear hx hs2 hf2 x1
  go_wp2_with fail
  refine (HI.out w2 HS2.out).mono ?_
  rintro e w3 ⟨rfl, hs3, hf3⟩
  have hx := HX2.out.fr hf3 (fun e => by omega)
  have x3 : w3.cell? ⟨w.heap.size, 0, none⟩ = some (.pointer (some ⟨b, 0, none⟩)) := hx.cell 0
  have HX3 := Lib.hid hx
  have HY3 := Lib.hid (HY2.out.fr hf3 (fun e => by omega))
  have HS3 := Lib.hid hs3
  have HF3 := Lib.hid (HF2.out.andB hf3)
  have HG3 := Lib.hid (HG2.out.frB HS2.out.blk (by decide) hf3)
  have hsz := HY3.out.lt
  clear hx hs3 hf3 x2
  go_wp2_with (first | ((with_reducible change wpList _ _ _ (Oper.mk _ (.store 62 _ _) _ _ _ _ :: _) _ _); refine wpList_store_blkH rfl 62 _ _ rfl _ #[.int .i64 0, .string i, .slice none 0 0] rfl rfl 62 _ HY3.out (by rfl) (by exact inf62) (by exact (cells62 _ _ _ _ _).one) ?_))
  refine Lib.hid ?_
  rintro wz hbz hfz
  have HFZ := Lib.hid (HF3.out.andX hfz (by omega)).done
  have HSZ := Lib.hid (HS3.out.fr hfz (fun e => by omega) (fun j hj e => own_blk_ne HS3.out.row HY3.out (by decide) (by rw [hj, e])))
  go_wp2_with fail
  exact bodyPost_ret (v := .agg #[.int .i64 0, .string i, .slice none 0 0]) (results_cell_row rfl _ _ (w.heap.size + 1) 62 _ (0, 0) _ rfl hbz Tryz.underlying62 rfl inf62) rfl ⟨_, _, _, _, _, rfl, .leaf _ _, ⟨_, rfl, HSZ.out⟩, HFZ.out⟩

theorem Sm.no {rs : List Int} {e q : Nat} {T : ByteArray} (h : Sm rs e q) (hf : markAt rs e T = false) : Sm rs e (markTo rs q T) := by
 unfold markTo
 rw [← (h.mark T).1, hf, if_neg Bool.false_ne_true]
 exact h.trans Sm.skip
theorem often_cases (rs : List Int) (e : Nat) : (oftenP rs e = 0 ∧ markAt rs e ⟨#[42]⟩ = false ∧ markAt rs e ⟨#[43]⟩ = false ∧ markAt rs e ⟨#[126]⟩ = false) ∨ (oftenP rs e = 4 ∧ markAt rs e ⟨#[42]⟩ = true) ∨ (oftenP rs e = 5 ∧ markAt rs e ⟨#[42]⟩ = false ∧ markAt rs e ⟨#[43]⟩ = true) ∨ (oftenP rs e = 6 ∧ markAt rs e ⟨#[42]⟩ = false ∧ markAt rs e ⟨#[43]⟩ = false ∧ markAt rs e ⟨#[126]⟩ = true) := by
 unfold oftenP mk1
 cases h1 : markAt rs e ⟨#[42]⟩ with
 | true => exact .inr (.inl ⟨rfl, rfl⟩)
 | false =>
  cases h2 : markAt rs e ⟨#[43]⟩ with
  | true => exact .inr (.inr (.inl ⟨rfl, rfl, rfl⟩))
  | false =>
   cases h3 : markAt rs e ⟨#[126]⟩ with
   | true => exact .inr (.inr (.inr ⟨rfl, rfl, rfl, rfl⟩))
   | false => exact .inl ⟨rfl, rfl, rfl, rfl⟩
theorem PAt.oneP {w : World} {B : Nat} {t : PT} {a b d : Value} (k : Int) (h : PAt 62 w B t [a, b, d]) {A : Option Addr} {c : Nat} (hr : w.ownsRow B 62 3 (.slice A 1 c) 1 [a, b, d]) : PAt 62 w B (.node k [t]) [.int .i64 k, .string ⟨#[]⟩, .slice A 1 c] :=
 .node k [t] A c [[a, b, d]] rfl (fun i t' l h1 h2 => by
  cases i with
  | zero =>
   injection h1 with h1
   injection h2 with h2
   rw [← h1, ← h2]
   exact h
  | succ i => cases h1) hr
theorem ixs_0 (w : World) : (Instr.index 94 (.agg #[.string ⟨#[]⟩, .string ⟨#[]⟩, .string ⟨#[]⟩, .string ⟨#[]⟩, .string ⟨#[42]⟩, .string ⟨#[43]⟩, .string ⟨#[126]⟩]) (.int .i64 0)).run Tryz.prog w = .ok (.string ⟨#[]⟩) w := by kernel_rfl
theorem ixs_1 (w : World) : (Instr.index 94 (.agg #[.string ⟨#[]⟩, .string ⟨#[]⟩, .string ⟨#[]⟩, .string ⟨#[]⟩, .string ⟨#[42]⟩, .string ⟨#[43]⟩, .string ⟨#[126]⟩]) (.int .i64 1)).run Tryz.prog w = .ok (.string ⟨#[]⟩) w := by kernel_rfl
theorem ixs_2 (w : World) : (Instr.index 94 (.agg #[.string ⟨#[]⟩, .string ⟨#[]⟩, .string ⟨#[]⟩, .string ⟨#[]⟩, .string ⟨#[42]⟩, .string ⟨#[43]⟩, .string ⟨#[126]⟩]) (.int .i64 2)).run Tryz.prog w = .ok (.string ⟨#[]⟩) w := by kernel_rfl
theorem ixs_3 (w : World) : (Instr.index 94 (.agg #[.string ⟨#[]⟩, .string ⟨#[]⟩, .string ⟨#[]⟩, .string ⟨#[]⟩, .string ⟨#[42]⟩, .string ⟨#[43]⟩, .string ⟨#[126]⟩]) (.int .i64 3)).run Tryz.prog w = .ok (.string ⟨#[]⟩) w := by kernel_rfl
theorem ixs_4 (w : World) : (Instr.index 94 (.agg #[.string ⟨#[]⟩, .string ⟨#[]⟩, .string ⟨#[]⟩, .string ⟨#[]⟩, .string ⟨#[42]⟩, .string ⟨#[43]⟩, .string ⟨#[126]⟩]) (.int .i64 4)).run Tryz.prog w = .ok (.string ⟨#[42]⟩) w := by kernel_rfl
theorem ixs_5 (w : World) : (Instr.index 94 (.agg #[.string ⟨#[]⟩, .string ⟨#[]⟩, .string ⟨#[]⟩, .string ⟨#[]⟩, .string ⟨#[42]⟩, .string ⟨#[43]⟩, .string ⟨#[126]⟩]) (.int .i64 5)).run Tryz.prog w = .ok (.string ⟨#[43]⟩) w := by kernel_rfl
theorem ixs_6 (w : World) : (Instr.index 94 (.agg #[.string ⟨#[]⟩, .string ⟨#[]⟩, .string ⟨#[]⟩, .string ⟨#[]⟩, .string ⟨#[42]⟩, .string ⟨#[43]⟩, .string ⟨#[126]⟩]) (.int .i64 6)).run Tryz.prog w = .ok (.string ⟨#[126]⟩) w := by kernel_rfl
attribute [local go_sem] ixs_0 ixs_1 ixs_2 ixs_3 ixs_4 ixs_5 ixs_6
theorem pstep_0 (t : PT) (rs : List Int) (p' e b c : Nat) (A : Option Addr) (w : World) (hg : Sg w) (h : Sc w b A c rs p') (HA : ∀ w1, Sg w1 → Sc w1 b A c rs p' → Calls Tryz.prog 201 #[.agg #[.pointer (some ⟨b, 0, none⟩)]] w1 (PP rs e t w1 b A c)) (h4 : markAt rs e ⟨#[42]⟩ = false) (h5 : markAt rs e ⟨#[43]⟩ = false) (h6 : markAt rs e ⟨#[126]⟩ = false) :
    Calls Tryz.prog 183 #[.agg #[.pointer (some ⟨b, 0, none⟩)]] w (PP rs e t w b A c) := by
 have hx := Blk.new w 89 #[.pointer (some ⟨b, 0, none⟩)]
 have hy := Blk.new (w.alloc (.cells #[.pointer (some ⟨b, 0, none⟩)] 89)) 62 #[.int .i64 0, .string ⟨#[]⟩, .slice none 0 0]
 rw [show (w.alloc (.cells #[.pointer (some ⟨b, 0, none⟩)] 89)).heap.size = w.heap.size + 1 by simp] at hy
 have HX := Lib.hid (show Blk ((w.alloc (.cells #[.pointer (some ⟨b, 0, none⟩)] 89)).alloc (.cells #[.int .i64 0, .string ⟨#[]⟩, .slice none 0 0] 62)) w.heap.size 89 #[.pointer (some ⟨b, 0, none⟩)] from hx.alloc _)
 have HY := Lib.hid (show Blk ((w.alloc (.cells #[.pointer (some ⟨b, 0, none⟩)] 89)).alloc (.cells #[.int .i64 0, .string ⟨#[]⟩, .slice none 0 0] 62)) (w.heap.size + 1) 62 Z62 from hy)
 have hf0 : Fr (fun _ => False) w ((w.alloc (.cells #[.pointer (some ⟨b, 0, none⟩)] 89)).alloc (.cells #[.int .i64 0, .string ⟨#[]⟩, .slice none 0 0] 62)) := ((Fr.refl _ _).alloc _).alloc _
 have HF := Lib.hid (FrN.of (b := b) hf0)
 have HS := Lib.hid (h.frF hf0)
 have HG := Lib.hid (hg.frF hf0)
 have x0 : ((w.alloc (.cells #[.pointer (some ⟨b, 0, none⟩)] 89)).alloc (.cells #[.int .i64 0, .string ⟨#[]⟩, .slice none 0 0] 62)).cell? ⟨w.heap.size, 0, none⟩ = some (.pointer (some ⟨b, 0, none⟩)) := HX.out.cell 0
 have hbl := h.blk.lt
 have HAA := Lib.hid (HA _ HG.out HS.out)
 have HM4 := Lib.hid (fun q w1 (h : Sm rs e q) h1 => show Calls Tryz.prog 74 #[.agg #[.pointer (some ⟨b, 0, none⟩)], .string ⟨#[42]⟩] w1 (ScPost w1 b A c rs (markTo rs q ⟨#[42]⟩) (.bool false)) by
  have hm := mark_sc ⟨#[42]⟩ b c q A rs w1 (ascii_of (by decide)) (by decide) h1
  rw [← (h.mark _).1, h4] at hm
  exact hm)
 have HN4 := Lib.hid (fun q (h : Sm rs e q) => h.no h4)
 have HM5 := Lib.hid (fun q w1 (h : Sm rs e q) h1 => show Calls Tryz.prog 74 #[.agg #[.pointer (some ⟨b, 0, none⟩)], .string ⟨#[43]⟩] w1 (ScPost w1 b A c rs (markTo rs q ⟨#[43]⟩) (.bool false)) by
  have hm := mark_sc ⟨#[43]⟩ b c q A rs w1 (ascii_of (by decide)) (by decide) h1
  rw [← (h.mark _).1, h5] at hm
  exact hm)
 have HN5 := Lib.hid (fun q (h : Sm rs e q) => h.no h5)
 have HM6 := Lib.hid (fun q w1 (h : Sm rs e q) h1 => show Calls Tryz.prog 74 #[.agg #[.pointer (some ⟨b, 0, none⟩)], .string ⟨#[126]⟩] w1 (ScPost w1 b A c rs (markTo rs q ⟨#[126]⟩) (.bool false)) by
  have hm := mark_sc ⟨#[126]⟩ b c q A rs w1 (ascii_of (by decide)) (by decide) h1
  rw [← (h.mark _).1, h6] at hm
  exact hm)
 have HN6 := Lib.hid (fun q (h : Sm rs e q) => h.no h6)
 unfold PP at HAA
 clear h hg hx hy hf0 HA h4 h5 h6
 go_enter Tryz.func183, Tryz.ntmps183
 go_wp2_with fail
 refine HAA.out.mono ?_
 generalize ((w.alloc (.cells #[.pointer (some ⟨b, 0, none⟩)] 89)).alloc (.cells #[.int .i64 0, .string ⟨#[]⟩, .slice none 0 0] 62)) = w0 at *
 rintro e w2 ⟨k, i, A2, n2, c2, rfl, hpa, ⟨q', hsm, hs2⟩, hf2⟩
 have hx := HX.out.fr hf2 (fun e => by omega)
 have x2 : w2.cell? ⟨w.heap.size, 0, none⟩ = some (.pointer (some ⟨b, 0, none⟩)) := hx.cell 0
 have HX2 := Lib.hid hx
 have HY2 := Lib.hid (HY.out.fr hf2 (fun e => by omega))
 have HS2 := Lib.hid hs2
 have HF2 := Lib.hid (HF.out.andB hf2)
 have HG2 := Lib.hid (HG.out.frB HS.out.blk (by decide) hf2)
 have hw1 := HY.out.lt
 have hs02 := hf2.size
 have hfa : Fr (fun _ => False) w2 (w2.alloc (.cells #[.int .i64 k, .string i, .slice A2 n2 c2] 62)) := (Fr.refl _ _).alloc _
 have HN3 := Lib.hid (show Blk (w2.alloc (.cells #[.int .i64 k, .string i, .slice A2 n2 c2] 62)) w2.heap.size 62 #[.int .i64 k, .string i, .slice A2 n2 c2] from Blk.new w2 62 #[.int .i64 k, .string i, .slice A2 n2 c2])
 have HPA3 := Lib.hid (hpa.frF hfa)
 have HX3 := Lib.hid (HX2.out.fr hfa (fun h => h))
 have HY3 := Lib.hid (HY2.out.fr hfa (fun h => h))
 have HS3 := Lib.hid (HS2.out.frF hfa)
 have HF3 := Lib.hid (HF2.out.andF hfa)
 have hsg := HG2.out.frF hfa
 have hsz := HY2.out.lt
 have g0 : (w2.alloc (.cells #[.int .i64 k, .string i, .slice A2 n2 c2] 62)).cell? ⟨0, 0, none⟩ = some (.string ⟨#[]⟩) := hsg.cell 0
 have g1 : (w2.alloc (.cells #[.int .i64 k, .string i, .slice A2 n2 c2] 62)).cell? ⟨0, 1, none⟩ = some (.string ⟨#[]⟩) := hsg.cell 1
 have g2 : (w2.alloc (.cells #[.int .i64 k, .string i, .slice A2 n2 c2] 62)).cell? ⟨0, 2, none⟩ = some (.string ⟨#[]⟩) := hsg.cell 2
 have g3 : (w2.alloc (.cells #[.int .i64 k, .string i, .slice A2 n2 c2] 62)).cell? ⟨0, 3, none⟩ = some (.string ⟨#[]⟩) := hsg.cell 3
 have g4 : (w2.alloc (.cells #[.int .i64 k, .string i, .slice A2 n2 c2] 62)).cell? ⟨0, 4, none⟩ = some (.string ⟨#[42]⟩) := hsg.cell 4
 have g5 : (w2.alloc (.cells #[.int .i64 k, .string i, .slice A2 n2 c2] 62)).cell? ⟨0, 5, none⟩ = some (.string ⟨#[43]⟩) := hsg.cell 5
 have g6 : (w2.alloc (.cells #[.int .i64 k, .string i, .slice A2 n2 c2] 62)).cell? ⟨0, 6, none⟩ = some (.string ⟨#[126]⟩) := hsg.cell 6
 have hgl := Blk.lt hsg
 obtain ⟨w3, hw3⟩ : ∃ w3, w3 = w2.alloc (.cells #[.int .i64 k, .string i, .slice A2 n2 c2] 62) := ⟨_, rfl⟩
 rw [← hw3] at HN3 HPA3 HX3 HY3 HS3 HF3
 clear hx hs2 hf2 hpa hfa hsg x0 HX2 HY2 HS2 HF2 HG2 HAA
 go_wp2_with fail
 rw [← hw3]
 clear hw3 g0 g1 g2 g3 g4 g5 g6 hgl x2
 go_loopg [9] (7) (fun gk iv wr => ∃ m : Nat, iv = .int .i64 (m : Int) ∧ 7 ≤ m + gk ∧ m ≤ 7 ∧ (∃ q', Sm rs e q' ∧ Sc wr b A c rs q') ∧ Fr (fun j => j = b) w3 wr)
 case atStart => exact ⟨0, rfl, by omega, by omega, ⟨q', hsm, HS3.out⟩, Fr.refl _ _⟩
 case round =>
  obtain ⟨m, rfl, hgk, hm, ⟨qr, hsmr, hsr⟩, hfr⟩ := hrel
  have HSr := Lib.hid hsr
  have HFr := Lib.hid hfr
  have HSMr := Lib.hid hsmr
  have xr : wr.cell? ⟨w.heap.size, 0, none⟩ = some (.pointer (some ⟨b, 0, none⟩)) := (HX3.out.fr hfr (fun e => by omega)).cell 0
  clear hsr hfr hsmr hsm
  have hk8 : m = 0 ∨ m = 1 ∨ m = 2 ∨ m = 3 ∨ m = 4 ∨ m = 5 ∨ m = 6 ∨ m = 7 := by omega
  clear hm
  rcases hk8 with rfl | rfl | rfl | rfl | rfl | rfl | rfl | rfl
  · go_wp2_with fail
    go_roundg (7 - 1)
    case measure => omega
    case rel => exact ⟨1, rfl, by omega, by omega, ⟨qr, HSMr.out, HSr.out⟩, HFr.out⟩
  · go_wp2_with fail
    go_roundg (7 - 2)
    case measure => omega
    case rel => exact ⟨2, rfl, by omega, by omega, ⟨qr, HSMr.out, HSr.out⟩, HFr.out⟩
  · go_wp2_with fail
    go_roundg (7 - 3)
    case measure => omega
    case rel => exact ⟨3, rfl, by omega, by omega, ⟨qr, HSMr.out, HSr.out⟩, HFr.out⟩
  · go_wp2_with fail
    go_roundg (7 - 4)
    case measure => omega
    case rel => exact ⟨4, rfl, by omega, by omega, ⟨qr, HSMr.out, HSr.out⟩, HFr.out⟩
  · go_wp2_with fail
    refine (HM4.out qr wr HSMr.out HSr.out).mono ?_
    rintro e w4 ⟨rfl, hs4, hf4⟩
    go_wp2_with fail
    go_roundg (7 - 5)
    case measure => omega
    case rel => exact ⟨5, rfl, by omega, by omega, ⟨_, HN4.out qr HSMr.out, hs4⟩, HFr.out.trans' hf4⟩
  · go_wp2_with fail
    refine (HM5.out qr wr HSMr.out HSr.out).mono ?_
    rintro e w4 ⟨rfl, hs4, hf4⟩
    go_wp2_with fail
    go_roundg (7 - 6)
    case measure => omega
    case rel => exact ⟨6, rfl, by omega, by omega, ⟨_, HN5.out qr HSMr.out, hs4⟩, HFr.out.trans' hf4⟩
  · go_wp2_with fail
    refine (HM6.out qr wr HSMr.out HSr.out).mono ?_
    rintro e w4 ⟨rfl, hs4, hf4⟩
    go_wp2_with fail
    go_roundg (7 - 7)
    case measure => omega
    case rel => exact ⟨7, rfl, by omega, by omega, ⟨_, HN6.out qr HSMr.out, hs4⟩, HFr.out.trans' hf4⟩
  · have HS4 := HSr
    have HY4 := Lib.hid (HY3.out.fr HFr.out (fun e => by omega))
    have HN4 := Lib.hid (HN3.out.fr HFr.out (fun e => by omega))
    have HF4 := Lib.hid (HF3.out.andB HFr.out)
    have HPA4 := Lib.hid (HPA3.out.fr HFr.out (fun j cs hj hb e => Blk.ne_ hb HS3.out.blk (by decide) e))
    go_wp2_with (first | ((with_reducible change wpList _ _ _ (Oper.mk _ (.load 62 _) _ _ _ _ :: _) _ _); refine wpList_load_blk rfl 62 _ rfl _ rfl 62 #[.int .i64 k, .string i, .slice A2 n2 c2] HN4.out _ Tryz.underlying62 rfl inf62 ?_) | ((with_reducible change wpList _ _ _ (Oper.mk _ (.store 62 _ _) _ _ _ _ :: _) _ _); refine wpList_store_blkH rfl 62 _ _ rfl _ #[.int .i64 k, .string i, .slice A2 n2 c2] rfl rfl 62 _ HY4.out (by rfl) (by exact inf62) (by exact (cells62 _ _ _ _ _).one) ?_))
    refine Lib.hid ?_
    rintro wz hbz hfz
    have HFZ := Lib.hid (HF4.out.andX hfz (by omega)).done
    have HSZ := Lib.hid (HS4.out.fr hfz (fun e => by omega) (fun j hj e => own_blk_ne HS4.out.row HY4.out (by decide) (by rw [hj, e])))
    go_wp2_with fail
    exact bodyPost_ret (v := .agg #[.int .i64 k, .string i, .slice A2 n2 c2]) (results_cell_row rfl _ _ (w.heap.size + 1) 62 _ (0, 0) _ rfl hbz Tryz.underlying62 rfl inf62) rfl ⟨_, _, _, _, _, rfl, ((HPA4.out.frB2 HY4.out hfz (by omega)).base (by omega)), ⟨_, HSMr.out, HSZ.out⟩, HFZ.out⟩
theorem pstep_4 (t : PT) (rs : List Int) (p' e b c : Nat) (A : Option Addr) (w : World) (hg : Sg w) (h : Sc w b A c rs p') (HA : ∀ w1, Sg w1 → Sc w1 b A c rs p' → Calls Tryz.prog 201 #[.agg #[.pointer (some ⟨b, 0, none⟩)]] w1 (PP rs e t w1 b A c)) (h4 : markAt rs e ⟨#[42]⟩ = true) :
    Calls Tryz.prog 183 #[.agg #[.pointer (some ⟨b, 0, none⟩)]] w (PP rs (markTo rs e ⟨#[42]⟩) (.node 4 [t]) w b A c) := by
 have hx := Blk.new w 89 #[.pointer (some ⟨b, 0, none⟩)]
 have hy := Blk.new (w.alloc (.cells #[.pointer (some ⟨b, 0, none⟩)] 89)) 62 #[.int .i64 0, .string ⟨#[]⟩, .slice none 0 0]
 rw [show (w.alloc (.cells #[.pointer (some ⟨b, 0, none⟩)] 89)).heap.size = w.heap.size + 1 by simp] at hy
 have HX := Lib.hid (show Blk ((w.alloc (.cells #[.pointer (some ⟨b, 0, none⟩)] 89)).alloc (.cells #[.int .i64 0, .string ⟨#[]⟩, .slice none 0 0] 62)) w.heap.size 89 #[.pointer (some ⟨b, 0, none⟩)] from hx.alloc _)
 have HY := Lib.hid (show Blk ((w.alloc (.cells #[.pointer (some ⟨b, 0, none⟩)] 89)).alloc (.cells #[.int .i64 0, .string ⟨#[]⟩, .slice none 0 0] 62)) (w.heap.size + 1) 62 Z62 from hy)
 have hf0 : Fr (fun _ => False) w ((w.alloc (.cells #[.pointer (some ⟨b, 0, none⟩)] 89)).alloc (.cells #[.int .i64 0, .string ⟨#[]⟩, .slice none 0 0] 62)) := ((Fr.refl _ _).alloc _).alloc _
 have HF := Lib.hid (FrN.of (b := b) hf0)
 have HS := Lib.hid (h.frF hf0)
 have HG := Lib.hid (hg.frF hf0)
 have x0 : ((w.alloc (.cells #[.pointer (some ⟨b, 0, none⟩)] 89)).alloc (.cells #[.int .i64 0, .string ⟨#[]⟩, .slice none 0 0] 62)).cell? ⟨w.heap.size, 0, none⟩ = some (.pointer (some ⟨b, 0, none⟩)) := HX.out.cell 0
 have hbl := h.blk.lt
 have HAA := Lib.hid (HA _ HG.out HS.out)
 have HM4 := Lib.hid (fun q w1 (h : Sm rs e q) h1 => show Calls Tryz.prog 74 #[.agg #[.pointer (some ⟨b, 0, none⟩)], .string ⟨#[42]⟩] w1 (ScPost w1 b A c rs (markTo rs e ⟨#[42]⟩) (.bool true)) by
  have hm := mark_sc ⟨#[42]⟩ b c q A rs w1 (ascii_of (by decide)) (by decide) h1
  rw [← (h.mark _).1, h4, ← (h.mark _).2 h4] at hm
  exact hm)
 unfold PP at HAA
 generalize markTo rs e ⟨#[42]⟩ = e9 at *
 clear h hg hx hy hf0 HA h4 
 go_enter Tryz.func183, Tryz.ntmps183
 go_wp2_with fail
 refine HAA.out.mono ?_
 generalize ((w.alloc (.cells #[.pointer (some ⟨b, 0, none⟩)] 89)).alloc (.cells #[.int .i64 0, .string ⟨#[]⟩, .slice none 0 0] 62)) = w0 at *
 rintro e w2 ⟨k, i, A2, n2, c2, rfl, hpa, ⟨q', hsm, hs2⟩, hf2⟩
 have hx := HX.out.fr hf2 (fun e => by omega)
 have x2 : w2.cell? ⟨w.heap.size, 0, none⟩ = some (.pointer (some ⟨b, 0, none⟩)) := hx.cell 0
 have HX2 := Lib.hid hx
 have HY2 := Lib.hid (HY.out.fr hf2 (fun e => by omega))
 have HS2 := Lib.hid hs2
 have HF2 := Lib.hid (HF.out.andB hf2)
 have HG2 := Lib.hid (HG.out.frB HS.out.blk (by decide) hf2)
 have hw1 := HY.out.lt
 have hs02 := hf2.size
 have hfa : Fr (fun _ => False) w2 (w2.alloc (.cells #[.int .i64 k, .string i, .slice A2 n2 c2] 62)) := (Fr.refl _ _).alloc _
 have HN3 := Lib.hid (show Blk (w2.alloc (.cells #[.int .i64 k, .string i, .slice A2 n2 c2] 62)) w2.heap.size 62 #[.int .i64 k, .string i, .slice A2 n2 c2] from Blk.new w2 62 #[.int .i64 k, .string i, .slice A2 n2 c2])
 have HPA3 := Lib.hid (hpa.frF hfa)
 have HX3 := Lib.hid (HX2.out.fr hfa (fun h => h))
 have HY3 := Lib.hid (HY2.out.fr hfa (fun h => h))
 have HS3 := Lib.hid (HS2.out.frF hfa)
 have HF3 := Lib.hid (HF2.out.andF hfa)
 have hsg := HG2.out.frF hfa
 have hsz := HY2.out.lt
 have g0 : (w2.alloc (.cells #[.int .i64 k, .string i, .slice A2 n2 c2] 62)).cell? ⟨0, 0, none⟩ = some (.string ⟨#[]⟩) := hsg.cell 0
 have g1 : (w2.alloc (.cells #[.int .i64 k, .string i, .slice A2 n2 c2] 62)).cell? ⟨0, 1, none⟩ = some (.string ⟨#[]⟩) := hsg.cell 1
 have g2 : (w2.alloc (.cells #[.int .i64 k, .string i, .slice A2 n2 c2] 62)).cell? ⟨0, 2, none⟩ = some (.string ⟨#[]⟩) := hsg.cell 2
 have g3 : (w2.alloc (.cells #[.int .i64 k, .string i, .slice A2 n2 c2] 62)).cell? ⟨0, 3, none⟩ = some (.string ⟨#[]⟩) := hsg.cell 3
 have g4 : (w2.alloc (.cells #[.int .i64 k, .string i, .slice A2 n2 c2] 62)).cell? ⟨0, 4, none⟩ = some (.string ⟨#[42]⟩) := hsg.cell 4
 have g5 : (w2.alloc (.cells #[.int .i64 k, .string i, .slice A2 n2 c2] 62)).cell? ⟨0, 5, none⟩ = some (.string ⟨#[43]⟩) := hsg.cell 5
 have g6 : (w2.alloc (.cells #[.int .i64 k, .string i, .slice A2 n2 c2] 62)).cell? ⟨0, 6, none⟩ = some (.string ⟨#[126]⟩) := hsg.cell 6
 have hgl := Blk.lt hsg
 obtain ⟨w3, hw3⟩ : ∃ w3, w3 = w2.alloc (.cells #[.int .i64 k, .string i, .slice A2 n2 c2] 62) := ⟨_, rfl⟩
 rw [← hw3] at HN3 HPA3 HX3 HY3 HS3 HF3
 clear hx hs2 hf2 hpa hfa hsg x0 HX2 HY2 HS2 HF2 HG2 HAA
 go_wp2_with fail
 rw [← hw3]
 clear hw3 g0 g1 g2 g3 g4 g5 g6 hgl x2
 go_loopg [9] (7) (fun gk iv wr => ∃ m : Nat, iv = .int .i64 (m : Int) ∧ 7 ≤ m + gk ∧ m ≤ 4 ∧ (∃ q', Sm rs e q' ∧ Sc wr b A c rs q') ∧ Fr (fun j => j = b) w3 wr)
 case atStart => exact ⟨0, rfl, by omega, by omega, ⟨q', hsm, HS3.out⟩, Fr.refl _ _⟩
 case round =>
  obtain ⟨m, rfl, hgk, hm, ⟨qr, hsmr, hsr⟩, hfr⟩ := hrel
  have HSr := Lib.hid hsr
  have HFr := Lib.hid hfr
  have HSMr := Lib.hid hsmr
  have xr : wr.cell? ⟨w.heap.size, 0, none⟩ = some (.pointer (some ⟨b, 0, none⟩)) := (HX3.out.fr hfr (fun e => by omega)).cell 0
  clear hsr hfr hsmr hsm
  have hk8 : m = 0 ∨ m = 1 ∨ m = 2 ∨ m = 3 ∨ m = 4 := by omega
  clear hm
  rcases hk8 with rfl | rfl | rfl | rfl | rfl
  · go_wp2_with fail
    go_roundg (7 - 1)
    case measure => omega
    case rel => exact ⟨1, rfl, by omega, by omega, ⟨qr, HSMr.out, HSr.out⟩, HFr.out⟩
  · go_wp2_with fail
    go_roundg (7 - 2)
    case measure => omega
    case rel => exact ⟨2, rfl, by omega, by omega, ⟨qr, HSMr.out, HSr.out⟩, HFr.out⟩
  · go_wp2_with fail
    go_roundg (7 - 3)
    case measure => omega
    case rel => exact ⟨3, rfl, by omega, by omega, ⟨qr, HSMr.out, HSr.out⟩, HFr.out⟩
  · go_wp2_with fail
    go_roundg (7 - 4)
    case measure => omega
    case rel => exact ⟨4, rfl, by omega, by omega, ⟨qr, HSMr.out, HSr.out⟩, HFr.out⟩
  · go_wp2_with fail
    refine (HM4.out qr wr HSMr.out HSr.out).mono ?_
    rintro e w4 ⟨rfl, hs4, hf4⟩
    have hf34 := HFr.out.trans' hf4
    have hfl : Fr (fun _ => False) w4 (w4.alloc (.cells #[.int .i64 k, .string i, .slice A2 n2 c2] 62)) := (Fr.refl _ _).alloc _
    have x4 : w4.cell? ⟨w.heap.size, 0, none⟩ = some (.pointer (some ⟨b, 0, none⟩)) := (HX3.out.fr hf34 (fun e => by omega)).cell 0
    have hn4 := HN3.out.fr hf34 (fun e => by omega)
    have HN4 := Lib.hid hn4
    have HY4 := Lib.hid ((HY3.out.fr hf34 (fun e => by omega)).fr hfl (fun h => h))
    have HS4 := Lib.hid (hs4.frF hfl)
    have HF4 := Lib.hid ((HF3.out.andB hf34).andF hfl)
    have HPA4 := Lib.hid ((HPA3.out.fr hf34 (fun j cs hj hb e => Blk.ne_ hb HS3.out.blk (by decide) e)).frF hfl)
    have hsz4 := hf34.size
    have hwn := HN3.out.lt
    have HROW := Lib.hid (World.ownsRow_lit (base := w0.heap.size) (e := 62) (size := 3) w4 #[.int .i64 k, .string i, .slice A2 n2 c2] 1 (by have := HN3.out.lt; omega) (by decide) rfl)
    clear hs4 hf4 hf34 hfl hn4 xr
    go_wp2_with (first | ((with_reducible change wpList _ _ _ (Oper.mk _ (.load 62 _) _ _ _ _ :: _) _ _); refine wpList_load_blk rfl 62 _ rfl _ rfl 62 #[.int .i64 k, .string i, .slice A2 n2 c2] HN4.out _ Tryz.underlying62 rfl inf62 ?_) | ((with_reducible change wpList _ _ _ (Oper.mk _ (.buildSlice 60 1 _) _ _ _ _ :: _) _ _); refine wpList_lit1 rfl 60 62 _ rfl #[.int .i64 k, .string i, .slice A2 n2 c2] rfl Tryz.underlying60 inf62 zer62 (by decide) (by decide) ?_; rintro _ rfl) | ((with_reducible change wpList _ _ _ (Oper.mk _ (.store 62 _ _) _ _ _ _ :: _) _ _); refine wpList_store_blkH rfl 62 _ _ rfl _ #[.int .i64 4, .string ⟨#[]⟩, .slice (some ⟨w4.heap.size, 0, none⟩) 1 1] rfl rfl 62 _ HY4.out (by rfl) (by exact inf62) (by exact (cells62 _ _ _ _ _).one) ?_))
    refine Lib.hid ?_
    rintro wz hbz hfz
    have HFZ := Lib.hid (HF4.out.andX hfz (by omega)).done
    have HSZ := Lib.hid (HS4.out.fr hfz (fun e => by omega) (fun j hj e => own_blk_ne HS4.out.row HY4.out (by decide) (by rw [hj, e])))
    go_wp2_with fail
    exact bodyPost_ret (v := .agg #[.int .i64 4, .string ⟨#[]⟩, .slice (some ⟨w4.heap.size, 0, none⟩) 1 1]) (results_cell_row rfl _ _ (w.heap.size + 1) 62 _ (0, 0) _ rfl hbz Tryz.underlying62 rfl inf62) rfl ⟨_, _, _, _, _, rfl, (((HPA4.out.oneP 4 HROW.out).frB2 HY4.out hfz (by omega)).base (by omega)), ⟨_, rfl, HSZ.out⟩, HFZ.out⟩
theorem pstep_5 (t : PT) (rs : List Int) (p' e b c : Nat) (A : Option Addr) (w : World) (hg : Sg w) (h : Sc w b A c rs p') (HA : ∀ w1, Sg w1 → Sc w1 b A c rs p' → Calls Tryz.prog 201 #[.agg #[.pointer (some ⟨b, 0, none⟩)]] w1 (PP rs e t w1 b A c)) (h4 : markAt rs e ⟨#[42]⟩ = false) (h5 : markAt rs e ⟨#[43]⟩ = true) :
    Calls Tryz.prog 183 #[.agg #[.pointer (some ⟨b, 0, none⟩)]] w (PP rs (markTo rs e ⟨#[43]⟩) (.node 5 [t]) w b A c) := by
 have hx := Blk.new w 89 #[.pointer (some ⟨b, 0, none⟩)]
 have hy := Blk.new (w.alloc (.cells #[.pointer (some ⟨b, 0, none⟩)] 89)) 62 #[.int .i64 0, .string ⟨#[]⟩, .slice none 0 0]
 rw [show (w.alloc (.cells #[.pointer (some ⟨b, 0, none⟩)] 89)).heap.size = w.heap.size + 1 by simp] at hy
 have HX := Lib.hid (show Blk ((w.alloc (.cells #[.pointer (some ⟨b, 0, none⟩)] 89)).alloc (.cells #[.int .i64 0, .string ⟨#[]⟩, .slice none 0 0] 62)) w.heap.size 89 #[.pointer (some ⟨b, 0, none⟩)] from hx.alloc _)
 have HY := Lib.hid (show Blk ((w.alloc (.cells #[.pointer (some ⟨b, 0, none⟩)] 89)).alloc (.cells #[.int .i64 0, .string ⟨#[]⟩, .slice none 0 0] 62)) (w.heap.size + 1) 62 Z62 from hy)
 have hf0 : Fr (fun _ => False) w ((w.alloc (.cells #[.pointer (some ⟨b, 0, none⟩)] 89)).alloc (.cells #[.int .i64 0, .string ⟨#[]⟩, .slice none 0 0] 62)) := ((Fr.refl _ _).alloc _).alloc _
 have HF := Lib.hid (FrN.of (b := b) hf0)
 have HS := Lib.hid (h.frF hf0)
 have HG := Lib.hid (hg.frF hf0)
 have x0 : ((w.alloc (.cells #[.pointer (some ⟨b, 0, none⟩)] 89)).alloc (.cells #[.int .i64 0, .string ⟨#[]⟩, .slice none 0 0] 62)).cell? ⟨w.heap.size, 0, none⟩ = some (.pointer (some ⟨b, 0, none⟩)) := HX.out.cell 0
 have hbl := h.blk.lt
 have HAA := Lib.hid (HA _ HG.out HS.out)
 have HM4 := Lib.hid (fun q w1 (h : Sm rs e q) h1 => show Calls Tryz.prog 74 #[.agg #[.pointer (some ⟨b, 0, none⟩)], .string ⟨#[42]⟩] w1 (ScPost w1 b A c rs (markTo rs q ⟨#[42]⟩) (.bool false)) by
  have hm := mark_sc ⟨#[42]⟩ b c q A rs w1 (ascii_of (by decide)) (by decide) h1
  rw [← (h.mark _).1, h4] at hm
  exact hm)
 have HN4 := Lib.hid (fun q (h : Sm rs e q) => h.no h4)
 have HM5 := Lib.hid (fun q w1 (h : Sm rs e q) h1 => show Calls Tryz.prog 74 #[.agg #[.pointer (some ⟨b, 0, none⟩)], .string ⟨#[43]⟩] w1 (ScPost w1 b A c rs (markTo rs e ⟨#[43]⟩) (.bool true)) by
  have hm := mark_sc ⟨#[43]⟩ b c q A rs w1 (ascii_of (by decide)) (by decide) h1
  rw [← (h.mark _).1, h5, ← (h.mark _).2 h5] at hm
  exact hm)
 unfold PP at HAA
 generalize markTo rs e ⟨#[43]⟩ = e9 at *
 clear h hg hx hy hf0 HA h4 h5
 go_enter Tryz.func183, Tryz.ntmps183
 go_wp2_with fail
 refine HAA.out.mono ?_
 generalize ((w.alloc (.cells #[.pointer (some ⟨b, 0, none⟩)] 89)).alloc (.cells #[.int .i64 0, .string ⟨#[]⟩, .slice none 0 0] 62)) = w0 at *
 rintro e w2 ⟨k, i, A2, n2, c2, rfl, hpa, ⟨q', hsm, hs2⟩, hf2⟩
 have hx := HX.out.fr hf2 (fun e => by omega)
 have x2 : w2.cell? ⟨w.heap.size, 0, none⟩ = some (.pointer (some ⟨b, 0, none⟩)) := hx.cell 0
 have HX2 := Lib.hid hx
 have HY2 := Lib.hid (HY.out.fr hf2 (fun e => by omega))
 have HS2 := Lib.hid hs2
 have HF2 := Lib.hid (HF.out.andB hf2)
 have HG2 := Lib.hid (HG.out.frB HS.out.blk (by decide) hf2)
 have hw1 := HY.out.lt
 have hs02 := hf2.size
 have hfa : Fr (fun _ => False) w2 (w2.alloc (.cells #[.int .i64 k, .string i, .slice A2 n2 c2] 62)) := (Fr.refl _ _).alloc _
 have HN3 := Lib.hid (show Blk (w2.alloc (.cells #[.int .i64 k, .string i, .slice A2 n2 c2] 62)) w2.heap.size 62 #[.int .i64 k, .string i, .slice A2 n2 c2] from Blk.new w2 62 #[.int .i64 k, .string i, .slice A2 n2 c2])
 have HPA3 := Lib.hid (hpa.frF hfa)
 have HX3 := Lib.hid (HX2.out.fr hfa (fun h => h))
 have HY3 := Lib.hid (HY2.out.fr hfa (fun h => h))
 have HS3 := Lib.hid (HS2.out.frF hfa)
 have HF3 := Lib.hid (HF2.out.andF hfa)
 have hsg := HG2.out.frF hfa
 have hsz := HY2.out.lt
 have g0 : (w2.alloc (.cells #[.int .i64 k, .string i, .slice A2 n2 c2] 62)).cell? ⟨0, 0, none⟩ = some (.string ⟨#[]⟩) := hsg.cell 0
 have g1 : (w2.alloc (.cells #[.int .i64 k, .string i, .slice A2 n2 c2] 62)).cell? ⟨0, 1, none⟩ = some (.string ⟨#[]⟩) := hsg.cell 1
 have g2 : (w2.alloc (.cells #[.int .i64 k, .string i, .slice A2 n2 c2] 62)).cell? ⟨0, 2, none⟩ = some (.string ⟨#[]⟩) := hsg.cell 2
 have g3 : (w2.alloc (.cells #[.int .i64 k, .string i, .slice A2 n2 c2] 62)).cell? ⟨0, 3, none⟩ = some (.string ⟨#[]⟩) := hsg.cell 3
 have g4 : (w2.alloc (.cells #[.int .i64 k, .string i, .slice A2 n2 c2] 62)).cell? ⟨0, 4, none⟩ = some (.string ⟨#[42]⟩) := hsg.cell 4
 have g5 : (w2.alloc (.cells #[.int .i64 k, .string i, .slice A2 n2 c2] 62)).cell? ⟨0, 5, none⟩ = some (.string ⟨#[43]⟩) := hsg.cell 5
 have g6 : (w2.alloc (.cells #[.int .i64 k, .string i, .slice A2 n2 c2] 62)).cell? ⟨0, 6, none⟩ = some (.string ⟨#[126]⟩) := hsg.cell 6
 have hgl := Blk.lt hsg
 obtain ⟨w3, hw3⟩ : ∃ w3, w3 = w2.alloc (.cells #[.int .i64 k, .string i, .slice A2 n2 c2] 62) := ⟨_, rfl⟩
 rw [← hw3] at HN3 HPA3 HX3 HY3 HS3 HF3
 clear hx hs2 hf2 hpa hfa hsg x0 HX2 HY2 HS2 HF2 HG2 HAA
 go_wp2_with fail
 rw [← hw3]
 clear hw3 g0 g1 g2 g3 g4 g5 g6 hgl x2
 go_loopg [9] (7) (fun gk iv wr => ∃ m : Nat, iv = .int .i64 (m : Int) ∧ 7 ≤ m + gk ∧ m ≤ 5 ∧ (∃ q', Sm rs e q' ∧ Sc wr b A c rs q') ∧ Fr (fun j => j = b) w3 wr)
 case atStart => exact ⟨0, rfl, by omega, by omega, ⟨q', hsm, HS3.out⟩, Fr.refl _ _⟩
 case round =>
  obtain ⟨m, rfl, hgk, hm, ⟨qr, hsmr, hsr⟩, hfr⟩ := hrel
  have HSr := Lib.hid hsr
  have HFr := Lib.hid hfr
  have HSMr := Lib.hid hsmr
  have xr : wr.cell? ⟨w.heap.size, 0, none⟩ = some (.pointer (some ⟨b, 0, none⟩)) := (HX3.out.fr hfr (fun e => by omega)).cell 0
  clear hsr hfr hsmr hsm
  have hk8 : m = 0 ∨ m = 1 ∨ m = 2 ∨ m = 3 ∨ m = 4 ∨ m = 5 := by omega
  clear hm
  rcases hk8 with rfl | rfl | rfl | rfl | rfl | rfl
  · go_wp2_with fail
    go_roundg (7 - 1)
    case measure => omega
    case rel => exact ⟨1, rfl, by omega, by omega, ⟨qr, HSMr.out, HSr.out⟩, HFr.out⟩
  · go_wp2_with fail
    go_roundg (7 - 2)
    case measure => omega
    case rel => exact ⟨2, rfl, by omega, by omega, ⟨qr, HSMr.out, HSr.out⟩, HFr.out⟩
  · go_wp2_with fail
    go_roundg (7 - 3)
    case measure => omega
    case rel => exact ⟨3, rfl, by omega, by omega, ⟨qr, HSMr.out, HSr.out⟩, HFr.out⟩
  · go_wp2_with fail
    go_roundg (7 - 4)
    case measure => omega
    case rel => exact ⟨4, rfl, by omega, by omega, ⟨qr, HSMr.out, HSr.out⟩, HFr.out⟩
  · go_wp2_with fail
    refine (HM4.out qr wr HSMr.out HSr.out).mono ?_
    rintro e w4 ⟨rfl, hs4, hf4⟩
    go_wp2_with fail
    go_roundg (7 - 5)
    case measure => omega
    case rel => exact ⟨5, rfl, by omega, by omega, ⟨_, HN4.out qr HSMr.out, hs4⟩, HFr.out.trans' hf4⟩
  · go_wp2_with fail
    refine (HM5.out qr wr HSMr.out HSr.out).mono ?_
    rintro e w4 ⟨rfl, hs4, hf4⟩
    have hf34 := HFr.out.trans' hf4
    have hfl : Fr (fun _ => False) w4 (w4.alloc (.cells #[.int .i64 k, .string i, .slice A2 n2 c2] 62)) := (Fr.refl _ _).alloc _
    have x4 : w4.cell? ⟨w.heap.size, 0, none⟩ = some (.pointer (some ⟨b, 0, none⟩)) := (HX3.out.fr hf34 (fun e => by omega)).cell 0
    have hn4 := HN3.out.fr hf34 (fun e => by omega)
    have HN4 := Lib.hid hn4
    have HY4 := Lib.hid ((HY3.out.fr hf34 (fun e => by omega)).fr hfl (fun h => h))
    have HS4 := Lib.hid (hs4.frF hfl)
    have HF4 := Lib.hid ((HF3.out.andB hf34).andF hfl)
    have HPA4 := Lib.hid ((HPA3.out.fr hf34 (fun j cs hj hb e => Blk.ne_ hb HS3.out.blk (by decide) e)).frF hfl)
    have hsz4 := hf34.size
    have hwn := HN3.out.lt
    have HROW := Lib.hid (World.ownsRow_lit (base := w0.heap.size) (e := 62) (size := 3) w4 #[.int .i64 k, .string i, .slice A2 n2 c2] 1 (by have := HN3.out.lt; omega) (by decide) rfl)
    clear hs4 hf4 hf34 hfl hn4 xr
    go_wp2_with (first | ((with_reducible change wpList _ _ _ (Oper.mk _ (.load 62 _) _ _ _ _ :: _) _ _); refine wpList_load_blk rfl 62 _ rfl _ rfl 62 #[.int .i64 k, .string i, .slice A2 n2 c2] HN4.out _ Tryz.underlying62 rfl inf62 ?_) | ((with_reducible change wpList _ _ _ (Oper.mk _ (.buildSlice 60 1 _) _ _ _ _ :: _) _ _); refine wpList_lit1 rfl 60 62 _ rfl #[.int .i64 k, .string i, .slice A2 n2 c2] rfl Tryz.underlying60 inf62 zer62 (by decide) (by decide) ?_; rintro _ rfl) | ((with_reducible change wpList _ _ _ (Oper.mk _ (.store 62 _ _) _ _ _ _ :: _) _ _); refine wpList_store_blkH rfl 62 _ _ rfl _ #[.int .i64 5, .string ⟨#[]⟩, .slice (some ⟨w4.heap.size, 0, none⟩) 1 1] rfl rfl 62 _ HY4.out (by rfl) (by exact inf62) (by exact (cells62 _ _ _ _ _).one) ?_))
    refine Lib.hid ?_
    rintro wz hbz hfz
    have HFZ := Lib.hid (HF4.out.andX hfz (by omega)).done
    have HSZ := Lib.hid (HS4.out.fr hfz (fun e => by omega) (fun j hj e => own_blk_ne HS4.out.row HY4.out (by decide) (by rw [hj, e])))
    go_wp2_with fail
    exact bodyPost_ret (v := .agg #[.int .i64 5, .string ⟨#[]⟩, .slice (some ⟨w4.heap.size, 0, none⟩) 1 1]) (results_cell_row rfl _ _ (w.heap.size + 1) 62 _ (0, 0) _ rfl hbz Tryz.underlying62 rfl inf62) rfl ⟨_, _, _, _, _, rfl, (((HPA4.out.oneP 5 HROW.out).frB2 HY4.out hfz (by omega)).base (by omega)), ⟨_, rfl, HSZ.out⟩, HFZ.out⟩
theorem pstep_6 (t : PT) (rs : List Int) (p' e b c : Nat) (A : Option Addr) (w : World) (hg : Sg w) (h : Sc w b A c rs p') (HA : ∀ w1, Sg w1 → Sc w1 b A c rs p' → Calls Tryz.prog 201 #[.agg #[.pointer (some ⟨b, 0, none⟩)]] w1 (PP rs e t w1 b A c)) (h4 : markAt rs e ⟨#[42]⟩ = false) (h5 : markAt rs e ⟨#[43]⟩ = false) (h6 : markAt rs e ⟨#[126]⟩ = true) :
    Calls Tryz.prog 183 #[.agg #[.pointer (some ⟨b, 0, none⟩)]] w (PP rs (markTo rs e ⟨#[126]⟩) (.node 6 [t]) w b A c) := by
 have hx := Blk.new w 89 #[.pointer (some ⟨b, 0, none⟩)]
 have hy := Blk.new (w.alloc (.cells #[.pointer (some ⟨b, 0, none⟩)] 89)) 62 #[.int .i64 0, .string ⟨#[]⟩, .slice none 0 0]
 rw [show (w.alloc (.cells #[.pointer (some ⟨b, 0, none⟩)] 89)).heap.size = w.heap.size + 1 by simp] at hy
 have HX := Lib.hid (show Blk ((w.alloc (.cells #[.pointer (some ⟨b, 0, none⟩)] 89)).alloc (.cells #[.int .i64 0, .string ⟨#[]⟩, .slice none 0 0] 62)) w.heap.size 89 #[.pointer (some ⟨b, 0, none⟩)] from hx.alloc _)
 have HY := Lib.hid (show Blk ((w.alloc (.cells #[.pointer (some ⟨b, 0, none⟩)] 89)).alloc (.cells #[.int .i64 0, .string ⟨#[]⟩, .slice none 0 0] 62)) (w.heap.size + 1) 62 Z62 from hy)
 have hf0 : Fr (fun _ => False) w ((w.alloc (.cells #[.pointer (some ⟨b, 0, none⟩)] 89)).alloc (.cells #[.int .i64 0, .string ⟨#[]⟩, .slice none 0 0] 62)) := ((Fr.refl _ _).alloc _).alloc _
 have HF := Lib.hid (FrN.of (b := b) hf0)
 have HS := Lib.hid (h.frF hf0)
 have HG := Lib.hid (hg.frF hf0)
 have x0 : ((w.alloc (.cells #[.pointer (some ⟨b, 0, none⟩)] 89)).alloc (.cells #[.int .i64 0, .string ⟨#[]⟩, .slice none 0 0] 62)).cell? ⟨w.heap.size, 0, none⟩ = some (.pointer (some ⟨b, 0, none⟩)) := HX.out.cell 0
 have hbl := h.blk.lt
 have HAA := Lib.hid (HA _ HG.out HS.out)
 have HM4 := Lib.hid (fun q w1 (h : Sm rs e q) h1 => show Calls Tryz.prog 74 #[.agg #[.pointer (some ⟨b, 0, none⟩)], .string ⟨#[42]⟩] w1 (ScPost w1 b A c rs (markTo rs q ⟨#[42]⟩) (.bool false)) by
  have hm := mark_sc ⟨#[42]⟩ b c q A rs w1 (ascii_of (by decide)) (by decide) h1
  rw [← (h.mark _).1, h4] at hm
  exact hm)
 have HN4 := Lib.hid (fun q (h : Sm rs e q) => h.no h4)
 have HM5 := Lib.hid (fun q w1 (h : Sm rs e q) h1 => show Calls Tryz.prog 74 #[.agg #[.pointer (some ⟨b, 0, none⟩)], .string ⟨#[43]⟩] w1 (ScPost w1 b A c rs (markTo rs q ⟨#[43]⟩) (.bool false)) by
  have hm := mark_sc ⟨#[43]⟩ b c q A rs w1 (ascii_of (by decide)) (by decide) h1
  rw [← (h.mark _).1, h5] at hm
  exact hm)
 have HN5 := Lib.hid (fun q (h : Sm rs e q) => h.no h5)
 have HM6 := Lib.hid (fun q w1 (h : Sm rs e q) h1 => show Calls Tryz.prog 74 #[.agg #[.pointer (some ⟨b, 0, none⟩)], .string ⟨#[126]⟩] w1 (ScPost w1 b A c rs (markTo rs e ⟨#[126]⟩) (.bool true)) by
  have hm := mark_sc ⟨#[126]⟩ b c q A rs w1 (ascii_of (by decide)) (by decide) h1
  rw [← (h.mark _).1, h6, ← (h.mark _).2 h6] at hm
  exact hm)
 unfold PP at HAA
 generalize markTo rs e ⟨#[126]⟩ = e9 at *
 clear h hg hx hy hf0 HA h4 h5 h6
 go_enter Tryz.func183, Tryz.ntmps183
 go_wp2_with fail
 refine HAA.out.mono ?_
 generalize ((w.alloc (.cells #[.pointer (some ⟨b, 0, none⟩)] 89)).alloc (.cells #[.int .i64 0, .string ⟨#[]⟩, .slice none 0 0] 62)) = w0 at *
 rintro e w2 ⟨k, i, A2, n2, c2, rfl, hpa, ⟨q', hsm, hs2⟩, hf2⟩
 have hx := HX.out.fr hf2 (fun e => by omega)
 have x2 : w2.cell? ⟨w.heap.size, 0, none⟩ = some (.pointer (some ⟨b, 0, none⟩)) := hx.cell 0
 have HX2 := Lib.hid hx
 have HY2 := Lib.hid (HY.out.fr hf2 (fun e => by omega))
 have HS2 := Lib.hid hs2
 have HF2 := Lib.hid (HF.out.andB hf2)
 have HG2 := Lib.hid (HG.out.frB HS.out.blk (by decide) hf2)
 have hw1 := HY.out.lt
 have hs02 := hf2.size
 have hfa : Fr (fun _ => False) w2 (w2.alloc (.cells #[.int .i64 k, .string i, .slice A2 n2 c2] 62)) := (Fr.refl _ _).alloc _
 have HN3 := Lib.hid (show Blk (w2.alloc (.cells #[.int .i64 k, .string i, .slice A2 n2 c2] 62)) w2.heap.size 62 #[.int .i64 k, .string i, .slice A2 n2 c2] from Blk.new w2 62 #[.int .i64 k, .string i, .slice A2 n2 c2])
 have HPA3 := Lib.hid (hpa.frF hfa)
 have HX3 := Lib.hid (HX2.out.fr hfa (fun h => h))
 have HY3 := Lib.hid (HY2.out.fr hfa (fun h => h))
 have HS3 := Lib.hid (HS2.out.frF hfa)
 have HF3 := Lib.hid (HF2.out.andF hfa)
 have hsg := HG2.out.frF hfa
 have hsz := HY2.out.lt
 have g0 : (w2.alloc (.cells #[.int .i64 k, .string i, .slice A2 n2 c2] 62)).cell? ⟨0, 0, none⟩ = some (.string ⟨#[]⟩) := hsg.cell 0
 have g1 : (w2.alloc (.cells #[.int .i64 k, .string i, .slice A2 n2 c2] 62)).cell? ⟨0, 1, none⟩ = some (.string ⟨#[]⟩) := hsg.cell 1
 have g2 : (w2.alloc (.cells #[.int .i64 k, .string i, .slice A2 n2 c2] 62)).cell? ⟨0, 2, none⟩ = some (.string ⟨#[]⟩) := hsg.cell 2
 have g3 : (w2.alloc (.cells #[.int .i64 k, .string i, .slice A2 n2 c2] 62)).cell? ⟨0, 3, none⟩ = some (.string ⟨#[]⟩) := hsg.cell 3
 have g4 : (w2.alloc (.cells #[.int .i64 k, .string i, .slice A2 n2 c2] 62)).cell? ⟨0, 4, none⟩ = some (.string ⟨#[42]⟩) := hsg.cell 4
 have g5 : (w2.alloc (.cells #[.int .i64 k, .string i, .slice A2 n2 c2] 62)).cell? ⟨0, 5, none⟩ = some (.string ⟨#[43]⟩) := hsg.cell 5
 have g6 : (w2.alloc (.cells #[.int .i64 k, .string i, .slice A2 n2 c2] 62)).cell? ⟨0, 6, none⟩ = some (.string ⟨#[126]⟩) := hsg.cell 6
 have hgl := Blk.lt hsg
 obtain ⟨w3, hw3⟩ : ∃ w3, w3 = w2.alloc (.cells #[.int .i64 k, .string i, .slice A2 n2 c2] 62) := ⟨_, rfl⟩
 rw [← hw3] at HN3 HPA3 HX3 HY3 HS3 HF3
 clear hx hs2 hf2 hpa hfa hsg x0 HX2 HY2 HS2 HF2 HG2 HAA
 go_wp2_with fail
 rw [← hw3]
 clear hw3 g0 g1 g2 g3 g4 g5 g6 hgl x2
 go_loopg [9] (7) (fun gk iv wr => ∃ m : Nat, iv = .int .i64 (m : Int) ∧ 7 ≤ m + gk ∧ m ≤ 6 ∧ (∃ q', Sm rs e q' ∧ Sc wr b A c rs q') ∧ Fr (fun j => j = b) w3 wr)
 case atStart => exact ⟨0, rfl, by omega, by omega, ⟨q', hsm, HS3.out⟩, Fr.refl _ _⟩
 case round =>
  obtain ⟨m, rfl, hgk, hm, ⟨qr, hsmr, hsr⟩, hfr⟩ := hrel
  have HSr := Lib.hid hsr
  have HFr := Lib.hid hfr
  have HSMr := Lib.hid hsmr
  have xr : wr.cell? ⟨w.heap.size, 0, none⟩ = some (.pointer (some ⟨b, 0, none⟩)) := (HX3.out.fr hfr (fun e => by omega)).cell 0
  clear hsr hfr hsmr hsm
  have hk8 : m = 0 ∨ m = 1 ∨ m = 2 ∨ m = 3 ∨ m = 4 ∨ m = 5 ∨ m = 6 := by omega
  clear hm
  rcases hk8 with rfl | rfl | rfl | rfl | rfl | rfl | rfl
  · go_wp2_with fail
    go_roundg (7 - 1)
    case measure => omega
    case rel => exact ⟨1, rfl, by omega, by omega, ⟨qr, HSMr.out, HSr.out⟩, HFr.out⟩
  · go_wp2_with fail
    go_roundg (7 - 2)
    case measure => omega
    case rel => exact ⟨2, rfl, by omega, by omega, ⟨qr, HSMr.out, HSr.out⟩, HFr.out⟩
  · go_wp2_with fail
    go_roundg (7 - 3)
    case measure => omega
    case rel => exact ⟨3, rfl, by omega, by omega, ⟨qr, HSMr.out, HSr.out⟩, HFr.out⟩
  · go_wp2_with fail
    go_roundg (7 - 4)
    case measure => omega
    case rel => exact ⟨4, rfl, by omega, by omega, ⟨qr, HSMr.out, HSr.out⟩, HFr.out⟩
  · go_wp2_with fail
    refine (HM4.out qr wr HSMr.out HSr.out).mono ?_
    rintro e w4 ⟨rfl, hs4, hf4⟩
    go_wp2_with fail
    go_roundg (7 - 5)
    case measure => omega
    case rel => exact ⟨5, rfl, by omega, by omega, ⟨_, HN4.out qr HSMr.out, hs4⟩, HFr.out.trans' hf4⟩
  · go_wp2_with fail
    refine (HM5.out qr wr HSMr.out HSr.out).mono ?_
    rintro e w4 ⟨rfl, hs4, hf4⟩
    go_wp2_with fail
    go_roundg (7 - 6)
    case measure => omega
    case rel => exact ⟨6, rfl, by omega, by omega, ⟨_, HN5.out qr HSMr.out, hs4⟩, HFr.out.trans' hf4⟩
  · go_wp2_with fail
    refine (HM6.out qr wr HSMr.out HSr.out).mono ?_
    rintro e w4 ⟨rfl, hs4, hf4⟩
    have hf34 := HFr.out.trans' hf4
    have hfl : Fr (fun _ => False) w4 (w4.alloc (.cells #[.int .i64 k, .string i, .slice A2 n2 c2] 62)) := (Fr.refl _ _).alloc _
    have x4 : w4.cell? ⟨w.heap.size, 0, none⟩ = some (.pointer (some ⟨b, 0, none⟩)) := (HX3.out.fr hf34 (fun e => by omega)).cell 0
    have hn4 := HN3.out.fr hf34 (fun e => by omega)
    have HN4 := Lib.hid hn4
    have HY4 := Lib.hid ((HY3.out.fr hf34 (fun e => by omega)).fr hfl (fun h => h))
    have HS4 := Lib.hid (hs4.frF hfl)
    have HF4 := Lib.hid ((HF3.out.andB hf34).andF hfl)
    have HPA4 := Lib.hid ((HPA3.out.fr hf34 (fun j cs hj hb e => Blk.ne_ hb HS3.out.blk (by decide) e)).frF hfl)
    have hsz4 := hf34.size
    have hwn := HN3.out.lt
    have HROW := Lib.hid (World.ownsRow_lit (base := w0.heap.size) (e := 62) (size := 3) w4 #[.int .i64 k, .string i, .slice A2 n2 c2] 1 (by have := HN3.out.lt; omega) (by decide) rfl)
    clear hs4 hf4 hf34 hfl hn4 xr
    go_wp2_with (first | ((with_reducible change wpList _ _ _ (Oper.mk _ (.load 62 _) _ _ _ _ :: _) _ _); refine wpList_load_blk rfl 62 _ rfl _ rfl 62 #[.int .i64 k, .string i, .slice A2 n2 c2] HN4.out _ Tryz.underlying62 rfl inf62 ?_) | ((with_reducible change wpList _ _ _ (Oper.mk _ (.buildSlice 60 1 _) _ _ _ _ :: _) _ _); refine wpList_lit1 rfl 60 62 _ rfl #[.int .i64 k, .string i, .slice A2 n2 c2] rfl Tryz.underlying60 inf62 zer62 (by decide) (by decide) ?_; rintro _ rfl) | ((with_reducible change wpList _ _ _ (Oper.mk _ (.store 62 _ _) _ _ _ _ :: _) _ _); refine wpList_store_blkH rfl 62 _ _ rfl _ #[.int .i64 6, .string ⟨#[]⟩, .slice (some ⟨w4.heap.size, 0, none⟩) 1 1] rfl rfl 62 _ HY4.out (by rfl) (by exact inf62) (by exact (cells62 _ _ _ _ _).one) ?_))
    refine Lib.hid ?_
    rintro wz hbz hfz
    have HFZ := Lib.hid (HF4.out.andX hfz (by omega)).done
    have HSZ := Lib.hid (HS4.out.fr hfz (fun e => by omega) (fun j hj e => own_blk_ne HS4.out.row HY4.out (by decide) (by rw [hj, e])))
    go_wp2_with fail
    exact bodyPost_ret (v := .agg #[.int .i64 6, .string ⟨#[]⟩, .slice (some ⟨w4.heap.size, 0, none⟩) 1 1]) (results_cell_row rfl _ _ (w.heap.size + 1) 62 _ (0, 0) _ rfl hbz Tryz.underlying62 rfl inf62) rfl ⟨_, _, _, _, _, rfl, (((HPA4.out.oneP 6 HROW.out).frB2 HY4.out hfz (by omega)).base (by omega)), ⟨_, rfl, HSZ.out⟩, HFZ.out⟩
theorem pstep (P : Nat → PT → Nat → Nat → Prop) (rs : List Int) (hw : wt rs ≤ 4000) (HR : RowOk rs P) (p : Nat) (t : PT) (e d : Nat) (hA : StepP rs P p t e d) (p' b c : Nat) (A : Option Addr) (w : World) (hp : Sm rs p p') (hg : Sg w) (h : Sc w b A c rs p') :
    Calls Tryz.prog 183 #[.agg #[.pointer (some ⟨b, 0, none⟩)]] w (PP rs e t w b A c) := by
 cases hA with
 | plain _ _ _ h1 h2 =>
  rcases often_cases rs e with ⟨_, a, b', c'⟩ | ⟨h3, _⟩ | ⟨h3, _⟩ | ⟨h3, _⟩
  · exact pstep_0 t rs p' e b c A w hg h (fun w1 h4 h5 => patom P rs hw HR p t e d h1 p' b c A w1 hp h4 h5) a b' c'
  all_goals (rw [h3] at h2; cases h2)
 | often t0 e0 d0 h1 h2 =>
  rcases often_cases rs e0 with ⟨h3, _⟩ | ⟨h3, a⟩ | ⟨h3, a, b'⟩ | ⟨h3, a, b', c'⟩
  · exact absurd h3 h2
  · rw [h3]
    exact pstep_4 t0 rs p' e0 b c A w hg h (fun w1 h4 h5 => patom P rs hw HR p t0 e0 d0 h1 p' b c A w1 hp h4 h5) a
  · rw [h3]
    exact pstep_5 t0 rs p' e0 b c A w hg h (fun w1 h4 h5 => patom P rs hw HR p t0 e0 d0 h1 p' b c A w1 hp h4 h5) a b'
  · rw [h3]
    exact pstep_6 t0 rs p' e0 b c A w hg h (fun w1 h4 h5 => patom P rs hw HR p t0 e0 d0 h1 p' b c A w1 hp h4 h5) a b' c'

theorem PartsQ.first2 {w w' : World} {B B0 : Nat} {t : PT} {a b d : Value} (h : PAt 62 w B0 t [a, b, d]) (hB : B ≤ w.heap.size) (hB0 : B ≤ B0) (hl : Blk w' w.heap.size 62 #[a, b, d]) (hf : Fr (fun _ => False) w w') : PartsQ w' B (.slice (some ⟨w.heap.size, 0, none⟩) 1 1) [t] [[a, b, d]] := by
 refine ⟨rfl, fun i t' l h1 h2 => ?_, ?_⟩
 · cases i with
   | zero =>
    injection h1 with h1
    injection h2 with h2
    rw [← h1, ← h2]
    exact (h.toB.imp (S' := fun j => B ≤ j ∧ (Value.slice (some ⟨w.heap.size, 0, none⟩) 1 1).ownBlock ≠ some j) (fun j hj hb => ⟨by omega, fun e => by injection e with e; have e : w.heap.size = j := e; omega⟩)).fr hf (fun _ _ h => h)
   | succ i => cases h1
 · exact ⟨rfl, .inr ⟨w.heap.size, 1, #[a, b, d], rfl, hB, hl, Nat.le_refl _, by unfold maxLen; omega, rfl, by simp⟩⟩
theorem pseq (One : Nat → PT → Nat → Nat → Prop) (rs : List Int) (p : Nat) (t : PT) (e d : Nat) (hSP : SepP rs 47 2 One p t e d) (hlen : ∀ ts d', RunP rs 47 One p ts e d' → ts.length ≤ 5000) (p' b c : Nat) (A : Option Addr) (w : World) (hp : Sm rs p p') (hg : Sg w) (h : Sc w b A c rs p')
    (HO : ∀ p t e d, One p t e d → ∀ (p' : Nat) (w1 : World),  Sm rs p p' → Sg w1 → Sc w1 b A c rs p' → Calls Tryz.prog 183 #[.agg #[.pointer (some ⟨b, 0, none⟩)]] w1 (PP rs e t w1 b A c)) :
    Calls Tryz.prog 181 #[.agg #[.pointer (some ⟨b, 0, none⟩)], .int .i64 2, .string ⟨#[47]⟩, .func (.func 183) #[.agg #[.pointer (some ⟨b, 0, none⟩)]] #[]] w (PP rs e t w b A c) := by
 have hx := Blk.new w 89 #[.pointer (some ⟨b, 0, none⟩)]
 have hy := Blk.new (w.alloc (.cells #[.pointer (some ⟨b, 0, none⟩)] 89)) 62 #[.int .i64 0, .string ⟨#[]⟩, .slice none 0 0]
 rw [show (w.alloc (.cells #[.pointer (some ⟨b, 0, none⟩)] 89)).heap.size = w.heap.size + 1 by simp] at hy
 have HX := Lib.hid (show Blk ((w.alloc (.cells #[.pointer (some ⟨b, 0, none⟩)] 89)).alloc (.cells #[.int .i64 0, .string ⟨#[]⟩, .slice none 0 0] 62)) w.heap.size 89 #[.pointer (some ⟨b, 0, none⟩)] from hx.alloc _)
 have HY := Lib.hid (show Blk ((w.alloc (.cells #[.pointer (some ⟨b, 0, none⟩)] 89)).alloc (.cells #[.int .i64 0, .string ⟨#[]⟩, .slice none 0 0] 62)) (w.heap.size + 1) 62 Z62 from hy)
 have hf0 : Fr (fun _ => False) w ((w.alloc (.cells #[.pointer (some ⟨b, 0, none⟩)] 89)).alloc (.cells #[.int .i64 0, .string ⟨#[]⟩, .slice none 0 0] 62)) := ((Fr.refl _ _).alloc _).alloc _
 have HF := Lib.hid (FrN.of (b := b) hf0)
 have HS := Lib.hid (h.frF hf0)
 have HG := Lib.hid (hg.frF hf0)
 have x0 : ((w.alloc (.cells #[.pointer (some ⟨b, 0, none⟩)] 89)).alloc (.cells #[.int .i64 0, .string ⟨#[]⟩, .slice none 0 0] 62)).cell? ⟨w.heap.size, 0, none⟩ = some (.pointer (some ⟨b, 0, none⟩)) := HX.out.cell 0
 have hbl := h.blk.lt
 obtain ⟨ts, d', hR, hno, hts⟩ : ∃ ts d', RunP rs 47 One p ts e d' ∧ markAt rs e ⟨#[47]⟩ = false ∧ ((ts = [t]) ∨ (2 ≤ ts.length ∧ t = .node 2 ts)) := by
  cases hSP with
  | one _ _ _ h h2 => exact ⟨_, _, h, h2, .inl rfl⟩
  | many ts _ d0 h h1 h2 => exact ⟨ts, d0, h, h2, .inr ⟨h1, rfl⟩⟩
 have hl5 := hlen ts d' hR
 obtain ⟨t0, ts', e0, d0, hts0, hOne, hRest⟩ := hR.rest
 have HO1 := Lib.hid (HO p t0 e0 d0 hOne p' _  hp HG.out HS.out)
 have HOO := Lib.hid HO
 have HMT := Lib.hid (fun q e1 w1 (h : Sm rs e1 q) (hm : markAt rs e1 ⟨#[47]⟩ = true) h1 => show Calls Tryz.prog 74 #[.agg #[.pointer (some ⟨b, 0, none⟩)], .string ⟨#[47]⟩] w1 (ScPost w1 b A c rs (markTo rs e1 ⟨#[47]⟩) (.bool true)) by
  have hmm := mark_sc ⟨#[47]⟩ b c q A rs w1 (ascii_of (by decide)) (by decide) h1
  rw [← (h.mark _).1, hm, ← (h.mark _).2 hm] at hmm
  exact hmm)
 have HMF := Lib.hid (fun q w1 (h : Sm rs e q) h1 => show Calls Tryz.prog 74 #[.agg #[.pointer (some ⟨b, 0, none⟩)], .string ⟨#[47]⟩] w1 (ScPost w1 b A c rs (markTo rs q ⟨#[47]⟩) (.bool false)) by
  have hmm := mark_sc ⟨#[47]⟩ b c q A rs w1 (ascii_of (by decide)) (by decide) h1
  rw [← (h.mark _).1, hno] at hmm
  exact hmm)
 have HNO := Lib.hid (fun q (h : Sm rs e q) => h.no hno)
 have HTS := Lib.hid hts
 have HTS0 := Lib.hid hts0
 have HRE := Lib.hid hRest
 have HRR := Lib.hid (fun j (hj : (Value.slice A rs.length c).ownBlock = some j) => own_lt h.row hj)
 have hsg0 := Blk.lt hg
 unfold PP at HO1 HOO
 clear h hg hx hy hf0 hSP hlen hR hno hts hOne hRest HO hp hts0
 go_enter Tryz.func181, Tryz.ntmps181
 go_wp2_with fail
 refine HO1.out.mono ?_
 rintro e w1 ⟨k, i, A2, n2, c2, rfl, hpa, ⟨q', hsm, hs1⟩, hf1⟩
 generalize ((w.alloc (.cells #[.pointer (some ⟨b, 0, none⟩)] 89)).alloc (.cells #[.int .i64 0, .string ⟨#[]⟩, .slice none 0 0] 62)) = w0 at *
 have hx := HX.out.fr hf1 (fun e => by omega)
 have x1 : w1.cell? ⟨w.heap.size, 0, none⟩ = some (.pointer (some ⟨b, 0, none⟩)) := hx.cell 0
 have HX1 := Lib.hid hx
 have HY1 := Lib.hid (HY.out.fr hf1 (fun e => by omega))
 have HS1 := Lib.hid hs1
 have HF1 := Lib.hid (HF.out.andB hf1)
 have HG1 := Lib.hid (HG.out.frB HS.out.blk (by decide) hf1)
 have hw0 := HY.out.lt
 have hs01 := hf1.size
 clear hx hs1 hf1 x0 HO1
 go_wp2_with ((with_reducible change wpList _ _ _ (Oper.mk _ (.buildSlice 60 1 _) _ _ _ _ :: _) _ _); refine wpList_lit1H rfl 60 62 _ rfl #[.int .i64 k, .string i, .slice A2 n2 c2] rfl Tryz.underlying60 inf62 zer62 (by exact Nat.le_of_ble_eq_true rfl) (by exact Nat.le_of_ble_eq_true rfl) ?_)
 refine Lib.hid ?_
 rintro w2 hl2 hf2
 have HL2 := Lib.hid hl2
 have HX2 := Lib.hid (HX1.out.fr hf2 (fun h => h))
 have HY2 := Lib.hid (HY1.out.fr hf2 (fun h => h))
 have HS2 := Lib.hid (HS1.out.frF hf2)
 have HF2 := Lib.hid (HF1.out.andF hf2)
 have HG2 := Lib.hid (HG1.out.frF hf2)
 have HPA2 := Lib.hid ((hpa.frF hf2).base (B' := w.heap.size + 2) (by omega))
 have HPQ2 := Lib.hid (PartsQ.first2 hpa (B := w.heap.size + 2) (by omega) (by omega) hl2 hf2)
 clear hl2 hf2 hpa HX1 HY1 HS1 HF1 HG1 x1
 go_wp2_with fail
 go_loopg [9] (ts'.length) (fun gk v wr => ∃ (A3 : Option Addr) (c3 e3 : Nat) (done rest : List PT) (L : List (List Value)), v = .slice A3 done.length c3 ∧ done ++ rest = ts ∧ rest.length ≤ 0 + gk ∧ 1 ≤ done.length ∧ Rest rs 47 One e3 rest e ∧ PartsQ wr (w.heap.size + 2) (.slice A3 done.length c3) done L ∧ (done.length = 1 → A3 = some ⟨w1.heap.size, 0, none⟩ ∧ Blk wr w1.heap.size 62 #[.int .i64 k, .string i, .slice A2 n2 c2] ∧ PAt 62 wr (w.heap.size + 2) t0 [.int .i64 k, .string i, .slice A2 n2 c2]) ∧ (∃ q', Sm rs e3 q' ∧ Sc wr b A c rs q') ∧ FrN b w wr ∧ Blk wr w.heap.size 89 #[.pointer (some ⟨b, 0, none⟩)] ∧ Blk wr (w.heap.size + 1) 62 Z62 ∧ Sg wr)
 case atStart => exact ⟨_, _, e0, [t0], ts', _, rfl, HTS0.out.symm, by omega, Nat.le_refl _, HRE.out, HPQ2.out, fun _ => ⟨rfl, HL2.out, HPA2.out⟩, ⟨q', hsm, HS2.out⟩, HF2.out, HX2.out, HY2.out, HG2.out⟩
 case round =>
  clear HX2 HY2 HS2 HF2 HG2 HPA2 HPQ2 HL2 HRE hsm
  obtain ⟨A3, c3, e3, done, rest, L, rfl, hdr, hgk, hd1, hrest, hpq, hfirst, ⟨q3, hsm3, hs3⟩, hf3, hx3, hy3, hg3⟩ := hrel
  have HX3 := Lib.hid hx3
  have HY3 := Lib.hid hy3
  have HG3 := Lib.hid hg3
  have HF3 := Lib.hid hf3
  have HS3 := Lib.hid hs3
  have HPQ3 := Lib.hid hpq
  have HFI3 := Lib.hid hfirst
  have HDR := Lib.hid hdr
  have HSM3 := Lib.hid hsm3
  have x3 : wr.cell? ⟨w.heap.size, 0, none⟩ = some (.pointer (some ⟨b, 0, none⟩)) := hx3.cell 0
  have hyl := hy3.lt
  have hlen3 : done.length ≤ 5000 := by
   have := congrArg List.length hdr
   rw [List.length_append] at this
   omega
  clear hx3 hy3 hg3 hf3 hs3 hpq hfirst hsm3 hdr
  cases hrest with
  | nil _ =>
   go_wp2_with fail
   refine (HMF.out q3 wr HSM3.out HS3.out).mono ?_
   rintro e w4 ⟨rfl, hs4, hf4⟩
   have hx := HX3.out.fr hf4 (fun e => by omega)
   have x4 : w4.cell? ⟨w.heap.size, 0, none⟩ = some (.pointer (some ⟨b, 0, none⟩)) := hx.cell 0
   have HX4 := Lib.hid hx
   have HY4 := Lib.hid (HY3.out.fr hf4 (fun e => by omega))
   have HS4 := Lib.hid hs4
   have HF4 := Lib.hid (HF3.out.andB hf4)
   have HG4 := Lib.hid (HG3.out.frB HS3.out.blk (by decide) hf4)
   have HSM4 := Lib.hid (HNO.out q3 HSM3.out)
   have HPQ4 := Lib.hid (HPQ3.out.frB HS3.out.blk (by decide) (by omega) hf4)
   have hd0 : done = ts := by
    have := HDR.out
    rw [List.append_nil] at this
    exact this
   have HD0 := Lib.hid hd0
   have hbw : b < w1.heap.size := by omega
   have HFI4 := Lib.hid (fun h1 => show A3 = some ⟨w1.heap.size, 0, none⟩ ∧ Blk w4 w1.heap.size 62 #[.int .i64 k, .string i, .slice A2 n2 c2] ∧ PAt 62 w4 (w.heap.size + 2) t0 [.int .i64 k, .string i, .slice A2 n2 c2] from ⟨(HFI3.out h1).1, (HFI3.out h1).2.1.fr hf4 (fun e => by omega), (HFI3.out h1).2.2.fr hf4 (fun j _ hj _ e => by omega)⟩)
   clear hx hs4 hf4 x3 hd0 HMT HMF HOO
   rcases HTS.out with h1 | ⟨h1, h2⟩
   · have hdl : done.length = 1 := by rw [HD0.out, h1]; rfl
     obtain ⟨rfl, hb4, hpa4⟩ := HFI4.out hdl
     have htt : t0 = t := by
      have h3 := HTS0.out
      rw [h1] at h3
      injection h3 with h3
      exact h3.symm
     subst htt
     have HB4 := Lib.hid hb4
     have HPA4 := Lib.hid hpa4
     clear hb4 hpa4
     rw [hdl]
     have HPT := Lib.hid (fun wz (hfz : Fr (fun j => j = w.heap.size + 1) w4 wz) => (HPA4.out.frN (by omega) hfz).base (B' := w.heap.size) (by omega))
     go_wp2_with (first | ((with_reducible change wpList _ _ _ (Oper.mk _ (.load 62 _) _ _ _ _ :: _) _ _); refine wpList_load_blk rfl 62 _ rfl _ rfl 62 #[.int .i64 k, .string i, .slice A2 n2 c2] HB4.out _ Tryz.underlying62 rfl inf62 ?_) | ((with_reducible change wpList _ _ _ (Oper.mk _ (.store 62 _ _) _ _ _ _ :: _) _ _); refine wpList_store_blkH rfl 62 _ _ rfl _ #[.int .i64 k, .string i, .slice A2 n2 c2] rfl rfl 62 _ HY4.out (by rfl) (by exact inf62) (by exact (cells62 _ _ _ _ _).one) ?_))
     refine Lib.hid ?_
     rintro wz hbz hfz
     have HFZ := Lib.hid (HF4.out.andX hfz (by omega)).done
     have HSZ := Lib.hid (HS4.out.fr hfz (fun e => by omega) (fun j hj e => own_blk_ne HS4.out.row HY4.out (by decide) (by rw [hj, e])))
     go_wp2_with fail
     exact bodyPost_ret (v := .agg #[.int .i64 k, .string i, .slice A2 n2 c2]) (results_cell_row rfl _ _ (w.heap.size + 1) 62 _ (0, 0) _ rfl hbz Tryz.underlying62 rfl inf62) rfl ⟨_, _, _, _, _, rfl, HPT.out wz hfz, ⟨_, HSM4.out, HSZ.out⟩, HFZ.out⟩
   · have hdl : 2 ≤ done.length := by rw [HD0.out]; exact h1
     have hb1 : ((done.length : Int) == 1) = false := by simp; omega
     have HPT := Lib.hid (fun wz (hfz : Fr (fun j => j = w.heap.size + 1) w4 wz) => show PAt 62 wz w.heap.size t [.int .i64 2, .string ⟨#[]⟩, .slice A3 done.length c3] by
      have h3 := ((HPQ4.out.node 2).frN (by omega) hfz).base (B' := w.heap.size) (by omega)
      rw [HD0.out] at h3 ⊢
      rw [h2]
      exact h3)
     go_wp2_with ((with_reducible change wpList _ _ _ (Oper.mk _ (.store 62 _ _) _ _ _ _ :: _) _ _); refine wpList_store_blkH rfl 62 _ _ rfl _ #[.int .i64 2, .string ⟨#[]⟩, .slice A3 done.length c3] rfl rfl 62 _ HY4.out (by rfl) (by exact inf62) (by exact (cells62 _ _ _ _ _).one) ?_)
     refine Lib.hid ?_
     rintro wz hbz hfz
     have HFZ := Lib.hid (HF4.out.andX hfz (by omega)).done
     have HSZ := Lib.hid (HS4.out.fr hfz (fun e => by omega) (fun j hj e => own_blk_ne HS4.out.row HY4.out (by decide) (by rw [hj, e])))
     go_wp2_with fail
     exact bodyPost_ret (v := .agg #[.int .i64 2, .string ⟨#[]⟩, .slice A3 done.length c3]) (results_cell_row rfl _ _ (w.heap.size + 1) 62 _ (0, 0) _ rfl hbz Tryz.underlying62 rfl inf62) rfl ⟨_, _, _, _, _, rfl, HPT.out wz hfz, ⟨_, HSM4.out, HSZ.out⟩, HFZ.out⟩
  | cons _ e1 _ d1 t1 rest' h1 h2 h3 =>
   have HO4 := Lib.hid (fun w1  hg h => HOO.out _ t1 e1 d1 h2 (markTo rs e3 ⟨#[47]⟩) w1  rfl hg h)
   have HR3 := Lib.hid h3
   have hm1 : markAt rs e3 ⟨#[47]⟩ = true := h1
   have HM4 := Lib.hid (HMT.out q3 e3 wr HSM3.out hm1 HS3.out)
   generalize markTo rs e3 ⟨#[47]⟩ = p4 at *
   clear h1 h2 h3 hm1 HMF
   go_wp2_with fail
   refine HM4.out.mono ?_
   rintro e w4 ⟨rfl, hs4, hf4⟩
   have hx := HX3.out.fr hf4 (fun e => by omega)
   have x4 : w4.cell? ⟨w.heap.size, 0, none⟩ = some (.pointer (some ⟨b, 0, none⟩)) := hx.cell 0
   have HX4 := Lib.hid hx
   have HY4 := Lib.hid (HY3.out.fr hf4 (fun e => by omega))
   have HS4 := Lib.hid hs4
   have HF4 := Lib.hid (HF3.out.andB hf4)
   have HG4 := Lib.hid (HG3.out.frB HS3.out.blk (by decide) hf4)
   have HPQ4 := Lib.hid (HPQ3.out.frB HS3.out.blk (by decide) (by omega) hf4)
   clear hx hs4 hf4 x3 x4
   go_wp2_with fail
   refine (HO4.out w4  HG4.out HS4.out).mono ?_
   rintro e w5 ⟨k5, i5, A5, n5, c5, rfl, hpa5, ⟨q5, hsm5, hs5⟩, hf5⟩
   have hx := HX4.out.fr hf5 (fun e => by omega)
   have x5 : w5.cell? ⟨w.heap.size, 0, none⟩ = some (.pointer (some ⟨b, 0, none⟩)) := hx.cell 0
   have HX5 := Lib.hid hx
   have HY5 := Lib.hid (HY4.out.fr hf5 (fun e => by omega))
   have HS5 := Lib.hid hs5
   have HF5 := Lib.hid (HF4.out.andB hf5)
   have HG5 := Lib.hid (HG4.out.frB HS4.out.blk (by decide) hf5)
   have HPQ5 := Lib.hid (HPQ4.out.frB HS4.out.blk (by decide) (by omega) hf5)
   have HPA5 := Lib.hid hpa5
   have hs45 := hf5.size
   have hy4l := HY4.out.lt
   have hown4 := Lib.hid (fun j (hj : (Value.slice A3 done.length c3).ownBlock = some j) => own_lt HPQ4.out.row hj)
   clear hx hs5 hf5 hpa5 x5
   go_wp2_with ((with_reducible change wpList _ _ _ (Oper.mk _ (.buildSlice 60 1 _) _ _ _ _ :: _) _ _); refine wpList_lit1H rfl 60 62 _ rfl #[.int .i64 k5, .string i5, .slice A5 n5 c5] rfl Tryz.underlying60 inf62 zer62 (by exact Nat.le_of_ble_eq_true rfl) (by exact Nat.le_of_ble_eq_true rfl) ?_)
   refine Lib.hid ?_
   rintro w6 hl6 hf6
   have HL6 := Lib.hid hl6
   have HX6 := Lib.hid (HX5.out.fr hf6 (fun h => h))
   have HY6 := Lib.hid (HY5.out.fr hf6 (fun h => h))
   have HS6 := Lib.hid (HS5.out.frF hf6)
   have HF6 := Lib.hid (HF5.out.andF hf6)
   have HG6 := Lib.hid (HG5.out.frF hf6)
   have HPQ6 := Lib.hid (HPQ5.out.frF hf6)
   have HPA6 := Lib.hid (HPA5.out.frF hf6)
   have hs56 := hf6.size
   clear hl6 hf6
   go_wp2_with (at_builtin; refine wpList_append_H rfl _ _ 60 rfl (w.heap.size + 2) 62 (.agg Z62) 3 48 Tryz.underlying60 infZ62 rfl (by decide) (.slice A3 done.length c3) done.length L.flatten rfl HPQ6.out.row w5.heap.size #[.int .i64 k5, .string i5, .slice A5 n5 c5] rfl HL6.out (cells62 _ _ _ _ _) (by omega) (by decide) (by omega) ?_)
   refine Lib.hid ?_
   rintro g1 cap1 w7 ho7 hgrow hor
   have hge := fun k (hk : (Value.slice A3 done.length c3).ownBlock = some k) => own_ge HPQ6.out.row hk
   have hgr := Fr.of_grown hgrow
   have HX7 := Lib.hid (HX6.out.fr hgr (fun e => by have := hge _ e; omega))
   have HY7 := Lib.hid (HY6.out.fr hgr (fun e => by have := hge _ e; omega))
   have HG7 := Lib.hid (show Sg w7 from Blk.fr HG6.out hgr (fun e => by have := hge _ e; omega))
   have HS7 := Lib.hid (HS6.out.fr hgr (fun e => by have := hge _ e; omega) (fun j hj e => by have := hge _ e; have := HRR.out j hj; omega))
   have HF7 := Lib.hid (HF6.out.andG hgrow (fun k hk => by have := hge k hk; omega))
   have HPQ7 := Lib.hid (HPQ6.out.push ((HPA6.out.toB).imp (fun j _ hb => ⟨by omega, fun e => by have := hown4.out j e; omega⟩)) ho7 hgrow hor)
   clear hgr hge ho7 hgrow hor
   go_wp2_with fail
   go_roundg (rest'.length)
   case measure => simp at hgk; omega
   case rel => exact ⟨_, cap1, e1, done ++ [t1], rest', _, by rw [List.length_append]; rfl, by rw [List.append_assoc]; exact HDR.out, by omega, by simp, HR3.out, by rw [List.length_append]; exact HPQ7.out, fun h => by rw [List.length_append] at h; have h9 : done.length + 1 = 1 := h; omega, ⟨q5, hsm5, HS7.out⟩, HF7.out, HX7.out, HY7.out, HG7.out⟩
theorem palt (One : Nat → PT → Nat → Nat → Prop) (rs : List Int) (p : Nat) (t : PT) (e d : Nat) (hSP : SepP rs 124 3 One p t e d) (hlen : ∀ ts d', RunP rs 124 One p ts e d' → ts.length ≤ 5000) (p' b c g : Nat) (A : Option Addr) (w : World) (hp : Sm rs p p') (hg : Sg w) (h : Sc w b A c rs p')
    (hgb : Blk w g 89 #[.pointer (some ⟨b, 0, none⟩)]) (hgB : g ≠ b)
    (HO : ∀ p t e d, One p t e d → ∀ (p' : Nat) (w1 : World), Blk w1 g 89 #[.pointer (some ⟨b, 0, none⟩)] → Sm rs p p' → Sg w1 → Sc w1 b A c rs p' → Calls Tryz.prog 182 #[.pointer (some ⟨g, 0, none⟩)] w1 (PP rs e t w1 b A c)) :
    Calls Tryz.prog 181 #[.agg #[.pointer (some ⟨b, 0, none⟩)], .int .i64 3, .string ⟨#[124]⟩, .func (.func 182) #[] #[.pointer (some ⟨g, 0, none⟩)]] w (PP rs e t w b A c) := by
 have hx := Blk.new w 89 #[.pointer (some ⟨b, 0, none⟩)]
 have hy := Blk.new (w.alloc (.cells #[.pointer (some ⟨b, 0, none⟩)] 89)) 62 #[.int .i64 0, .string ⟨#[]⟩, .slice none 0 0]
 rw [show (w.alloc (.cells #[.pointer (some ⟨b, 0, none⟩)] 89)).heap.size = w.heap.size + 1 by simp] at hy
 have HX := Lib.hid (show Blk ((w.alloc (.cells #[.pointer (some ⟨b, 0, none⟩)] 89)).alloc (.cells #[.int .i64 0, .string ⟨#[]⟩, .slice none 0 0] 62)) w.heap.size 89 #[.pointer (some ⟨b, 0, none⟩)] from hx.alloc _)
 have HY := Lib.hid (show Blk ((w.alloc (.cells #[.pointer (some ⟨b, 0, none⟩)] 89)).alloc (.cells #[.int .i64 0, .string ⟨#[]⟩, .slice none 0 0] 62)) (w.heap.size + 1) 62 Z62 from hy)
 have hf0 : Fr (fun _ => False) w ((w.alloc (.cells #[.pointer (some ⟨b, 0, none⟩)] 89)).alloc (.cells #[.int .i64 0, .string ⟨#[]⟩, .slice none 0 0] 62)) := ((Fr.refl _ _).alloc _).alloc _
 have HF := Lib.hid (FrN.of (b := b) hf0)
 have HS := Lib.hid (h.frF hf0)
 have HG := Lib.hid (hg.frF hf0)
 have x0 : ((w.alloc (.cells #[.pointer (some ⟨b, 0, none⟩)] 89)).alloc (.cells #[.int .i64 0, .string ⟨#[]⟩, .slice none 0 0] 62)).cell? ⟨w.heap.size, 0, none⟩ = some (.pointer (some ⟨b, 0, none⟩)) := HX.out.cell 0
 have hbl := h.blk.lt
 have HGB := Lib.hid (show Blk ((w.alloc (.cells #[.pointer (some ⟨b, 0, none⟩)] 89)).alloc (.cells #[.int .i64 0, .string ⟨#[]⟩, .slice none 0 0] 62)) g 89 #[.pointer (some ⟨b, 0, none⟩)] from (hgb.alloc _).alloc (.cells #[.int .i64 0, .string ⟨#[]⟩, .slice none 0 0] 62))
 have HGB0 := Lib.hid hgb.lt
 obtain ⟨ts, d', hR, hno, hts⟩ : ∃ ts d', RunP rs 124 One p ts e d' ∧ markAt rs e ⟨#[124]⟩ = false ∧ ((ts = [t]) ∨ (2 ≤ ts.length ∧ t = .node 3 ts)) := by
  cases hSP with
  | one _ _ _ h h2 => exact ⟨_, _, h, h2, .inl rfl⟩
  | many ts _ d0 h h1 h2 => exact ⟨ts, d0, h, h2, .inr ⟨h1, rfl⟩⟩
 have hl5 := hlen ts d' hR
 obtain ⟨t0, ts', e0, d0, hts0, hOne, hRest⟩ := hR.rest
 have HO1 := Lib.hid (HO p t0 e0 d0 hOne p' _ HGB.out hp HG.out HS.out)
 have HOO := Lib.hid HO
 have HMT := Lib.hid (fun q e1 w1 (h : Sm rs e1 q) (hm : markAt rs e1 ⟨#[124]⟩ = true) h1 => show Calls Tryz.prog 74 #[.agg #[.pointer (some ⟨b, 0, none⟩)], .string ⟨#[124]⟩] w1 (ScPost w1 b A c rs (markTo rs e1 ⟨#[124]⟩) (.bool true)) by
  have hmm := mark_sc ⟨#[124]⟩ b c q A rs w1 (ascii_of (by decide)) (by decide) h1
  rw [← (h.mark _).1, hm, ← (h.mark _).2 hm] at hmm
  exact hmm)
 have HMF := Lib.hid (fun q w1 (h : Sm rs e q) h1 => show Calls Tryz.prog 74 #[.agg #[.pointer (some ⟨b, 0, none⟩)], .string ⟨#[124]⟩] w1 (ScPost w1 b A c rs (markTo rs q ⟨#[124]⟩) (.bool false)) by
  have hmm := mark_sc ⟨#[124]⟩ b c q A rs w1 (ascii_of (by decide)) (by decide) h1
  rw [← (h.mark _).1, hno] at hmm
  exact hmm)
 have HNO := Lib.hid (fun q (h : Sm rs e q) => h.no hno)
 have HTS := Lib.hid hts
 have HTS0 := Lib.hid hts0
 have HRE := Lib.hid hRest
 have HRR := Lib.hid (fun j (hj : (Value.slice A rs.length c).ownBlock = some j) => own_lt h.row hj)
 have hsg0 := Blk.lt hg
 unfold PP at HO1 HOO
 clear h hg hx hy hf0 hSP hlen hR hno hts hOne hRest HO hp hts0 hgb
 go_enter Tryz.func181, Tryz.ntmps181
 go_wp2_with fail
 refine HO1.out.mono ?_
 rintro e w1 ⟨k, i, A2, n2, c2, rfl, hpa, ⟨q', hsm, hs1⟩, hf1⟩
 generalize ((w.alloc (.cells #[.pointer (some ⟨b, 0, none⟩)] 89)).alloc (.cells #[.int .i64 0, .string ⟨#[]⟩, .slice none 0 0] 62)) = w0 at *
 have hx := HX.out.fr hf1 (fun e => by omega)
 have x1 : w1.cell? ⟨w.heap.size, 0, none⟩ = some (.pointer (some ⟨b, 0, none⟩)) := hx.cell 0
 have HX1 := Lib.hid hx
 have HY1 := Lib.hid (HY.out.fr hf1 (fun e => by omega))
 have HS1 := Lib.hid hs1
 have HF1 := Lib.hid (HF.out.andB hf1)
 have HG1 := Lib.hid (HG.out.frB HS.out.blk (by decide) hf1)
 have hw0 := HY.out.lt
 have hs01 := hf1.size
 have hfq1 := Lib.hid hf1
 clear hx hs1 hf1 x0 HO1
 go_wp2_with ((with_reducible change wpList _ _ _ (Oper.mk _ (.buildSlice 60 1 _) _ _ _ _ :: _) _ _); refine wpList_lit1H rfl 60 62 _ rfl #[.int .i64 k, .string i, .slice A2 n2 c2] rfl Tryz.underlying60 inf62 zer62 (by exact Nat.le_of_ble_eq_true rfl) (by exact Nat.le_of_ble_eq_true rfl) ?_)
 refine Lib.hid ?_
 rintro w2 hl2 hf2
 have HL2 := Lib.hid hl2
 have HX2 := Lib.hid (HX1.out.fr hf2 (fun h => h))
 have HY2 := Lib.hid (HY1.out.fr hf2 (fun h => h))
 have HS2 := Lib.hid (HS1.out.frF hf2)
 have HF2 := Lib.hid (HF1.out.andF hf2)
 have HG2 := Lib.hid (HG1.out.frF hf2)
 have HGB2 := Lib.hid ((HGB.out.fr hfq1.out hgB).fr hf2 (fun h => h))
 have HPA2 := Lib.hid ((hpa.frF hf2).base (B' := w.heap.size + 2) (by omega))
 have HPQ2 := Lib.hid (PartsQ.first2 hpa (B := w.heap.size + 2) (by omega) (by omega) hl2 hf2)
 clear hl2 hf2 hpa HX1 HY1 HS1 HF1 HG1 x1
 go_wp2_with fail
 go_loopg [9] (ts'.length) (fun gk v wr => ∃ (A3 : Option Addr) (c3 e3 : Nat) (done rest : List PT) (L : List (List Value)), v = .slice A3 done.length c3 ∧ done ++ rest = ts ∧ rest.length ≤ 0 + gk ∧ 1 ≤ done.length ∧ Rest rs 124 One e3 rest e ∧ PartsQ wr (w.heap.size + 2) (.slice A3 done.length c3) done L ∧ (done.length = 1 → A3 = some ⟨w1.heap.size, 0, none⟩ ∧ Blk wr w1.heap.size 62 #[.int .i64 k, .string i, .slice A2 n2 c2] ∧ PAt 62 wr (w.heap.size + 2) t0 [.int .i64 k, .string i, .slice A2 n2 c2]) ∧ (∃ q', Sm rs e3 q' ∧ Sc wr b A c rs q') ∧ FrN b w wr ∧ Blk wr w.heap.size 89 #[.pointer (some ⟨b, 0, none⟩)] ∧ Blk wr (w.heap.size + 1) 62 Z62 ∧ Sg wr ∧ Blk wr g 89 #[.pointer (some ⟨b, 0, none⟩)])
 case atStart => exact ⟨_, _, e0, [t0], ts', _, rfl, HTS0.out.symm, by omega, Nat.le_refl _, HRE.out, HPQ2.out, fun _ => ⟨rfl, HL2.out, HPA2.out⟩, ⟨q', hsm, HS2.out⟩, HF2.out, HX2.out, HY2.out, HG2.out, HGB2.out⟩
 case round =>
  clear HX2 HY2 HS2 HF2 HG2 HPA2 HPQ2 HL2 HRE hsm HGB2
  obtain ⟨A3, c3, e3, done, rest, L, rfl, hdr, hgk, hd1, hrest, hpq, hfirst, ⟨q3, hsm3, hs3⟩, hf3, hx3, hy3, hg3, hgb3⟩ := hrel
  have HX3 := Lib.hid hx3
  have HY3 := Lib.hid hy3
  have HG3 := Lib.hid hg3
  have HF3 := Lib.hid hf3
  have HS3 := Lib.hid hs3
  have HPQ3 := Lib.hid hpq
  have HFI3 := Lib.hid hfirst
  have HDR := Lib.hid hdr
  have HSM3 := Lib.hid hsm3
  have HGB3 := Lib.hid hgb3
  have hgl := HGB0.out
  clear hgb3
  have x3 : wr.cell? ⟨w.heap.size, 0, none⟩ = some (.pointer (some ⟨b, 0, none⟩)) := hx3.cell 0
  have hyl := hy3.lt
  have hlen3 : done.length ≤ 5000 := by
   have := congrArg List.length hdr
   rw [List.length_append] at this
   omega
  clear hx3 hy3 hg3 hf3 hs3 hpq hfirst hsm3 hdr
  cases hrest with
  | nil _ =>
   go_wp2_with fail
   refine (HMF.out q3 wr HSM3.out HS3.out).mono ?_
   rintro e w4 ⟨rfl, hs4, hf4⟩
   have hx := HX3.out.fr hf4 (fun e => by omega)
   have x4 : w4.cell? ⟨w.heap.size, 0, none⟩ = some (.pointer (some ⟨b, 0, none⟩)) := hx.cell 0
   have HX4 := Lib.hid hx
   have HY4 := Lib.hid (HY3.out.fr hf4 (fun e => by omega))
   have HS4 := Lib.hid hs4
   have HF4 := Lib.hid (HF3.out.andB hf4)
   have HG4 := Lib.hid (HG3.out.frB HS3.out.blk (by decide) hf4)
   have HSM4 := Lib.hid (HNO.out q3 HSM3.out)
   have HPQ4 := Lib.hid (HPQ3.out.frB HS3.out.blk (by decide) (by omega) hf4)
   have hd0 : done = ts := by
    have := HDR.out
    rw [List.append_nil] at this
    exact this
   have HD0 := Lib.hid hd0
   have hbw : b < w1.heap.size := by omega
   have HFI4 := Lib.hid (fun h1 => show A3 = some ⟨w1.heap.size, 0, none⟩ ∧ Blk w4 w1.heap.size 62 #[.int .i64 k, .string i, .slice A2 n2 c2] ∧ PAt 62 w4 (w.heap.size + 2) t0 [.int .i64 k, .string i, .slice A2 n2 c2] from ⟨(HFI3.out h1).1, (HFI3.out h1).2.1.fr hf4 (fun e => by omega), (HFI3.out h1).2.2.fr hf4 (fun j _ hj _ e => by omega)⟩)
   clear hx hs4 hf4 x3 hd0 HMT HMF HOO
   rcases HTS.out with h1 | ⟨h1, h2⟩
   · have hdl : done.length = 1 := by rw [HD0.out, h1]; rfl
     obtain ⟨rfl, hb4, hpa4⟩ := HFI4.out hdl
     have htt : t0 = t := by
      have h3 := HTS0.out
      rw [h1] at h3
      injection h3 with h3
      exact h3.symm
     subst htt
     have HB4 := Lib.hid hb4
     have HPA4 := Lib.hid hpa4
     clear hb4 hpa4
     rw [hdl]
     have HPT := Lib.hid (fun wz (hfz : Fr (fun j => j = w.heap.size + 1) w4 wz) => (HPA4.out.frN (by omega) hfz).base (B' := w.heap.size) (by omega))
     go_wp2_with (first | ((with_reducible change wpList _ _ _ (Oper.mk _ (.load 62 _) _ _ _ _ :: _) _ _); refine wpList_load_blk rfl 62 _ rfl _ rfl 62 #[.int .i64 k, .string i, .slice A2 n2 c2] HB4.out _ Tryz.underlying62 rfl inf62 ?_) | ((with_reducible change wpList _ _ _ (Oper.mk _ (.store 62 _ _) _ _ _ _ :: _) _ _); refine wpList_store_blkH rfl 62 _ _ rfl _ #[.int .i64 k, .string i, .slice A2 n2 c2] rfl rfl 62 _ HY4.out (by rfl) (by exact inf62) (by exact (cells62 _ _ _ _ _).one) ?_))
     refine Lib.hid ?_
     rintro wz hbz hfz
     have HFZ := Lib.hid (HF4.out.andX hfz (by omega)).done
     have HSZ := Lib.hid (HS4.out.fr hfz (fun e => by omega) (fun j hj e => own_blk_ne HS4.out.row HY4.out (by decide) (by rw [hj, e])))
     go_wp2_with fail
     exact bodyPost_ret (v := .agg #[.int .i64 k, .string i, .slice A2 n2 c2]) (results_cell_row rfl _ _ (w.heap.size + 1) 62 _ (0, 0) _ rfl hbz Tryz.underlying62 rfl inf62) rfl ⟨_, _, _, _, _, rfl, HPT.out wz hfz, ⟨_, HSM4.out, HSZ.out⟩, HFZ.out⟩
   · have hdl : 2 ≤ done.length := by rw [HD0.out]; exact h1
     have hb1 : ((done.length : Int) == 1) = false := by simp; omega
     have HPT := Lib.hid (fun wz (hfz : Fr (fun j => j = w.heap.size + 1) w4 wz) => show PAt 62 wz w.heap.size t [.int .i64 3, .string ⟨#[]⟩, .slice A3 done.length c3] by
      have h3 := ((HPQ4.out.node 3).frN (by omega) hfz).base (B' := w.heap.size) (by omega)
      rw [HD0.out] at h3 ⊢
      rw [h2]
      exact h3)
     go_wp2_with ((with_reducible change wpList _ _ _ (Oper.mk _ (.store 62 _ _) _ _ _ _ :: _) _ _); refine wpList_store_blkH rfl 62 _ _ rfl _ #[.int .i64 3, .string ⟨#[]⟩, .slice A3 done.length c3] rfl rfl 62 _ HY4.out (by rfl) (by exact inf62) (by exact (cells62 _ _ _ _ _).one) ?_)
     refine Lib.hid ?_
     rintro wz hbz hfz
     have HFZ := Lib.hid (HF4.out.andX hfz (by omega)).done
     have HSZ := Lib.hid (HS4.out.fr hfz (fun e => by omega) (fun j hj e => own_blk_ne HS4.out.row HY4.out (by decide) (by rw [hj, e])))
     go_wp2_with fail
     exact bodyPost_ret (v := .agg #[.int .i64 3, .string ⟨#[]⟩, .slice A3 done.length c3]) (results_cell_row rfl _ _ (w.heap.size + 1) 62 _ (0, 0) _ rfl hbz Tryz.underlying62 rfl inf62) rfl ⟨_, _, _, _, _, rfl, HPT.out wz hfz, ⟨_, HSM4.out, HSZ.out⟩, HFZ.out⟩
  | cons _ e1 _ d1 t1 rest' h1 h2 h3 =>
   have HO4 := Lib.hid (fun w1 hgb hg h => HOO.out _ t1 e1 d1 h2 (markTo rs e3 ⟨#[124]⟩) w1 hgb rfl hg h)
   have HR3 := Lib.hid h3
   have hm1 : markAt rs e3 ⟨#[124]⟩ = true := h1
   have HM4 := Lib.hid (HMT.out q3 e3 wr HSM3.out hm1 HS3.out)
   generalize markTo rs e3 ⟨#[124]⟩ = p4 at *
   clear h1 h2 h3 hm1 HMF
   go_wp2_with fail
   refine HM4.out.mono ?_
   rintro e w4 ⟨rfl, hs4, hf4⟩
   have hx := HX3.out.fr hf4 (fun e => by omega)
   have x4 : w4.cell? ⟨w.heap.size, 0, none⟩ = some (.pointer (some ⟨b, 0, none⟩)) := hx.cell 0
   have HX4 := Lib.hid hx
   have HY4 := Lib.hid (HY3.out.fr hf4 (fun e => by omega))
   have HS4 := Lib.hid hs4
   have HF4 := Lib.hid (HF3.out.andB hf4)
   have HG4 := Lib.hid (HG3.out.frB HS3.out.blk (by decide) hf4)
   have HPQ4 := Lib.hid (HPQ3.out.frB HS3.out.blk (by decide) (by omega) hf4)
   have HGB4 := Lib.hid (HGB3.out.fr hf4 hgB)
   clear hx hs4 hf4 x3 x4
   go_wp2_with fail
   refine (HO4.out w4 HGB4.out HG4.out HS4.out).mono ?_
   rintro e w5 ⟨k5, i5, A5, n5, c5, rfl, hpa5, ⟨q5, hsm5, hs5⟩, hf5⟩
   have hx := HX4.out.fr hf5 (fun e => by omega)
   have x5 : w5.cell? ⟨w.heap.size, 0, none⟩ = some (.pointer (some ⟨b, 0, none⟩)) := hx.cell 0
   have HX5 := Lib.hid hx
   have HY5 := Lib.hid (HY4.out.fr hf5 (fun e => by omega))
   have HS5 := Lib.hid hs5
   have HF5 := Lib.hid (HF4.out.andB hf5)
   have HG5 := Lib.hid (HG4.out.frB HS4.out.blk (by decide) hf5)
   have HPQ5 := Lib.hid (HPQ4.out.frB HS4.out.blk (by decide) (by omega) hf5)
   have HGB5 := Lib.hid (HGB4.out.fr hf5 hgB)
   have HPA5 := Lib.hid hpa5
   have hs45 := hf5.size
   have hy4l := HY4.out.lt
   have hown4 := Lib.hid (fun j (hj : (Value.slice A3 done.length c3).ownBlock = some j) => own_lt HPQ4.out.row hj)
   clear hx hs5 hf5 hpa5 x5
   go_wp2_with ((with_reducible change wpList _ _ _ (Oper.mk _ (.buildSlice 60 1 _) _ _ _ _ :: _) _ _); refine wpList_lit1H rfl 60 62 _ rfl #[.int .i64 k5, .string i5, .slice A5 n5 c5] rfl Tryz.underlying60 inf62 zer62 (by exact Nat.le_of_ble_eq_true rfl) (by exact Nat.le_of_ble_eq_true rfl) ?_)
   refine Lib.hid ?_
   rintro w6 hl6 hf6
   have HL6 := Lib.hid hl6
   have HX6 := Lib.hid (HX5.out.fr hf6 (fun h => h))
   have HY6 := Lib.hid (HY5.out.fr hf6 (fun h => h))
   have HS6 := Lib.hid (HS5.out.frF hf6)
   have HF6 := Lib.hid (HF5.out.andF hf6)
   have HG6 := Lib.hid (HG5.out.frF hf6)
   have HPQ6 := Lib.hid (HPQ5.out.frF hf6)
   have HGB6 := Lib.hid (HGB5.out.fr hf6 (fun h => h))
   have HPA6 := Lib.hid (HPA5.out.frF hf6)
   have hs56 := hf6.size
   clear hl6 hf6
   go_wp2_with (at_builtin; refine wpList_append_H rfl _ _ 60 rfl (w.heap.size + 2) 62 (.agg Z62) 3 48 Tryz.underlying60 infZ62 rfl (by decide) (.slice A3 done.length c3) done.length L.flatten rfl HPQ6.out.row w5.heap.size #[.int .i64 k5, .string i5, .slice A5 n5 c5] rfl HL6.out (cells62 _ _ _ _ _) (by omega) (by decide) (by omega) ?_)
   refine Lib.hid ?_
   rintro g1 cap1 w7 ho7 hgrow hor
   have hge := fun k (hk : (Value.slice A3 done.length c3).ownBlock = some k) => own_ge HPQ6.out.row hk
   have hgr := Fr.of_grown hgrow
   have HX7 := Lib.hid (HX6.out.fr hgr (fun e => by have := hge _ e; omega))
   have HY7 := Lib.hid (HY6.out.fr hgr (fun e => by have := hge _ e; omega))
   have HG7 := Lib.hid (show Sg w7 from Blk.fr HG6.out hgr (fun e => by have := hge _ e; omega))
   have HS7 := Lib.hid (HS6.out.fr hgr (fun e => by have := hge _ e; omega) (fun j hj e => by have := hge _ e; have := HRR.out j hj; omega))
   have HGB7 := Lib.hid (HGB6.out.fr hgr (fun e => by have := hge _ e; omega))
   have HF7 := Lib.hid (HF6.out.andG hgrow (fun k hk => by have := hge k hk; omega))
   have HPQ7 := Lib.hid (HPQ6.out.push ((HPA6.out.toB).imp (fun j _ hb => ⟨by omega, fun e => by have := hown4.out j e; omega⟩)) ho7 hgrow hor)
   clear hgr hge ho7 hgrow hor
   go_wp2_with fail
   go_roundg (rest'.length)
   case measure => simp at hgk; omega
   case rel => exact ⟨_, cap1, e1, done ++ [t1], rest', _, by rw [List.length_append]; rfl, by rw [List.append_assoc]; exact HDR.out, by omega, by simp, HR3.out, by rw [List.length_append]; exact HPQ7.out, fun h => by rw [List.length_append] at h; have h9 : done.length + 1 = 1 := h; omega, ⟨q5, hsm5, HS7.out⟩, HF7.out, HX7.out, HY7.out, HG7.out, HGB7.out⟩

end Go.Proofs.YtagchljgmjmlcaaGreatDoor
