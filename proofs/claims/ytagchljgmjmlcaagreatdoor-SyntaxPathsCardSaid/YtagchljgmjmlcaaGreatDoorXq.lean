/- Texts of the proof, one behind the other: Rj, Rk, Rl, Rm, Rn. -/
import Derived.Test.YtagchljgmjmlcaaGreatDoorXp
import Derived.Deep.CutBlock
import Derived.Deep.RegionLawGrows
import Derived.Deep.Cut
import Derived.Deep.CutRange
import Derived.WalkKit
import Derived.WalkLawsBesides
import Derived.WalkSpells
import Derived.Deep.QuietTactic
import Derived.BigRegion
import Derived.BigQuiet
import Derived.Lib.Hide
import Derived.Outline
import Derived.Deep.AppendLies
import Derived.Deep.RegionLaw
import Derived.Deep.RegionWith
import Derived.Deep.RegionHeld3
import Derived.Deep.LoopGhost
import Derived.Deep.DeepFit
import Derived.Laws.ResultCell
import Derived.Laws.RangeAny
import Derived.Deep.MidRow
import Derived.StillTailTactics
import Derived.OpenShut
import Derived.Great.BuildSlice
namespace Go.Proofs.YtagchljgmjmlcaaGreatDoor
set_option linter.unusedVariables false
open Go.RowKit Go
set_option maxRecDepth 100000
set_option maxHeartbeats 40000000

abbrev nv (v : ByteArray) (b : Bool) (k : Int) (t1 t2 t3 : ByteArray) : Value := .agg #[.string v, .bool b, .int .i64 k, .string t1, .string t2, .string t3]
def zero36 : List Value := [.string ⟨#[]⟩, .bool false, .int .i64 0, .string ⟨#[]⟩, .string ⟨#[]⟩, .string ⟨#[]⟩]
theorem inf36 : (Tryz.prog.info? 36).map (·.size) = some 6 := by kernel_rfl
theorem one36 (v : ByteArray) (b : Bool) (k : Int) (t1 t2 t3 : ByteArray) : (#[.string v, .bool b, .int .i64 k, .string t1, .string t2, .string t3] : Array Value).all (·.oneCell') = true := all_oneCell_toArray (cs := [.string v, .bool b, .int .i64 k, .string t1, .string t2, .string t3]) (by
 intro v hv
 simp only [List.mem_cons, List.not_mem_nil, or_false] at hv
 rcases hv with rfl | rfl | rfl | rfl | rfl | rfl <;> rfl)
def xIntR : ByteArray := ⟨#[104, 116, 116, 112, 58, 47, 47, 119, 119, 119, 46, 119, 51, 46, 111, 114, 103, 47, 50, 48, 48, 49, 47, 88, 77, 76, 83, 99, 104, 101, 109, 97, 35, 105, 110, 116, 101, 103, 101, 114]⟩
/-- A node, told weakly. -/
def NodePost (rs : List Int) (p : Nat) (w : World) (e : Ending) (w' : World) : Prop :=
 ∃ (v : ByteArray) (b : Bool) (k : Int) (t1 t2 t3 : ByteArray) (E : Int), e = .returned (.tuple #[nv v b k t1 t2 t3, .int .i64 E]) ∧ (E = -1 ∨ ∃ q : Nat, E = (q : Int) ∧ p < q ∧ q ≤ rs.length ∧ ((∃ f, VarP rs p f q) ∨ (2 ≤ q → EndP rs q))) ∧ Fr (fun _ => False) w w'
theorem rnode_neg (v : Value) (w : World) : Calls Tryz.prog 123 #[v, .int .i64 (-1)] w fun e w' => e = .returned (.tuple #[nv ⟨#[]⟩ false 0 ⟨#[]⟩ ⟨#[]⟩ ⟨#[]⟩, .int .i64 (-1)]) ∧ Fr (fun _ => False) w w' := by
 have f0 : Fr (fun _ => False) w (w.alloc (.cells #[.string ⟨#[]⟩, .bool false, .int .i64 0, .string ⟨#[]⟩, .string ⟨#[]⟩, .string ⟨#[]⟩] 36)) := (Fr.refl _ _).alloc _
 have hb : Blk (w.alloc (.cells #[.string ⟨#[]⟩, .bool false, .int .i64 0, .string ⟨#[]⟩, .string ⟨#[]⟩, .string ⟨#[]⟩] 36)) w.heap.size 36 zero36.toArray := Blk.new w 36 #[.string ⟨#[]⟩, .bool false, .int .i64 0, .string ⟨#[]⟩, .string ⟨#[]⟩, .string ⟨#[]⟩]
 have hst := Blk.setAll (vs := [.string ⟨#[]⟩, .bool false, .int .i64 0, .string ⟨#[]⟩, .string ⟨#[]⟩, .string ⟨#[]⟩]) (old := zero36) hb rfl
 have HTH := Lib.hid (Blk.there (cs := zero36) hb (n := 6) rfl)
 have HST := Lib.hid hst.1
 have HFF := Lib.hid (((f0.mono (T := fun j => w.heap.size ≤ j) (fun _ _ h => h.elim)).trans hst.2 (fun j hj e => by omega)).shut (Nat.le_refl _))
 have hl1 := hb.lt
 clear hst hb f0
 go_enter Tryz.func123, Tryz.ntmps123
 go_wp2_with (refine wpList_store_mid rfl 36 _ _ rfl _ _ _ rfl rfl HTH.out inf36 (one36 _ _ _ _ _ _) ?_)
 exact bodyPost_ret (v := .tuple #[nv ⟨#[]⟩ false 0 ⟨#[]⟩ ⟨#[]⟩ ⟨#[]⟩, .int .i64 (-1)]) (results_c2 rfl _ _ w.heap.size 36 _ (0, 0) _ rfl HST.out Tryz.underlying36 rfl (by kernel_rfl) _ rfl) rfl ⟨rfl, HFF.out⟩

theorem rnode_any (g c p : Nat) (rs : List Int) (w : World) (hl : rs.length ≤ 8100) (hw : wt rs ≤ 8100) (hv : ∀ r, r ∈ rs → signR r = true) (hp : p ≤ rs.length) (h : Ls w g c rs) :
    Calls Tryz.prog 123 #[.slice (some ⟨g, 0, none⟩) rs.length c, .int .i64 (p : Int)] w (NodePost rs p w) := by
 have f0 : Fr (fun _ => False) w (w.alloc (.cells #[.string ⟨#[]⟩, .bool false, .int .i64 0, .string ⟨#[]⟩, .string ⟨#[]⟩, .string ⟨#[]⟩] 36)) := (Fr.refl _ _).alloc _
 have hb : Blk (w.alloc (.cells #[.string ⟨#[]⟩, .bool false, .int .i64 0, .string ⟨#[]⟩, .string ⟨#[]⟩, .string ⟨#[]⟩] 36)) w.heap.size 36 zero36.toArray := Blk.new w 36 #[.string ⟨#[]⟩, .bool false, .int .i64 0, .string ⟨#[]⟩, .string ⟨#[]⟩, .string ⟨#[]⟩]
 have HB := Lib.hid hb
 have HF := Lib.hid f0
 have hs := h.frF f0
 have hcap := h.cap
 have hm1 := rmark_any ⟨#[63]⟩ g c p rs _ (by decide) hl hv hp hs
 unfold mkI at hm1
 have HVA := Lib.hid (rvar_any g c p rs _ hl hv hp hs)
 unfold VarPost at HVA
 have HBL := Lib.hid (rblanks_any g c p rs _ hl hv hp hs)
 have HIN := Lib.hid (rint_any false g c p rs _ hl hw hv hp hs)
 unfold IntPost at HIN
 have hle := skip_le rs [0] (rs.length - p) p (Nat.le_refl _) hp
 have hrd := rread_any g c (skip rs [0] p) rs _ hl hw hv hle.2 hs
 have HLAST := Lib.hid (fun (x : DT) (e : Nat) (h1 : docR rs (skip rs [0] p) = (some x, e)) => docR_last hv hle.2 h1)
 have HC := Lib.hid (fun i w1 => rclass_any (peekOf rs i) w1)
 have HS := Lib.hid hs
 have hp0 : ¬ ((p : Int) < 0) := by omega
 cases hma : markAt rs p ⟨#[63]⟩ with
 | true =>
  rw [hma] at hm1
  simp only [if_true] at hm1
  have HM := Lib.hid hm1
  have hmi := (mark_in hma hp).2
  clear hm1 hma hrd HLAST HC HIN HBL hs f0 hb h hv hw
  generalize markTo rs p ⟨#[63]⟩ = p2 at *
  go_enter Tryz.func123, Tryz.ntmps123
  go_wp2_with fail
  refine HM.out.mono ?_
  rintro e w1 ⟨rfl, rfl⟩
  generalize w.alloc (.cells #[.string ⟨#[]⟩, .bool false, .int .i64 0, .string ⟨#[]⟩, .string ⟨#[]⟩, .string ⟨#[]⟩] 36) = w0 at *
  go_wp2_with fail
  refine HVA.out.mono ?_
  rintro e w2 ⟨hc, hf2⟩
  have HB2 := Lib.hid (HB.out.fr hf2 (fun h => h))
  have HF2 := Lib.hid ((HF.out.trans' hf2).mono (T := fun j => w.heap.size ≤ j) (fun _ _ h => h.elim))
  have HTH := Lib.hid (Blk.there (cs := zero36) HB2.out (n := 6) rfl)
  have hl1 := HB2.out.lt
  clear hf2
  rcases hc with ⟨f, q, hvp, rfl⟩ | ⟨-, rfl⟩
  · have HVP := Lib.hid hvp
    clear hvp
    generalize strL (part rs f q) = s at *
    have hst := Blk.setAll (vs := [.string s, .bool false, .int .i64 0, .string ⟨#[]⟩, .string ⟨#[]⟩, .string ⟨#[]⟩]) (old := zero36) HB2.out rfl
    have HST := Lib.hid hst.1
    have HFF := Lib.hid ((HF2.out.trans hst.2 (fun j hj e => by omega)).shut (Nat.le_refl _))
    clear hst
    go_wp2_with (refine wpList_store_mid rfl 36 _ _ rfl _ _ _ rfl rfl HTH.out inf36 (one36 _ _ _ _ _ _) ?_)
    exact bodyPost_ret (v := .tuple #[nv s false 0 ⟨#[]⟩ ⟨#[]⟩ ⟨#[]⟩, .int .i64 (q : Int)]) (results_c2 rfl _ _ w.heap.size 36 _ (0, 0) _ rfl HST.out Tryz.underlying36 rfl (by kernel_rfl) _ rfl) rfl ⟨_, _, _, _, _, _, _, rfl, .inr ⟨q, rfl, by have := HVP.out.pos; have := (mark_in HVP.out.mark hp).2; have := HVP.out.from_; omega, HVP.out.pos.2, .inl ⟨f, HVP.out⟩⟩, HFF.out⟩
  have hst := Blk.setAll (vs := [.string ⟨#[]⟩, .bool false, .int .i64 0, .string ⟨#[]⟩, .string ⟨#[]⟩, .string ⟨#[]⟩]) (old := zero36) HB2.out rfl
  have HST := Lib.hid hst.1
  have HFF := Lib.hid ((HF2.out.trans hst.2 (fun j hj e => by omega)).shut (Nat.le_refl _))
  clear hst
  go_wp2_with (refine wpList_store_mid rfl 36 _ _ rfl _ _ _ rfl rfl HTH.out inf36 (one36 _ _ _ _ _ _) ?_)
  exact bodyPost_ret (v := .tuple #[nv ⟨#[]⟩ false 0 ⟨#[]⟩ ⟨#[]⟩ ⟨#[]⟩, .int .i64 (-1)]) (results_c2 rfl _ _ w.heap.size 36 _ (0, 0) _ rfl HST.out Tryz.underlying36 rfl (by kernel_rfl) _ rfl) rfl ⟨_, _, _, _, _, _, _, rfl, .inl rfl, HFF.out⟩
 | false =>
  rw [hma] at hm1
  simp only [Bool.false_eq_true, if_false] at hm1
  have HM := Lib.hid hm1
  clear hm1 hma HVA hs f0 hb h hw
  by_cases hil : skip rs [0] p < rs.length ∧ rClass (peekOf rs (skip rs [0] p)) = 2
  · have c0 := HS.out.cell hil.1
    have HCC := Lib.hid (HC.out (skip rs [0] p) (w.alloc (.cells #[.string ⟨#[]⟩, .bool false, .int .i64 0, .string ⟨#[]⟩, .string ⟨#[]⟩, .string ⟨#[]⟩] 36)))
    rw [hil.2] at HCC
    have hil2 := hil.1
    clear hrd HLAST hil hv
    generalize skip rs [0] p = i at *
    generalize hx : peekOf rs i = x at c0 HCC
    clear hx
    have hi0 : ¬ ((i : Int) < 0) := by omega
    go_enter Tryz.func123, Tryz.ntmps123
    go_wp2_with fail
    refine HM.out.mono ?_
    rintro e w1 ⟨rfl, rfl⟩
    generalize w.alloc (.cells #[.string ⟨#[]⟩, .bool false, .int .i64 0, .string ⟨#[]⟩, .string ⟨#[]⟩, .string ⟨#[]⟩] 36) = w0 at *
    go_wp2_with fail
    refine HBL.out.mono ?_
    rintro e w1 ⟨rfl, rfl⟩
    go_wp2_with fail
    refine HCC.out.mono ?_
    rintro e w1 ⟨rfl, rfl⟩
    go_wp2_with fail
    refine HIN.out.mono ?_
    rintro e w2 ⟨s, E, rfl, hsz, hE, hf2⟩
    have HB2 := Lib.hid (HB.out.fr hf2 (fun h => h))
    have HF2 := Lib.hid ((HF.out.trans' hf2).mono (T := fun j => w.heap.size ≤ j) (fun _ _ h => h.elim))
    have HTH := Lib.hid (Blk.there (cs := zero36) HB2.out (n := 6) rfl)
    have hl1 := HB2.out.lt
    have HE := Lib.hid hE
    clear hf2 hE
    have hst := Blk.setAll (vs := [.string ⟨#[]⟩, .bool true, .int .i64 2, .string s, .string xIntR, .string ⟨#[]⟩]) (old := zero36) HB2.out rfl
    have HST := Lib.hid hst.1
    have HFF := Lib.hid ((HF2.out.trans hst.2 (fun j hj e => by omega)).shut (Nat.le_refl _))
    clear hst
    go_wp2_with (refine wpList_store_mid rfl 36 _ _ rfl _ _ _ rfl rfl HTH.out inf36 (one36 _ _ _ _ _ _) ?_)
    exact bodyPost_ret (v := .tuple #[nv ⟨#[]⟩ true 2 s xIntR ⟨#[]⟩, .int .i64 E]) (results_c2 rfl _ _ w.heap.size 36 _ (0, 0) _ rfl HST.out Tryz.underlying36 rfl (by kernel_rfl) _ rfl) rfl ⟨_, _, _, _, _, _, _, rfl, HE.out.elim .inl fun ⟨q, h1, h2, h3, h4⟩ => .inr ⟨q, h1, h2, h3, .inr h4⟩, HFF.out⟩
  · by_cases hil2 : skip rs [0] p < rs.length
    · have c0 := HS.out.cell hil2
      have HCC := Lib.hid (HC.out (skip rs [0] p) (w.alloc (.cells #[.string ⟨#[]⟩, .bool false, .int .i64 0, .string ⟨#[]⟩, .string ⟨#[]⟩, .string ⟨#[]⟩] 36)))
      have hk : (rClass (peekOf rs (skip rs [0] p)) == 2) = false := by simpa using fun e => hil ⟨hil2, e⟩
      have hi0 : ¬ (((skip rs [0] p : Nat) : Int) < 0) := by omega
      clear hil
      generalize skip rs [0] p = i at *
      generalize rClass (peekOf rs i) = kk at *
      generalize peekOf rs i = x0 at c0 HCC
      clear hv HIN HS HC
      unfold docV at hrd
      generalize hdr : docR rs i = dr at *
      obtain ⟨xo, q⟩ := dr
      cases xo with
      | none =>
       dsimp only at hrd
       have HRD := Lib.hid hrd
       clear hrd hdr HLAST
       go_enter Tryz.func123, Tryz.ntmps123
       go_wp2_with fail
       refine HM.out.mono ?_
       rintro e w1 ⟨rfl, rfl⟩
       generalize w.alloc (.cells #[.string ⟨#[]⟩, .bool false, .int .i64 0, .string ⟨#[]⟩, .string ⟨#[]⟩, .string ⟨#[]⟩] 36) = w0 at *
       go_wp2_with fail
       refine HBL.out.mono ?_
       rintro e w1 ⟨rfl, rfl⟩
       go_wp2_with fail
       refine HCC.out.mono ?_
       rintro e w1 ⟨rfl, rfl⟩
       go_wp2_with fail
       refine HRD.out.mono ?_
       rintro e w2 ⟨rfl, hf2⟩
       have hf3 := hf2.alloc (.cells #[.int .i64 0, .string ⟨#[]⟩, .string ⟨#[]⟩, .string ⟨#[]⟩] 34)
       have HB2 := Lib.hid (HB.out.fr hf3 (fun h => h))
       have HF2 := Lib.hid ((HF.out.trans' hf3).mono (T := fun j => w.heap.size ≤ j) (fun _ _ h => h.elim))
       have HTH := Lib.hid (Blk.there (cs := zero36) HB2.out (n := 6) rfl)
       have hl1 := HB2.out.lt
       clear hf2 hf3
       have hst := Blk.setAll (vs := [.string ⟨#[]⟩, .bool false, .int .i64 0, .string ⟨#[]⟩, .string ⟨#[]⟩, .string ⟨#[]⟩]) (old := zero36) HB2.out rfl
       have HST := Lib.hid hst.1
       have HFF := Lib.hid ((HF2.out.trans hst.2 (fun j hj e => by omega)).shut (Nat.le_refl _))
       clear hst
       go_wp2_with (refine wpList_store_mid rfl 36 _ _ rfl _ _ _ rfl rfl HTH.out inf36 (one36 _ _ _ _ _ _) ?_)
       exact bodyPost_ret (v := .tuple #[nv ⟨#[]⟩ false 0 ⟨#[]⟩ ⟨#[]⟩ ⟨#[]⟩, .int .i64 (-1)]) (results_c2 rfl _ _ w.heap.size 36 _ (0, 0) _ rfl HST.out Tryz.underlying36 rfl (by kernel_rfl) _ rfl) rfl ⟨_, _, _, _, _, _, _, rfl, .inl rfl, HFF.out⟩
      | some x =>
       dsimp only at hrd
       cases hg : rGood x with
       | false =>
        rw [hg, if_neg Bool.false_ne_true] at hrd
        have HRD := Lib.hid hrd
        clear hrd hdr HLAST hg
        go_enter Tryz.func123, Tryz.ntmps123
        go_wp2_with fail
        refine HM.out.mono ?_
        rintro e w1 ⟨rfl, rfl⟩
        generalize w.alloc (.cells #[.string ⟨#[]⟩, .bool false, .int .i64 0, .string ⟨#[]⟩, .string ⟨#[]⟩, .string ⟨#[]⟩] 36) = w0 at *
        go_wp2_with fail
        refine HBL.out.mono ?_
        rintro e w1 ⟨rfl, rfl⟩
        go_wp2_with fail
        refine HCC.out.mono ?_
        rintro e w1 ⟨rfl, rfl⟩
        go_wp2_with fail
        refine HRD.out.mono ?_
        rintro e w2 ⟨rfl, hf2⟩
        have hf3 := hf2.alloc (.cells #[.int .i64 0, .string ⟨#[]⟩, .string ⟨#[]⟩, .string ⟨#[]⟩] 34)
        have HB2 := Lib.hid (HB.out.fr hf3 (fun h => h))
        have HF2 := Lib.hid ((HF.out.trans' hf3).mono (T := fun j => w.heap.size ≤ j) (fun _ _ h => h.elim))
        have HTH := Lib.hid (Blk.there (cs := zero36) HB2.out (n := 6) rfl)
        have hl1 := HB2.out.lt
        clear hf2 hf3
        have hst := Blk.setAll (vs := [.string ⟨#[]⟩, .bool false, .int .i64 0, .string ⟨#[]⟩, .string ⟨#[]⟩, .string ⟨#[]⟩]) (old := zero36) HB2.out rfl
        have HST := Lib.hid hst.1
        have HFF := Lib.hid ((HF2.out.trans hst.2 (fun j hj e => by omega)).shut (Nat.le_refl _))
        clear hst
        go_wp2_with (refine wpList_store_mid rfl 36 _ _ rfl _ _ _ rfl rfl HTH.out inf36 (one36 _ _ _ _ _ _) ?_)
        exact bodyPost_ret (v := .tuple #[nv ⟨#[]⟩ false 0 ⟨#[]⟩ ⟨#[]⟩ ⟨#[]⟩, .int .i64 (-1)]) (results_c2 rfl _ _ w.heap.size 36 _ (0, 0) _ rfl HST.out Tryz.underlying36 rfl (by kernel_rfl) _ rfl) rfl ⟨_, _, _, _, _, _, _, rfl, .inl rfl, HFF.out⟩
       | true =>
        rw [hg, if_pos rfl] at hrd
        have HE := Lib.hid (HLAST.out x q rfl)
        obtain ⟨k, a, b, d⟩ := x
        unfold DT.cells at hrd
        dsimp only at hrd
        have HRD := Lib.hid hrd
        clear hrd hdr HLAST hg
        go_enter Tryz.func123, Tryz.ntmps123
        go_wp2_with fail
        refine HM.out.mono ?_
        rintro e w1 ⟨rfl, rfl⟩
        generalize w.alloc (.cells #[.string ⟨#[]⟩, .bool false, .int .i64 0, .string ⟨#[]⟩, .string ⟨#[]⟩, .string ⟨#[]⟩] 36) = w0 at *
        go_wp2_with fail
        refine HBL.out.mono ?_
        rintro e w1 ⟨rfl, rfl⟩
        go_wp2_with fail
        refine HCC.out.mono ?_
        rintro e w1 ⟨rfl, rfl⟩
        go_wp2_with fail
        refine HRD.out.mono ?_
        rintro e w2 ⟨rfl, hf2⟩
        have hf3 := hf2.alloc (.cells #[.int .i64 k, .string a, .string b, .string d] 34)
        have HB2 := Lib.hid (HB.out.fr hf3 (fun h => h))
        have HF2 := Lib.hid ((HF.out.trans' hf3).mono (T := fun j => w.heap.size ≤ j) (fun _ _ h => h.elim))
        have HTH := Lib.hid (Blk.there (cs := zero36) HB2.out (n := 6) rfl)
        have hl1 := HB2.out.lt
        clear hf2 hf3
        have hst := Blk.setAll (vs := [.string ⟨#[]⟩, .bool true, .int .i64 k, .string a, .string b, .string d]) (old := zero36) HB2.out rfl
        have HST := Lib.hid hst.1
        have HFF := Lib.hid ((HF2.out.trans hst.2 (fun j hj e => by omega)).shut (Nat.le_refl _))
        clear hst
        go_wp2_with (refine wpList_store_mid rfl 36 _ _ rfl _ _ _ rfl rfl HTH.out inf36 (one36 _ _ _ _ _ _) ?_)
        exact bodyPost_ret (v := .tuple #[nv ⟨#[]⟩ true k a b d, .int .i64 (q : Int)]) (results_c2 rfl _ _ w.heap.size 36 _ (0, 0) _ rfl HST.out Tryz.underlying36 rfl (by kernel_rfl) _ rfl) rfl ⟨_, _, _, _, _, _, _, rfl, .inr ⟨q, rfl, by have := HE.out; omega, HE.out.2.1, .inr (fun _ => HE.out.2.2)⟩, HFF.out⟩
    · clear hil
      have hi0 : ¬ (((skip rs [0] p : Nat) : Int) < 0) := by omega
      generalize skip rs [0] p = i at *
      clear hv HIN HS HC
      unfold docV at hrd
      generalize hdr : docR rs i = dr at *
      obtain ⟨xo, q⟩ := dr
      cases xo with
      | none =>
       dsimp only at hrd
       have HRD := Lib.hid hrd
       clear hrd hdr HLAST
       go_enter Tryz.func123, Tryz.ntmps123
       go_wp2_with fail
       refine HM.out.mono ?_
       rintro e w1 ⟨rfl, rfl⟩
       generalize w.alloc (.cells #[.string ⟨#[]⟩, .bool false, .int .i64 0, .string ⟨#[]⟩, .string ⟨#[]⟩, .string ⟨#[]⟩] 36) = w0 at *
       go_wp2_with fail
       refine HBL.out.mono ?_
       rintro e w1 ⟨rfl, rfl⟩
       go_wp2_with fail
       refine HRD.out.mono ?_
       rintro e w2 ⟨rfl, hf2⟩
       have hf3 := hf2.alloc (.cells #[.int .i64 0, .string ⟨#[]⟩, .string ⟨#[]⟩, .string ⟨#[]⟩] 34)
       have HB2 := Lib.hid (HB.out.fr hf3 (fun h => h))
       have HF2 := Lib.hid ((HF.out.trans' hf3).mono (T := fun j => w.heap.size ≤ j) (fun _ _ h => h.elim))
       have HTH := Lib.hid (Blk.there (cs := zero36) HB2.out (n := 6) rfl)
       have hl1 := HB2.out.lt
       clear hf2 hf3
       have hst := Blk.setAll (vs := [.string ⟨#[]⟩, .bool false, .int .i64 0, .string ⟨#[]⟩, .string ⟨#[]⟩, .string ⟨#[]⟩]) (old := zero36) HB2.out rfl
       have HST := Lib.hid hst.1
       have HFF := Lib.hid ((HF2.out.trans hst.2 (fun j hj e => by omega)).shut (Nat.le_refl _))
       clear hst
       go_wp2_with (refine wpList_store_mid rfl 36 _ _ rfl _ _ _ rfl rfl HTH.out inf36 (one36 _ _ _ _ _ _) ?_)
       exact bodyPost_ret (v := .tuple #[nv ⟨#[]⟩ false 0 ⟨#[]⟩ ⟨#[]⟩ ⟨#[]⟩, .int .i64 (-1)]) (results_c2 rfl _ _ w.heap.size 36 _ (0, 0) _ rfl HST.out Tryz.underlying36 rfl (by kernel_rfl) _ rfl) rfl ⟨_, _, _, _, _, _, _, rfl, .inl rfl, HFF.out⟩
      | some x =>
       dsimp only at hrd
       cases hg : rGood x with
       | false =>
        rw [hg, if_neg Bool.false_ne_true] at hrd
        have HRD := Lib.hid hrd
        clear hrd hdr HLAST hg
        go_enter Tryz.func123, Tryz.ntmps123
        go_wp2_with fail
        refine HM.out.mono ?_
        rintro e w1 ⟨rfl, rfl⟩
        generalize w.alloc (.cells #[.string ⟨#[]⟩, .bool false, .int .i64 0, .string ⟨#[]⟩, .string ⟨#[]⟩, .string ⟨#[]⟩] 36) = w0 at *
        go_wp2_with fail
        refine HBL.out.mono ?_
        rintro e w1 ⟨rfl, rfl⟩
        go_wp2_with fail
        refine HRD.out.mono ?_
        rintro e w2 ⟨rfl, hf2⟩
        have hf3 := hf2.alloc (.cells #[.int .i64 0, .string ⟨#[]⟩, .string ⟨#[]⟩, .string ⟨#[]⟩] 34)
        have HB2 := Lib.hid (HB.out.fr hf3 (fun h => h))
        have HF2 := Lib.hid ((HF.out.trans' hf3).mono (T := fun j => w.heap.size ≤ j) (fun _ _ h => h.elim))
        have HTH := Lib.hid (Blk.there (cs := zero36) HB2.out (n := 6) rfl)
        have hl1 := HB2.out.lt
        clear hf2 hf3
        have hst := Blk.setAll (vs := [.string ⟨#[]⟩, .bool false, .int .i64 0, .string ⟨#[]⟩, .string ⟨#[]⟩, .string ⟨#[]⟩]) (old := zero36) HB2.out rfl
        have HST := Lib.hid hst.1
        have HFF := Lib.hid ((HF2.out.trans hst.2 (fun j hj e => by omega)).shut (Nat.le_refl _))
        clear hst
        go_wp2_with (refine wpList_store_mid rfl 36 _ _ rfl _ _ _ rfl rfl HTH.out inf36 (one36 _ _ _ _ _ _) ?_)
        exact bodyPost_ret (v := .tuple #[nv ⟨#[]⟩ false 0 ⟨#[]⟩ ⟨#[]⟩ ⟨#[]⟩, .int .i64 (-1)]) (results_c2 rfl _ _ w.heap.size 36 _ (0, 0) _ rfl HST.out Tryz.underlying36 rfl (by kernel_rfl) _ rfl) rfl ⟨_, _, _, _, _, _, _, rfl, .inl rfl, HFF.out⟩
       | true =>
        rw [hg, if_pos rfl] at hrd
        have HE := Lib.hid (HLAST.out x q rfl)
        obtain ⟨k, a, b, d⟩ := x
        unfold DT.cells at hrd
        dsimp only at hrd
        have HRD := Lib.hid hrd
        clear hrd hdr HLAST hg
        go_enter Tryz.func123, Tryz.ntmps123
        go_wp2_with fail
        refine HM.out.mono ?_
        rintro e w1 ⟨rfl, rfl⟩
        generalize w.alloc (.cells #[.string ⟨#[]⟩, .bool false, .int .i64 0, .string ⟨#[]⟩, .string ⟨#[]⟩, .string ⟨#[]⟩] 36) = w0 at *
        go_wp2_with fail
        refine HBL.out.mono ?_
        rintro e w1 ⟨rfl, rfl⟩
        go_wp2_with fail
        refine HRD.out.mono ?_
        rintro e w2 ⟨rfl, hf2⟩
        have hf3 := hf2.alloc (.cells #[.int .i64 k, .string a, .string b, .string d] 34)
        have HB2 := Lib.hid (HB.out.fr hf3 (fun h => h))
        have HF2 := Lib.hid ((HF.out.trans' hf3).mono (T := fun j => w.heap.size ≤ j) (fun _ _ h => h.elim))
        have HTH := Lib.hid (Blk.there (cs := zero36) HB2.out (n := 6) rfl)
        have hl1 := HB2.out.lt
        clear hf2 hf3
        have hst := Blk.setAll (vs := [.string ⟨#[]⟩, .bool true, .int .i64 k, .string a, .string b, .string d]) (old := zero36) HB2.out rfl
        have HST := Lib.hid hst.1
        have HFF := Lib.hid ((HF2.out.trans hst.2 (fun j hj e => by omega)).shut (Nat.le_refl _))
        clear hst
        go_wp2_with (refine wpList_store_mid rfl 36 _ _ rfl _ _ _ rfl rfl HTH.out inf36 (one36 _ _ _ _ _ _) ?_)
        exact bodyPost_ret (v := .tuple #[nv ⟨#[]⟩ true k a b d, .int .i64 (q : Int)]) (results_c2 rfl _ _ w.heap.size 36 _ (0, 0) _ rfl HST.out Tryz.underlying36 rfl (by kernel_rfl) _ rfl) rfl ⟨_, _, _, _, _, _, _, rfl, .inr ⟨q, rfl, by have := HE.out; omega, HE.out.2.1, .inr (fun _ => HE.out.2.2)⟩, HFF.out⟩

abbrev ev (o v : ByteArray) (b : Bool) (k : Int) (t1 t2 t3 : ByteArray) (A : Option Addr) (n c : Nat) : Value := .agg #[.string o, .string v, .bool b, .int .i64 k, .string t1, .string t2, .string t3, .slice A n c]
def zero42 : List Value := [.string ⟨#[]⟩, .string ⟨#[]⟩, .bool false, .int .i64 0, .string ⟨#[]⟩, .string ⟨#[]⟩, .string ⟨#[]⟩, .slice none 0 0]
theorem inf42 : (Tryz.prog.info? 42).map (·.size) = some 8 := by kernel_rfl
theorem one42 (o v : ByteArray) (b : Bool) (k : Int) (t1 t2 t3 : ByteArray) (A : Option Addr) (n c : Nat) : (#[.string o, .string v, .bool b, .int .i64 k, .string t1, .string t2, .string t3, .slice A n c] : Array Value).all (·.oneCell') = true := all_oneCell_toArray (cs := [.string o, .string v, .bool b, .int .i64 k, .string t1, .string t2, .string t3, .slice A n c]) (by
 intro v hv
 simp only [List.mem_cons, List.not_mem_nil, or_false] at hv
 rcases hv with rfl | rfl | rfl | rfl | rfl | rfl | rfl | rfl <;> rfl)
theorem rshallow (E d : Int) (w : World) : Calls Tryz.prog 94 #[.int .i64 E, .int .i64 d] w fun e w' => e = .returned (.int .i64 (if d > 40 then -1 else E)) ∧ w = w' := by
 by_cases h : d > 40
 · rw [if_pos h]
   go_enter Tryz.func94, Tryz.ntmps94
   go_wp2_with fail
   go_ret
   exact ⟨rfl, rfl⟩
 · rw [if_neg h]
   go_enter Tryz.func94, Tryz.ntmps94
   go_wp2_with fail
   go_ret
   exact ⟨rfl, rfl⟩
/-- A sign between, or none. -/
def BetPost (rs : List Int) (p : Nat) (w : World) (e : Ending) (w' : World) : Prop :=
 ∃ (s : ByteArray) (E : Int), e = .returned (.tuple #[.string s, .int .i64 E]) ∧ (E = -1 ∨ ∃ q : Nat, E = (q : Int) ∧ p < q ∧ q ≤ rs.length) ∧ Fr (fun _ => False) w w'
theorem isAt_in {rs : List Int} {f : Nat} {T : ByteArray} (hT : 0 < T.size) (h : isAt rs f (txt T) = true) : f + T.size ≤ rs.length := by
 have hl : (txt T).length = T.size := txt_len T
 unfold isAt at h
 rw [List.all_eq_true] at h
 have h1 := h (T.size - 1) (List.mem_range.2 (by omega))
 have h2 : peekOf rs (f + (T.size - 1)) = (txt T).getD (T.size - 1) 0 := by simpa using h1
 have h3 : 0 ≤ (txt T).getD (T.size - 1) 0 := by
  rw [List.getD_eq_getElem?_getD, List.getElem?_eq_getElem (by omega), Option.getD_some]
  unfold txt
  simp
 have := peek_lt (rs := rs) (p := f + (T.size - 1)) (by omega)
 omega
theorem mk_or {rs : List Int} {p : Nat} {T : ByteArray} (hT : 0 < T.size) (hp : p ≤ rs.length) : mkI rs p T = -1 ∨ ∃ q : Nat, mkI rs p T = (q : Int) ∧ p < q ∧ q ≤ rs.length := by
 unfold mkI
 by_cases h : markAt rs p T = true
 · rw [if_pos h, markTo_yes h]
   unfold markAt at h
   have := isAt_in hT h
   have := (skip_le rs [0] (rs.length - p) p (Nat.le_refl _) hp).1
   exact .inr ⟨_, rfl, by omega, by omega⟩
 · rw [if_neg h]
   exact .inl rfl
theorem wd_or {rs : List Int} {p : Nat} {T : ByteArray} (hT : 0 < T.size) (hp : p ≤ rs.length) : wdI rs p T = -1 ∨ ∃ q : Nat, wdI rs p T = (q : Int) ∧ p < q ∧ q ≤ rs.length := by
 unfold wdI
 by_cases h : wordAt rs p T = true
 · rw [if_pos h]
   unfold wordTo
   rw [if_pos h]
   unfold wordAt at h
   rw [Bool.and_eq_true] at h
   have := isAt_in hT h.1
   have := (skip_le rs [0] (rs.length - p) p (Nat.le_refl _) hp).1
   exact .inr ⟨_, rfl, by omega, by omega⟩
 · rw [if_neg h]
   exact .inl rfl
/-- A place behind, or none. -/
def Beh (rs : List Int) (p : Nat) (E : Int) : Prop := E = -1 ∨ ∃ q : Nat, E = (q : Int) ∧ p < q ∧ q ≤ rs.length
theorem rmk_weak (T : ByteArray) (g c p : Nat) (rs : List Int) (w : World) (hT : T.size ≤ 100) (hT0 : 0 < T.size) (hl : rs.length ≤ 8100) (hv : ∀ r, r ∈ rs → signR r = true) (hp : p ≤ rs.length) (h : Ls w g c rs) :
    Calls Tryz.prog 27 #[.slice (some ⟨g, 0, none⟩) rs.length c, .int .i64 (p : Int), .string T] w fun e w' => ∃ E, e = .returned (.int .i64 E) ∧ Beh rs p E ∧ w = w' :=
 (rmark_any T g c p rs w hT hl hv hp h).mono fun e w' h1 => ⟨_, h1.1, mk_or hT0 hp, h1.2⟩
theorem rwd_weak (T : ByteArray) (g c p : Nat) (rs : List Int) (w : World) (hT : T.size ≤ 100) (hT0 : 0 < T.size) (hl : rs.length ≤ 8100) (hv : ∀ r, r ∈ rs → signR r = true) (hp : p ≤ rs.length) (h : Ls w g c rs) :
    Calls Tryz.prog 25 #[.slice (some ⟨g, 0, none⟩) rs.length c, .int .i64 (p : Int), .string T] w fun e w' => ∃ E, e = .returned (.int .i64 E) ∧ Beh rs p E ∧ w = w' :=
 (rword2_any T g c p rs w hT hl hv hp h).mono fun e w' h1 => ⟨_, h1.1, wd_or hT0 hp, h1.2⟩

def cells30 : List Value := [.string ⟨#[124, 124]⟩, .string ⟨#[]⟩, .string ⟨#[]⟩, .string ⟨#[]⟩, .string ⟨#[]⟩, .string ⟨#[]⟩, .string ⟨#[38, 38]⟩, .string ⟨#[]⟩, .string ⟨#[]⟩, .string ⟨#[]⟩, .string ⟨#[]⟩, .string ⟨#[]⟩, .string ⟨#[61]⟩, .string ⟨#[33, 61]⟩, .string ⟨#[60, 61]⟩, .string ⟨#[62, 61]⟩, .string ⟨#[60]⟩, .string ⟨#[62]⟩, .string ⟨#[43]⟩, .string ⟨#[45]⟩, .string ⟨#[]⟩, .string ⟨#[]⟩, .string ⟨#[]⟩, .string ⟨#[]⟩, .string ⟨#[42]⟩, .string ⟨#[47]⟩, .string ⟨#[]⟩, .string ⟨#[]⟩, .string ⟨#[]⟩, .string ⟨#[]⟩]
def zero30 : List Value := [.string ⟨#[]⟩, .string ⟨#[]⟩, .string ⟨#[]⟩, .string ⟨#[]⟩, .string ⟨#[]⟩, .string ⟨#[]⟩, .string ⟨#[]⟩, .string ⟨#[]⟩, .string ⟨#[]⟩, .string ⟨#[]⟩, .string ⟨#[]⟩, .string ⟨#[]⟩, .string ⟨#[]⟩, .string ⟨#[]⟩, .string ⟨#[]⟩, .string ⟨#[]⟩, .string ⟨#[]⟩, .string ⟨#[]⟩, .string ⟨#[]⟩, .string ⟨#[]⟩, .string ⟨#[]⟩, .string ⟨#[]⟩, .string ⟨#[]⟩, .string ⟨#[]⟩, .string ⟨#[]⟩, .string ⟨#[]⟩, .string ⟨#[]⟩, .string ⟨#[]⟩, .string ⟨#[]⟩, .string ⟨#[]⟩]
theorem inf243 : (Tryz.prog.info? 243).map (·.size) = some 30 := by kernel_rfl
theorem inf242 : (Tryz.prog.info? 242).map (·.size) = some 6 := by kernel_rfl
theorem one30 : (#[.string ⟨#[124, 124]⟩, .string ⟨#[]⟩, .string ⟨#[]⟩, .string ⟨#[]⟩, .string ⟨#[]⟩, .string ⟨#[]⟩, .string ⟨#[38, 38]⟩, .string ⟨#[]⟩, .string ⟨#[]⟩, .string ⟨#[]⟩, .string ⟨#[]⟩, .string ⟨#[]⟩, .string ⟨#[61]⟩, .string ⟨#[33, 61]⟩, .string ⟨#[60, 61]⟩, .string ⟨#[62, 61]⟩, .string ⟨#[60]⟩, .string ⟨#[62]⟩, .string ⟨#[43]⟩, .string ⟨#[45]⟩, .string ⟨#[]⟩, .string ⟨#[]⟩, .string ⟨#[]⟩, .string ⟨#[]⟩, .string ⟨#[42]⟩, .string ⟨#[47]⟩, .string ⟨#[]⟩, .string ⟨#[]⟩, .string ⟨#[]⟩, .string ⟨#[]⟩] : Array Value).all (·.oneCell') = true := by kernel_rfl
theorem bld_0 (w : World) : (Instr.build 242 #[(0, .string ⟨#[124, 124]⟩)]).run Tryz.prog w = .ok (.agg #[.string ⟨#[124, 124]⟩, .string ⟨#[]⟩, .string ⟨#[]⟩, .string ⟨#[]⟩, .string ⟨#[]⟩, .string ⟨#[]⟩]) w := by kernel_rfl
theorem bld_1 (w : World) : (Instr.build 242 #[(0, .string ⟨#[38, 38]⟩)]).run Tryz.prog w = .ok (.agg #[.string ⟨#[38, 38]⟩, .string ⟨#[]⟩, .string ⟨#[]⟩, .string ⟨#[]⟩, .string ⟨#[]⟩, .string ⟨#[]⟩]) w := by kernel_rfl
theorem bld_2 (w : World) : (Instr.build 242 #[(0, .string ⟨#[61]⟩), (1, .string ⟨#[33, 61]⟩), (2, .string ⟨#[60, 61]⟩), (3, .string ⟨#[62, 61]⟩), (4, .string ⟨#[60]⟩), (5, .string ⟨#[62]⟩)]).run Tryz.prog w = .ok (.agg #[.string ⟨#[61]⟩, .string ⟨#[33, 61]⟩, .string ⟨#[60, 61]⟩, .string ⟨#[62, 61]⟩, .string ⟨#[60]⟩, .string ⟨#[62]⟩]) w := by kernel_rfl
theorem bld_3 (w : World) : (Instr.build 242 #[(0, .string ⟨#[43]⟩), (1, .string ⟨#[45]⟩)]).run Tryz.prog w = .ok (.agg #[.string ⟨#[43]⟩, .string ⟨#[45]⟩, .string ⟨#[]⟩, .string ⟨#[]⟩, .string ⟨#[]⟩, .string ⟨#[]⟩]) w := by kernel_rfl
theorem bld_4 (w : World) : (Instr.build 242 #[(0, .string ⟨#[42]⟩), (1, .string ⟨#[47]⟩)]).run Tryz.prog w = .ok (.agg #[.string ⟨#[42]⟩, .string ⟨#[47]⟩, .string ⟨#[]⟩, .string ⟨#[]⟩, .string ⟨#[]⟩, .string ⟨#[]⟩]) w := by kernel_rfl
theorem bld5 (w : World) : (Instr.build 243 #[(0, .agg #[.string ⟨#[124, 124]⟩, .string ⟨#[]⟩, .string ⟨#[]⟩, .string ⟨#[]⟩, .string ⟨#[]⟩, .string ⟨#[]⟩]), (1, .agg #[.string ⟨#[38, 38]⟩, .string ⟨#[]⟩, .string ⟨#[]⟩, .string ⟨#[]⟩, .string ⟨#[]⟩, .string ⟨#[]⟩]), (2, .agg #[.string ⟨#[61]⟩, .string ⟨#[33, 61]⟩, .string ⟨#[60, 61]⟩, .string ⟨#[62, 61]⟩, .string ⟨#[60]⟩, .string ⟨#[62]⟩]), (3, .agg #[.string ⟨#[43]⟩, .string ⟨#[45]⟩, .string ⟨#[]⟩, .string ⟨#[]⟩, .string ⟨#[]⟩, .string ⟨#[]⟩]), (4, .agg #[.string ⟨#[42]⟩, .string ⟨#[47]⟩, .string ⟨#[]⟩, .string ⟨#[]⟩, .string ⟨#[]⟩, .string ⟨#[]⟩])]).run Tryz.prog w = .ok (.agg #[.string ⟨#[124, 124]⟩, .string ⟨#[]⟩, .string ⟨#[]⟩, .string ⟨#[]⟩, .string ⟨#[]⟩, .string ⟨#[]⟩, .string ⟨#[38, 38]⟩, .string ⟨#[]⟩, .string ⟨#[]⟩, .string ⟨#[]⟩, .string ⟨#[]⟩, .string ⟨#[]⟩, .string ⟨#[61]⟩, .string ⟨#[33, 61]⟩, .string ⟨#[60, 61]⟩, .string ⟨#[62, 61]⟩, .string ⟨#[60]⟩, .string ⟨#[62]⟩, .string ⟨#[43]⟩, .string ⟨#[45]⟩, .string ⟨#[]⟩, .string ⟨#[]⟩, .string ⟨#[]⟩, .string ⟨#[]⟩, .string ⟨#[42]⟩, .string ⟨#[47]⟩, .string ⟨#[]⟩, .string ⟨#[]⟩, .string ⟨#[]⟩, .string ⟨#[]⟩]) w := by kernel_rfl
theorem ext_0 : (cells30.toArray.extract 0 (0 + 6)).toList = [.string ⟨#[124, 124]⟩, .string ⟨#[]⟩, .string ⟨#[]⟩, .string ⟨#[]⟩, .string ⟨#[]⟩, .string ⟨#[]⟩] := by simp [cells30]
theorem ext_1 : (cells30.toArray.extract 6 (6 + 6)).toList = [.string ⟨#[38, 38]⟩, .string ⟨#[]⟩, .string ⟨#[]⟩, .string ⟨#[]⟩, .string ⟨#[]⟩, .string ⟨#[]⟩] := by simp [cells30]
theorem ext_2 : (cells30.toArray.extract 12 (12 + 6)).toList = [.string ⟨#[61]⟩, .string ⟨#[33, 61]⟩, .string ⟨#[60, 61]⟩, .string ⟨#[62, 61]⟩, .string ⟨#[60]⟩, .string ⟨#[62]⟩] := by simp [cells30]
theorem ext_3 : (cells30.toArray.extract 18 (18 + 6)).toList = [.string ⟨#[43]⟩, .string ⟨#[45]⟩, .string ⟨#[]⟩, .string ⟨#[]⟩, .string ⟨#[]⟩, .string ⟨#[]⟩] := by simp [cells30]
theorem ext_4 : (cells30.toArray.extract 24 (24 + 6)).toList = [.string ⟨#[42]⟩, .string ⟨#[47]⟩, .string ⟨#[]⟩, .string ⟨#[]⟩, .string ⟨#[]⟩, .string ⟨#[]⟩] := by simp [cells30]
theorem ixB_0 (a0 a1 a2 a3 a4 a5 : ByteArray) (w : World) : (Instr.index 242 (.agg #[.string a0, .string a1, .string a2, .string a3, .string a4, .string a5]) (.int .i64 0)).run Tryz.prog w = .ok (.string a0) w := by kernel_rfl
theorem ixB_1 (a0 a1 a2 a3 a4 a5 : ByteArray) (w : World) : (Instr.index 242 (.agg #[.string a0, .string a1, .string a2, .string a3, .string a4, .string a5]) (.int .i64 1)).run Tryz.prog w = .ok (.string a1) w := by kernel_rfl
theorem ixB_2 (a0 a1 a2 a3 a4 a5 : ByteArray) (w : World) : (Instr.index 242 (.agg #[.string a0, .string a1, .string a2, .string a3, .string a4, .string a5]) (.int .i64 2)).run Tryz.prog w = .ok (.string a2) w := by kernel_rfl
theorem ixB_3 (a0 a1 a2 a3 a4 a5 : ByteArray) (w : World) : (Instr.index 242 (.agg #[.string a0, .string a1, .string a2, .string a3, .string a4, .string a5]) (.int .i64 3)).run Tryz.prog w = .ok (.string a3) w := by kernel_rfl
theorem ixB_4 (a0 a1 a2 a3 a4 a5 : ByteArray) (w : World) : (Instr.index 242 (.agg #[.string a0, .string a1, .string a2, .string a3, .string a4, .string a5]) (.int .i64 4)).run Tryz.prog w = .ok (.string a4) w := by kernel_rfl
theorem ixB_5 (a0 a1 a2 a3 a4 a5 : ByteArray) (w : World) : (Instr.index 242 (.agg #[.string a0, .string a1, .string a2, .string a3, .string a4, .string a5]) (.int .i64 5)).run Tryz.prog w = .ok (.string a5) w := by kernel_rfl
theorem bet_facts (w : World) (g c : Nat) (rs : List Int) (k0 k1 k2 k3 k4 k5 : Nat) (a0 a1 a2 a3 a4 a5 : ByteArray) (e1 : k1 = k0 + 1) (e2 : k2 = k0 + 2) (e3 : k3 = k0 + 3) (e4 : k4 = k0 + 4) (e5 : k5 = k0 + 5)
    (hx : (cells30.toArray.extract k0 (k0 + 6)).toList = [.string a0, .string a1, .string a2, .string a3, .string a4, .string a5]) (h : Ls w g c rs) : ∃ W, W = ((w.alloc (.cells #[.string ⟨#[]⟩, .string ⟨#[]⟩, .string ⟨#[]⟩, .string ⟨#[]⟩, .string ⟨#[]⟩, .string ⟨#[]⟩, .string ⟨#[]⟩, .string ⟨#[]⟩, .string ⟨#[]⟩, .string ⟨#[]⟩, .string ⟨#[]⟩, .string ⟨#[]⟩, .string ⟨#[]⟩, .string ⟨#[]⟩, .string ⟨#[]⟩, .string ⟨#[]⟩, .string ⟨#[]⟩, .string ⟨#[]⟩, .string ⟨#[]⟩, .string ⟨#[]⟩, .string ⟨#[]⟩, .string ⟨#[]⟩, .string ⟨#[]⟩, .string ⟨#[]⟩, .string ⟨#[]⟩, .string ⟨#[]⟩, .string ⟨#[]⟩, .string ⟨#[]⟩, .string ⟨#[]⟩, .string ⟨#[]⟩] 243)).setCells w.heap.size 0 (#[.string ⟨#[124, 124]⟩, .string ⟨#[]⟩, .string ⟨#[]⟩, .string ⟨#[]⟩, .string ⟨#[]⟩, .string ⟨#[]⟩, .string ⟨#[38, 38]⟩, .string ⟨#[]⟩, .string ⟨#[]⟩, .string ⟨#[]⟩, .string ⟨#[]⟩, .string ⟨#[]⟩, .string ⟨#[61]⟩, .string ⟨#[33, 61]⟩, .string ⟨#[60, 61]⟩, .string ⟨#[62, 61]⟩, .string ⟨#[60]⟩, .string ⟨#[62]⟩, .string ⟨#[43]⟩, .string ⟨#[45]⟩, .string ⟨#[]⟩, .string ⟨#[]⟩, .string ⟨#[]⟩, .string ⟨#[]⟩, .string ⟨#[42]⟩, .string ⟨#[47]⟩, .string ⟨#[]⟩, .string ⟨#[]⟩, .string ⟨#[]⟩, .string ⟨#[]⟩] : Array Value).toList) ∧
    Hid (Fr (fun _ => False) w W) ∧ Hid (W.rangeAt w.heap.size k0 [.string a0, .string a1, .string a2, .string a3, .string a4, .string a5]) ∧
    (W.cell? ⟨w.heap.size, k0, none⟩ = some (.string a0) ∧ W.cell? ⟨w.heap.size, k1, none⟩ = some (.string a1) ∧ W.cell? ⟨w.heap.size, k2, none⟩ = some (.string a2) ∧ W.cell? ⟨w.heap.size, k3, none⟩ = some (.string a3) ∧ W.cell? ⟨w.heap.size, k4, none⟩ = some (.string a4) ∧ W.cell? ⟨w.heap.size, k5, none⟩ = some (.string a5)) ∧
    Ls W g c rs ∧ Hid ((w.alloc (.cells #[.string ⟨#[]⟩, .string ⟨#[]⟩, .string ⟨#[]⟩, .string ⟨#[]⟩, .string ⟨#[]⟩, .string ⟨#[]⟩, .string ⟨#[]⟩, .string ⟨#[]⟩, .string ⟨#[]⟩, .string ⟨#[]⟩, .string ⟨#[]⟩, .string ⟨#[]⟩, .string ⟨#[]⟩, .string ⟨#[]⟩, .string ⟨#[]⟩, .string ⟨#[]⟩, .string ⟨#[]⟩, .string ⟨#[]⟩, .string ⟨#[]⟩, .string ⟨#[]⟩, .string ⟨#[]⟩, .string ⟨#[]⟩, .string ⟨#[]⟩, .string ⟨#[]⟩, .string ⟨#[]⟩, .string ⟨#[]⟩, .string ⟨#[]⟩, .string ⟨#[]⟩, .string ⟨#[]⟩, .string ⟨#[]⟩] 243)).there w.heap.size 0 (#[.string ⟨#[124, 124]⟩, .string ⟨#[]⟩, .string ⟨#[]⟩, .string ⟨#[]⟩, .string ⟨#[]⟩, .string ⟨#[]⟩, .string ⟨#[38, 38]⟩, .string ⟨#[]⟩, .string ⟨#[]⟩, .string ⟨#[]⟩, .string ⟨#[]⟩, .string ⟨#[]⟩, .string ⟨#[61]⟩, .string ⟨#[33, 61]⟩, .string ⟨#[60, 61]⟩, .string ⟨#[62, 61]⟩, .string ⟨#[60]⟩, .string ⟨#[62]⟩, .string ⟨#[43]⟩, .string ⟨#[45]⟩, .string ⟨#[]⟩, .string ⟨#[]⟩, .string ⟨#[]⟩, .string ⟨#[]⟩, .string ⟨#[42]⟩, .string ⟨#[47]⟩, .string ⟨#[]⟩, .string ⟨#[]⟩, .string ⟨#[]⟩, .string ⟨#[]⟩] : Array Value).size) ∧ w.heap.size < (w.alloc (.cells #[.string ⟨#[]⟩, .string ⟨#[]⟩, .string ⟨#[]⟩, .string ⟨#[]⟩, .string ⟨#[]⟩, .string ⟨#[]⟩, .string ⟨#[]⟩, .string ⟨#[]⟩, .string ⟨#[]⟩, .string ⟨#[]⟩, .string ⟨#[]⟩, .string ⟨#[]⟩, .string ⟨#[]⟩, .string ⟨#[]⟩, .string ⟨#[]⟩, .string ⟨#[]⟩, .string ⟨#[]⟩, .string ⟨#[]⟩, .string ⟨#[]⟩, .string ⟨#[]⟩, .string ⟨#[]⟩, .string ⟨#[]⟩, .string ⟨#[]⟩, .string ⟨#[]⟩, .string ⟨#[]⟩, .string ⟨#[]⟩, .string ⟨#[]⟩, .string ⟨#[]⟩, .string ⟨#[]⟩, .string ⟨#[]⟩] 243)).heap.size := by
 refine ⟨_, rfl, ?_⟩
 have f0 : Fr (fun _ => False) w (w.alloc (.cells #[.string ⟨#[]⟩, .string ⟨#[]⟩, .string ⟨#[]⟩, .string ⟨#[]⟩, .string ⟨#[]⟩, .string ⟨#[]⟩, .string ⟨#[]⟩, .string ⟨#[]⟩, .string ⟨#[]⟩, .string ⟨#[]⟩, .string ⟨#[]⟩, .string ⟨#[]⟩, .string ⟨#[]⟩, .string ⟨#[]⟩, .string ⟨#[]⟩, .string ⟨#[]⟩, .string ⟨#[]⟩, .string ⟨#[]⟩, .string ⟨#[]⟩, .string ⟨#[]⟩, .string ⟨#[]⟩, .string ⟨#[]⟩, .string ⟨#[]⟩, .string ⟨#[]⟩, .string ⟨#[]⟩, .string ⟨#[]⟩, .string ⟨#[]⟩, .string ⟨#[]⟩, .string ⟨#[]⟩, .string ⟨#[]⟩] 243)) := (Fr.refl _ _).alloc _
 have hb : Blk (w.alloc (.cells #[.string ⟨#[]⟩, .string ⟨#[]⟩, .string ⟨#[]⟩, .string ⟨#[]⟩, .string ⟨#[]⟩, .string ⟨#[]⟩, .string ⟨#[]⟩, .string ⟨#[]⟩, .string ⟨#[]⟩, .string ⟨#[]⟩, .string ⟨#[]⟩, .string ⟨#[]⟩, .string ⟨#[]⟩, .string ⟨#[]⟩, .string ⟨#[]⟩, .string ⟨#[]⟩, .string ⟨#[]⟩, .string ⟨#[]⟩, .string ⟨#[]⟩, .string ⟨#[]⟩, .string ⟨#[]⟩, .string ⟨#[]⟩, .string ⟨#[]⟩, .string ⟨#[]⟩, .string ⟨#[]⟩, .string ⟨#[]⟩, .string ⟨#[]⟩, .string ⟨#[]⟩, .string ⟨#[]⟩, .string ⟨#[]⟩] 243)) w.heap.size 243 zero30.toArray := Blk.new w 243 #[.string ⟨#[]⟩, .string ⟨#[]⟩, .string ⟨#[]⟩, .string ⟨#[]⟩, .string ⟨#[]⟩, .string ⟨#[]⟩, .string ⟨#[]⟩, .string ⟨#[]⟩, .string ⟨#[]⟩, .string ⟨#[]⟩, .string ⟨#[]⟩, .string ⟨#[]⟩, .string ⟨#[]⟩, .string ⟨#[]⟩, .string ⟨#[]⟩, .string ⟨#[]⟩, .string ⟨#[]⟩, .string ⟨#[]⟩, .string ⟨#[]⟩, .string ⟨#[]⟩, .string ⟨#[]⟩, .string ⟨#[]⟩, .string ⟨#[]⟩, .string ⟨#[]⟩, .string ⟨#[]⟩, .string ⟨#[]⟩, .string ⟨#[]⟩, .string ⟨#[]⟩, .string ⟨#[]⟩, .string ⟨#[]⟩]
 have hst := Blk.setAll (vs := cells30) (old := zero30) hb rfl
 have HTH := Lib.hid (Blk.there (cs := zero30) hb (n := 30) rfl)
 have hra := World.rangeAt_of_block hst.1 k0 6
 rw [hx] at hra
 have hf := ((f0.mono (T := fun j => w.heap.size ≤ j) (fun _ _ h => h.elim)).trans hst.2 (fun j hj e => by omega)).shut (Nat.le_refl _)
 have hs := h.frF hf
 unfold cells30 at hf hra hs
 subst e1 e2 e3 e4 e5
 exact ⟨Lib.hid hf, Lib.hid hra, ⟨hra 0 _ rfl, hra 1 _ rfl, hra 2 _ rfl, hra 3 _ rfl, hra 4 _ rfl, hra 5 _ rfl⟩, hs, HTH, hb.lt⟩

theorem rbet_0 (g c p : Nat) (rs : List Int) (w : World) (hl : rs.length ≤ 8100) (hv : ∀ r, r ∈ rs → signR r = true) (hp : p ≤ rs.length) (h : Ls w g c rs) :
    Calls Tryz.prog 122 #[.slice (some ⟨g, 0, none⟩) rs.length c, .int .i64 (p : Int), .int .i64 0] w (BetPost rs p w) := by
 obtain ⟨W, hW, HF, HRA, ⟨c0, c1, c2, c3, c4, c5⟩, hs, HT3, hlb⟩ := bet_facts w g c rs 0 1 2 3 4 5 _ _ _ _ _ _ rfl rfl rfl rfl rfl ext_0 h
 subst hW
 have HI3 := Lib.hid (show (Tryz.prog.info? 243).map (·.size) = some (#[.string ⟨#[124, 124]⟩, .string ⟨#[]⟩, .string ⟨#[]⟩, .string ⟨#[]⟩, .string ⟨#[]⟩, .string ⟨#[]⟩, .string ⟨#[38, 38]⟩, .string ⟨#[]⟩, .string ⟨#[]⟩, .string ⟨#[]⟩, .string ⟨#[]⟩, .string ⟨#[]⟩, .string ⟨#[61]⟩, .string ⟨#[33, 61]⟩, .string ⟨#[60, 61]⟩, .string ⟨#[62, 61]⟩, .string ⟨#[60]⟩, .string ⟨#[62]⟩, .string ⟨#[43]⟩, .string ⟨#[45]⟩, .string ⟨#[]⟩, .string ⟨#[]⟩, .string ⟨#[]⟩, .string ⟨#[]⟩, .string ⟨#[42]⟩, .string ⟨#[47]⟩, .string ⟨#[]⟩, .string ⟨#[]⟩, .string ⟨#[]⟩, .string ⟨#[]⟩] : Array Value).size from inf243)
 have H13 := Lib.hid (show (#[.string ⟨#[124, 124]⟩, .string ⟨#[]⟩, .string ⟨#[]⟩, .string ⟨#[]⟩, .string ⟨#[]⟩, .string ⟨#[]⟩, .string ⟨#[38, 38]⟩, .string ⟨#[]⟩, .string ⟨#[]⟩, .string ⟨#[]⟩, .string ⟨#[]⟩, .string ⟨#[]⟩, .string ⟨#[61]⟩, .string ⟨#[33, 61]⟩, .string ⟨#[60, 61]⟩, .string ⟨#[62, 61]⟩, .string ⟨#[60]⟩, .string ⟨#[62]⟩, .string ⟨#[43]⟩, .string ⟨#[45]⟩, .string ⟨#[]⟩, .string ⟨#[]⟩, .string ⟨#[]⟩, .string ⟨#[]⟩, .string ⟨#[42]⟩, .string ⟨#[47]⟩, .string ⟨#[]⟩, .string ⟨#[]⟩, .string ⟨#[]⟩, .string ⟨#[]⟩] : Array Value).all (·.oneCell') = true from one30)
 have HM := Lib.hid (fun T (h1 : T.size ≤ 100) (h2 : 0 < T.size) => rmk_weak T g c p rs _ h1 h2 hl hv hp hs)
 have b0 := bld_0
 have b1 := bld_1
 have b2 := bld_2
 have b3 := bld_3
 have b4 := bld_4
 have b5 := bld5
 clear hs h hv
 go_enter Tryz.func122, Tryz.ntmps122
 go_wp2_with (first | (with_reducible change wpList _ _ _ (Oper.mk _ (.store 243 _ _) _ _ _ _ :: _) _ _; generalize (#[.string ⟨#[124, 124]⟩, .string ⟨#[]⟩, .string ⟨#[]⟩, .string ⟨#[]⟩, .string ⟨#[]⟩, .string ⟨#[]⟩, .string ⟨#[38, 38]⟩, .string ⟨#[]⟩, .string ⟨#[]⟩, .string ⟨#[]⟩, .string ⟨#[]⟩, .string ⟨#[]⟩, .string ⟨#[61]⟩, .string ⟨#[33, 61]⟩, .string ⟨#[60, 61]⟩, .string ⟨#[62, 61]⟩, .string ⟨#[60]⟩, .string ⟨#[62]⟩, .string ⟨#[43]⟩, .string ⟨#[45]⟩, .string ⟨#[]⟩, .string ⟨#[]⟩, .string ⟨#[]⟩, .string ⟨#[]⟩, .string ⟨#[42]⟩, .string ⟨#[47]⟩, .string ⟨#[]⟩, .string ⟨#[]⟩, .string ⟨#[]⟩, .string ⟨#[]⟩] : Array Value) = C at *; refine wpList_store_mid rfl 243 _ _ rfl _ _ _ rfl rfl HT3.out HI3.out H13.out ?_) | (with_reducible change wpList _ _ _ (Oper.mk _ (.load 242 _) _ _ _ _ :: _) _ _; refine wpList_load_mid rfl 242 _ rfl _ _ rfl _ _ HRA.out Tryz.underlying242 rfl inf242 ?_))
 generalize (w.alloc (.cells #[.string ⟨#[]⟩, .string ⟨#[]⟩, .string ⟨#[]⟩, .string ⟨#[]⟩, .string ⟨#[]⟩, .string ⟨#[]⟩, .string ⟨#[]⟩, .string ⟨#[]⟩, .string ⟨#[]⟩, .string ⟨#[]⟩, .string ⟨#[]⟩, .string ⟨#[]⟩, .string ⟨#[]⟩, .string ⟨#[]⟩, .string ⟨#[]⟩, .string ⟨#[]⟩, .string ⟨#[]⟩, .string ⟨#[]⟩, .string ⟨#[]⟩, .string ⟨#[]⟩, .string ⟨#[]⟩, .string ⟨#[]⟩, .string ⟨#[]⟩, .string ⟨#[]⟩, .string ⟨#[]⟩, .string ⟨#[]⟩, .string ⟨#[]⟩, .string ⟨#[]⟩, .string ⟨#[]⟩, .string ⟨#[]⟩] 243)).setCells w.heap.size 0 C.toList = w0 at *
 generalize (Value.agg #[.string ⟨#[38, 38]⟩, .string ⟨#[]⟩, .string ⟨#[]⟩, .string ⟨#[]⟩, .string ⟨#[]⟩, .string ⟨#[]⟩] : Value) = A13
 generalize (Value.agg #[.string ⟨#[61]⟩, .string ⟨#[33, 61]⟩, .string ⟨#[60, 61]⟩, .string ⟨#[62, 61]⟩, .string ⟨#[60]⟩, .string ⟨#[62]⟩] : Value) = A14
 generalize (Value.agg #[.string ⟨#[43]⟩, .string ⟨#[45]⟩, .string ⟨#[]⟩, .string ⟨#[]⟩, .string ⟨#[]⟩, .string ⟨#[]⟩] : Value) = A15
 generalize (Value.agg #[.string ⟨#[42]⟩, .string ⟨#[47]⟩, .string ⟨#[]⟩, .string ⟨#[]⟩, .string ⟨#[]⟩, .string ⟨#[]⟩] : Value) = A16
 go_loopg [21] (6) (fun gk a wr => ∃ k : Int, a = .int .i64 k ∧ 6 ≤ k + gk ∧ 0 ≤ k ∧ k ≤ 6 ∧ w0 = wr)
 case atStart => exact ⟨0, rfl, by omega, by omega, by omega, rfl⟩
 case round =>
  obtain ⟨k, rfl, hg, hk0, hk, rfl⟩ := hrel
  have hk7 : k = 0 ∨ k = 1 ∨ k = 2 ∨ k = 3 ∨ k = 4 ∨ k = 5 ∨ k = 6 := by omega
  rcases hk7 with rfl | rfl | rfl | rfl | rfl | rfl | rfl
  · have hix := ixB_0
    go_wp2_with fail
    refine (HM.out ⟨#[124, 124]⟩ (by decide) (by decide)).mono ?_
    rintro e w2 ⟨E, rfl, hE, rfl⟩
    rcases hE with rfl | ⟨q, rfl, h1, h2⟩
    · go_wp2_with fail
      go_roundg (6 - 1)
      case measure => omega
      case rel => exact ⟨1, rfl, by omega, by omega, by omega, rfl⟩
    · go_wp2_with fail
      go_ret2
      exact ⟨_, _, rfl, .inr ⟨q, rfl, h1, h2⟩, HF.out⟩
  · have hix := ixB_1
    go_wp2_with fail
    go_roundg (6 - 2)
    case measure => omega
    case rel => exact ⟨2, rfl, by omega, by omega, by omega, rfl⟩
  · have hix := ixB_2
    go_wp2_with fail
    go_roundg (6 - 3)
    case measure => omega
    case rel => exact ⟨3, rfl, by omega, by omega, by omega, rfl⟩
  · have hix := ixB_3
    go_wp2_with fail
    go_roundg (6 - 4)
    case measure => omega
    case rel => exact ⟨4, rfl, by omega, by omega, by omega, rfl⟩
  · have hix := ixB_4
    go_wp2_with fail
    go_roundg (6 - 5)
    case measure => omega
    case rel => exact ⟨5, rfl, by omega, by omega, by omega, rfl⟩
  · have hix := ixB_5
    go_wp2_with fail
    go_roundg (6 - 6)
    case measure => omega
    case rel => exact ⟨6, rfl, by omega, by omega, by omega, rfl⟩
  · go_wp2_with fail
    go_ret2
    exact ⟨_, _, rfl, .inl rfl, HF.out⟩

theorem rbet_1 (g c p : Nat) (rs : List Int) (w : World) (hl : rs.length ≤ 8100) (hv : ∀ r, r ∈ rs → signR r = true) (hp : p ≤ rs.length) (h : Ls w g c rs) :
    Calls Tryz.prog 122 #[.slice (some ⟨g, 0, none⟩) rs.length c, .int .i64 (p : Int), .int .i64 1] w (BetPost rs p w) := by
 obtain ⟨W, hW, HF, HRA, ⟨c0, c1, c2, c3, c4, c5⟩, hs, HT3, hlb⟩ := bet_facts w g c rs 6 7 8 9 10 11 _ _ _ _ _ _ rfl rfl rfl rfl rfl ext_1 h
 subst hW
 have HI3 := Lib.hid (show (Tryz.prog.info? 243).map (·.size) = some (#[.string ⟨#[124, 124]⟩, .string ⟨#[]⟩, .string ⟨#[]⟩, .string ⟨#[]⟩, .string ⟨#[]⟩, .string ⟨#[]⟩, .string ⟨#[38, 38]⟩, .string ⟨#[]⟩, .string ⟨#[]⟩, .string ⟨#[]⟩, .string ⟨#[]⟩, .string ⟨#[]⟩, .string ⟨#[61]⟩, .string ⟨#[33, 61]⟩, .string ⟨#[60, 61]⟩, .string ⟨#[62, 61]⟩, .string ⟨#[60]⟩, .string ⟨#[62]⟩, .string ⟨#[43]⟩, .string ⟨#[45]⟩, .string ⟨#[]⟩, .string ⟨#[]⟩, .string ⟨#[]⟩, .string ⟨#[]⟩, .string ⟨#[42]⟩, .string ⟨#[47]⟩, .string ⟨#[]⟩, .string ⟨#[]⟩, .string ⟨#[]⟩, .string ⟨#[]⟩] : Array Value).size from inf243)
 have H13 := Lib.hid (show (#[.string ⟨#[124, 124]⟩, .string ⟨#[]⟩, .string ⟨#[]⟩, .string ⟨#[]⟩, .string ⟨#[]⟩, .string ⟨#[]⟩, .string ⟨#[38, 38]⟩, .string ⟨#[]⟩, .string ⟨#[]⟩, .string ⟨#[]⟩, .string ⟨#[]⟩, .string ⟨#[]⟩, .string ⟨#[61]⟩, .string ⟨#[33, 61]⟩, .string ⟨#[60, 61]⟩, .string ⟨#[62, 61]⟩, .string ⟨#[60]⟩, .string ⟨#[62]⟩, .string ⟨#[43]⟩, .string ⟨#[45]⟩, .string ⟨#[]⟩, .string ⟨#[]⟩, .string ⟨#[]⟩, .string ⟨#[]⟩, .string ⟨#[42]⟩, .string ⟨#[47]⟩, .string ⟨#[]⟩, .string ⟨#[]⟩, .string ⟨#[]⟩, .string ⟨#[]⟩] : Array Value).all (·.oneCell') = true from one30)
 have HM := Lib.hid (fun T (h1 : T.size ≤ 100) (h2 : 0 < T.size) => rmk_weak T g c p rs _ h1 h2 hl hv hp hs)
 have b0 := bld_0
 have b1 := bld_1
 have b2 := bld_2
 have b3 := bld_3
 have b4 := bld_4
 have b5 := bld5
 clear hs h hv
 go_enter Tryz.func122, Tryz.ntmps122
 go_wp2_with (first | (with_reducible change wpList _ _ _ (Oper.mk _ (.store 243 _ _) _ _ _ _ :: _) _ _; generalize (#[.string ⟨#[124, 124]⟩, .string ⟨#[]⟩, .string ⟨#[]⟩, .string ⟨#[]⟩, .string ⟨#[]⟩, .string ⟨#[]⟩, .string ⟨#[38, 38]⟩, .string ⟨#[]⟩, .string ⟨#[]⟩, .string ⟨#[]⟩, .string ⟨#[]⟩, .string ⟨#[]⟩, .string ⟨#[61]⟩, .string ⟨#[33, 61]⟩, .string ⟨#[60, 61]⟩, .string ⟨#[62, 61]⟩, .string ⟨#[60]⟩, .string ⟨#[62]⟩, .string ⟨#[43]⟩, .string ⟨#[45]⟩, .string ⟨#[]⟩, .string ⟨#[]⟩, .string ⟨#[]⟩, .string ⟨#[]⟩, .string ⟨#[42]⟩, .string ⟨#[47]⟩, .string ⟨#[]⟩, .string ⟨#[]⟩, .string ⟨#[]⟩, .string ⟨#[]⟩] : Array Value) = C at *; refine wpList_store_mid rfl 243 _ _ rfl _ _ _ rfl rfl HT3.out HI3.out H13.out ?_) | (with_reducible change wpList _ _ _ (Oper.mk _ (.load 242 _) _ _ _ _ :: _) _ _; refine wpList_load_mid rfl 242 _ rfl _ _ rfl _ _ HRA.out Tryz.underlying242 rfl inf242 ?_))
 generalize (w.alloc (.cells #[.string ⟨#[]⟩, .string ⟨#[]⟩, .string ⟨#[]⟩, .string ⟨#[]⟩, .string ⟨#[]⟩, .string ⟨#[]⟩, .string ⟨#[]⟩, .string ⟨#[]⟩, .string ⟨#[]⟩, .string ⟨#[]⟩, .string ⟨#[]⟩, .string ⟨#[]⟩, .string ⟨#[]⟩, .string ⟨#[]⟩, .string ⟨#[]⟩, .string ⟨#[]⟩, .string ⟨#[]⟩, .string ⟨#[]⟩, .string ⟨#[]⟩, .string ⟨#[]⟩, .string ⟨#[]⟩, .string ⟨#[]⟩, .string ⟨#[]⟩, .string ⟨#[]⟩, .string ⟨#[]⟩, .string ⟨#[]⟩, .string ⟨#[]⟩, .string ⟨#[]⟩, .string ⟨#[]⟩, .string ⟨#[]⟩] 243)).setCells w.heap.size 0 C.toList = w0 at *
 generalize (Value.agg #[.string ⟨#[124, 124]⟩, .string ⟨#[]⟩, .string ⟨#[]⟩, .string ⟨#[]⟩, .string ⟨#[]⟩, .string ⟨#[]⟩] : Value) = A12
 generalize (Value.agg #[.string ⟨#[61]⟩, .string ⟨#[33, 61]⟩, .string ⟨#[60, 61]⟩, .string ⟨#[62, 61]⟩, .string ⟨#[60]⟩, .string ⟨#[62]⟩] : Value) = A14
 generalize (Value.agg #[.string ⟨#[43]⟩, .string ⟨#[45]⟩, .string ⟨#[]⟩, .string ⟨#[]⟩, .string ⟨#[]⟩, .string ⟨#[]⟩] : Value) = A15
 generalize (Value.agg #[.string ⟨#[42]⟩, .string ⟨#[47]⟩, .string ⟨#[]⟩, .string ⟨#[]⟩, .string ⟨#[]⟩, .string ⟨#[]⟩] : Value) = A16
 go_loopg [21] (6) (fun gk a wr => ∃ k : Int, a = .int .i64 k ∧ 6 ≤ k + gk ∧ 0 ≤ k ∧ k ≤ 6 ∧ w0 = wr)
 case atStart => exact ⟨0, rfl, by omega, by omega, by omega, rfl⟩
 case round =>
  obtain ⟨k, rfl, hg, hk0, hk, rfl⟩ := hrel
  have hk7 : k = 0 ∨ k = 1 ∨ k = 2 ∨ k = 3 ∨ k = 4 ∨ k = 5 ∨ k = 6 := by omega
  rcases hk7 with rfl | rfl | rfl | rfl | rfl | rfl | rfl
  · have hix := ixB_0
    go_wp2_with fail
    refine (HM.out ⟨#[38, 38]⟩ (by decide) (by decide)).mono ?_
    rintro e w2 ⟨E, rfl, hE, rfl⟩
    rcases hE with rfl | ⟨q, rfl, h1, h2⟩
    · go_wp2_with fail
      go_roundg (6 - 1)
      case measure => omega
      case rel => exact ⟨1, rfl, by omega, by omega, by omega, rfl⟩
    · go_wp2_with fail
      go_ret2
      exact ⟨_, _, rfl, .inr ⟨q, rfl, h1, h2⟩, HF.out⟩
  · have hix := ixB_1
    go_wp2_with fail
    go_roundg (6 - 2)
    case measure => omega
    case rel => exact ⟨2, rfl, by omega, by omega, by omega, rfl⟩
  · have hix := ixB_2
    go_wp2_with fail
    go_roundg (6 - 3)
    case measure => omega
    case rel => exact ⟨3, rfl, by omega, by omega, by omega, rfl⟩
  · have hix := ixB_3
    go_wp2_with fail
    go_roundg (6 - 4)
    case measure => omega
    case rel => exact ⟨4, rfl, by omega, by omega, by omega, rfl⟩
  · have hix := ixB_4
    go_wp2_with fail
    go_roundg (6 - 5)
    case measure => omega
    case rel => exact ⟨5, rfl, by omega, by omega, by omega, rfl⟩
  · have hix := ixB_5
    go_wp2_with fail
    go_roundg (6 - 6)
    case measure => omega
    case rel => exact ⟨6, rfl, by omega, by omega, by omega, rfl⟩
  · go_wp2_with fail
    go_ret2
    exact ⟨_, _, rfl, .inl rfl, HF.out⟩

theorem rbet_2 (g c p : Nat) (rs : List Int) (w : World) (hl : rs.length ≤ 8100) (hv : ∀ r, r ∈ rs → signR r = true) (hp : p ≤ rs.length) (h : Ls w g c rs) :
    Calls Tryz.prog 122 #[.slice (some ⟨g, 0, none⟩) rs.length c, .int .i64 (p : Int), .int .i64 2] w (BetPost rs p w) := by
 obtain ⟨W, hW, HF, HRA, ⟨c0, c1, c2, c3, c4, c5⟩, hs, HT3, hlb⟩ := bet_facts w g c rs 12 13 14 15 16 17 _ _ _ _ _ _ rfl rfl rfl rfl rfl ext_2 h
 subst hW
 have HI3 := Lib.hid (show (Tryz.prog.info? 243).map (·.size) = some (#[.string ⟨#[124, 124]⟩, .string ⟨#[]⟩, .string ⟨#[]⟩, .string ⟨#[]⟩, .string ⟨#[]⟩, .string ⟨#[]⟩, .string ⟨#[38, 38]⟩, .string ⟨#[]⟩, .string ⟨#[]⟩, .string ⟨#[]⟩, .string ⟨#[]⟩, .string ⟨#[]⟩, .string ⟨#[61]⟩, .string ⟨#[33, 61]⟩, .string ⟨#[60, 61]⟩, .string ⟨#[62, 61]⟩, .string ⟨#[60]⟩, .string ⟨#[62]⟩, .string ⟨#[43]⟩, .string ⟨#[45]⟩, .string ⟨#[]⟩, .string ⟨#[]⟩, .string ⟨#[]⟩, .string ⟨#[]⟩, .string ⟨#[42]⟩, .string ⟨#[47]⟩, .string ⟨#[]⟩, .string ⟨#[]⟩, .string ⟨#[]⟩, .string ⟨#[]⟩] : Array Value).size from inf243)
 have H13 := Lib.hid (show (#[.string ⟨#[124, 124]⟩, .string ⟨#[]⟩, .string ⟨#[]⟩, .string ⟨#[]⟩, .string ⟨#[]⟩, .string ⟨#[]⟩, .string ⟨#[38, 38]⟩, .string ⟨#[]⟩, .string ⟨#[]⟩, .string ⟨#[]⟩, .string ⟨#[]⟩, .string ⟨#[]⟩, .string ⟨#[61]⟩, .string ⟨#[33, 61]⟩, .string ⟨#[60, 61]⟩, .string ⟨#[62, 61]⟩, .string ⟨#[60]⟩, .string ⟨#[62]⟩, .string ⟨#[43]⟩, .string ⟨#[45]⟩, .string ⟨#[]⟩, .string ⟨#[]⟩, .string ⟨#[]⟩, .string ⟨#[]⟩, .string ⟨#[42]⟩, .string ⟨#[47]⟩, .string ⟨#[]⟩, .string ⟨#[]⟩, .string ⟨#[]⟩, .string ⟨#[]⟩] : Array Value).all (·.oneCell') = true from one30)
 have HM := Lib.hid (fun T (h1 : T.size ≤ 100) (h2 : 0 < T.size) => rmk_weak T g c p rs _ h1 h2 hl hv hp hs)
 have b0 := bld_0
 have b1 := bld_1
 have b2 := bld_2
 have b3 := bld_3
 have b4 := bld_4
 have b5 := bld5
 clear hs h hv
 go_enter Tryz.func122, Tryz.ntmps122
 go_wp2_with (first | (with_reducible change wpList _ _ _ (Oper.mk _ (.store 243 _ _) _ _ _ _ :: _) _ _; generalize (#[.string ⟨#[124, 124]⟩, .string ⟨#[]⟩, .string ⟨#[]⟩, .string ⟨#[]⟩, .string ⟨#[]⟩, .string ⟨#[]⟩, .string ⟨#[38, 38]⟩, .string ⟨#[]⟩, .string ⟨#[]⟩, .string ⟨#[]⟩, .string ⟨#[]⟩, .string ⟨#[]⟩, .string ⟨#[61]⟩, .string ⟨#[33, 61]⟩, .string ⟨#[60, 61]⟩, .string ⟨#[62, 61]⟩, .string ⟨#[60]⟩, .string ⟨#[62]⟩, .string ⟨#[43]⟩, .string ⟨#[45]⟩, .string ⟨#[]⟩, .string ⟨#[]⟩, .string ⟨#[]⟩, .string ⟨#[]⟩, .string ⟨#[42]⟩, .string ⟨#[47]⟩, .string ⟨#[]⟩, .string ⟨#[]⟩, .string ⟨#[]⟩, .string ⟨#[]⟩] : Array Value) = C at *; refine wpList_store_mid rfl 243 _ _ rfl _ _ _ rfl rfl HT3.out HI3.out H13.out ?_) | (with_reducible change wpList _ _ _ (Oper.mk _ (.load 242 _) _ _ _ _ :: _) _ _; refine wpList_load_mid rfl 242 _ rfl _ _ rfl _ _ HRA.out Tryz.underlying242 rfl inf242 ?_))
 generalize (w.alloc (.cells #[.string ⟨#[]⟩, .string ⟨#[]⟩, .string ⟨#[]⟩, .string ⟨#[]⟩, .string ⟨#[]⟩, .string ⟨#[]⟩, .string ⟨#[]⟩, .string ⟨#[]⟩, .string ⟨#[]⟩, .string ⟨#[]⟩, .string ⟨#[]⟩, .string ⟨#[]⟩, .string ⟨#[]⟩, .string ⟨#[]⟩, .string ⟨#[]⟩, .string ⟨#[]⟩, .string ⟨#[]⟩, .string ⟨#[]⟩, .string ⟨#[]⟩, .string ⟨#[]⟩, .string ⟨#[]⟩, .string ⟨#[]⟩, .string ⟨#[]⟩, .string ⟨#[]⟩, .string ⟨#[]⟩, .string ⟨#[]⟩, .string ⟨#[]⟩, .string ⟨#[]⟩, .string ⟨#[]⟩, .string ⟨#[]⟩] 243)).setCells w.heap.size 0 C.toList = w0 at *
 generalize (Value.agg #[.string ⟨#[124, 124]⟩, .string ⟨#[]⟩, .string ⟨#[]⟩, .string ⟨#[]⟩, .string ⟨#[]⟩, .string ⟨#[]⟩] : Value) = A12
 generalize (Value.agg #[.string ⟨#[38, 38]⟩, .string ⟨#[]⟩, .string ⟨#[]⟩, .string ⟨#[]⟩, .string ⟨#[]⟩, .string ⟨#[]⟩] : Value) = A13
 generalize (Value.agg #[.string ⟨#[43]⟩, .string ⟨#[45]⟩, .string ⟨#[]⟩, .string ⟨#[]⟩, .string ⟨#[]⟩, .string ⟨#[]⟩] : Value) = A15
 generalize (Value.agg #[.string ⟨#[42]⟩, .string ⟨#[47]⟩, .string ⟨#[]⟩, .string ⟨#[]⟩, .string ⟨#[]⟩, .string ⟨#[]⟩] : Value) = A16
 go_loopg [21] (6) (fun gk a wr => ∃ k : Int, a = .int .i64 k ∧ 6 ≤ k + gk ∧ 0 ≤ k ∧ k ≤ 6 ∧ w0 = wr)
 case atStart => exact ⟨0, rfl, by omega, by omega, by omega, rfl⟩
 case round =>
  obtain ⟨k, rfl, hg, hk0, hk, rfl⟩ := hrel
  have hk7 : k = 0 ∨ k = 1 ∨ k = 2 ∨ k = 3 ∨ k = 4 ∨ k = 5 ∨ k = 6 := by omega
  rcases hk7 with rfl | rfl | rfl | rfl | rfl | rfl | rfl
  · have hix := ixB_0
    go_wp2_with fail
    refine (HM.out ⟨#[61]⟩ (by decide) (by decide)).mono ?_
    rintro e w2 ⟨E, rfl, hE, rfl⟩
    rcases hE with rfl | ⟨q, rfl, h1, h2⟩
    · go_wp2_with fail
      go_roundg (6 - 1)
      case measure => omega
      case rel => exact ⟨1, rfl, by omega, by omega, by omega, rfl⟩
    · go_wp2_with fail
      go_ret2
      exact ⟨_, _, rfl, .inr ⟨q, rfl, h1, h2⟩, HF.out⟩
  · have hix := ixB_1
    go_wp2_with fail
    refine (HM.out ⟨#[33, 61]⟩ (by decide) (by decide)).mono ?_
    rintro e w2 ⟨E, rfl, hE, rfl⟩
    rcases hE with rfl | ⟨q, rfl, h1, h2⟩
    · go_wp2_with fail
      go_roundg (6 - 2)
      case measure => omega
      case rel => exact ⟨2, rfl, by omega, by omega, by omega, rfl⟩
    · go_wp2_with fail
      go_ret2
      exact ⟨_, _, rfl, .inr ⟨q, rfl, h1, h2⟩, HF.out⟩
  · have hix := ixB_2
    go_wp2_with fail
    refine (HM.out ⟨#[60, 61]⟩ (by decide) (by decide)).mono ?_
    rintro e w2 ⟨E, rfl, hE, rfl⟩
    rcases hE with rfl | ⟨q, rfl, h1, h2⟩
    · go_wp2_with fail
      go_roundg (6 - 3)
      case measure => omega
      case rel => exact ⟨3, rfl, by omega, by omega, by omega, rfl⟩
    · go_wp2_with fail
      go_ret2
      exact ⟨_, _, rfl, .inr ⟨q, rfl, h1, h2⟩, HF.out⟩
  · have hix := ixB_3
    go_wp2_with fail
    refine (HM.out ⟨#[62, 61]⟩ (by decide) (by decide)).mono ?_
    rintro e w2 ⟨E, rfl, hE, rfl⟩
    rcases hE with rfl | ⟨q, rfl, h1, h2⟩
    · go_wp2_with fail
      go_roundg (6 - 4)
      case measure => omega
      case rel => exact ⟨4, rfl, by omega, by omega, by omega, rfl⟩
    · go_wp2_with fail
      go_ret2
      exact ⟨_, _, rfl, .inr ⟨q, rfl, h1, h2⟩, HF.out⟩
  · have hix := ixB_4
    go_wp2_with fail
    refine (HM.out ⟨#[60]⟩ (by decide) (by decide)).mono ?_
    rintro e w2 ⟨E, rfl, hE, rfl⟩
    rcases hE with rfl | ⟨q, rfl, h1, h2⟩
    · go_wp2_with fail
      go_roundg (6 - 5)
      case measure => omega
      case rel => exact ⟨5, rfl, by omega, by omega, by omega, rfl⟩
    · go_wp2_with fail
      go_ret2
      exact ⟨_, _, rfl, .inr ⟨q, rfl, h1, h2⟩, HF.out⟩
  · have hix := ixB_5
    go_wp2_with fail
    refine (HM.out ⟨#[62]⟩ (by decide) (by decide)).mono ?_
    rintro e w2 ⟨E, rfl, hE, rfl⟩
    rcases hE with rfl | ⟨q, rfl, h1, h2⟩
    · go_wp2_with fail
      go_roundg (6 - 6)
      case measure => omega
      case rel => exact ⟨6, rfl, by omega, by omega, by omega, rfl⟩
    · go_wp2_with fail
      go_ret2
      exact ⟨_, _, rfl, .inr ⟨q, rfl, h1, h2⟩, HF.out⟩
  · go_wp2_with fail
    go_ret2
    exact ⟨_, _, rfl, .inl rfl, HF.out⟩

theorem rbet_3 (g c p : Nat) (rs : List Int) (w : World) (hl : rs.length ≤ 8100) (hv : ∀ r, r ∈ rs → signR r = true) (hp : p ≤ rs.length) (h : Ls w g c rs) :
    Calls Tryz.prog 122 #[.slice (some ⟨g, 0, none⟩) rs.length c, .int .i64 (p : Int), .int .i64 3] w (BetPost rs p w) := by
 obtain ⟨W, hW, HF, HRA, ⟨c0, c1, c2, c3, c4, c5⟩, hs, HT3, hlb⟩ := bet_facts w g c rs 18 19 20 21 22 23 _ _ _ _ _ _ rfl rfl rfl rfl rfl ext_3 h
 subst hW
 have HI3 := Lib.hid (show (Tryz.prog.info? 243).map (·.size) = some (#[.string ⟨#[124, 124]⟩, .string ⟨#[]⟩, .string ⟨#[]⟩, .string ⟨#[]⟩, .string ⟨#[]⟩, .string ⟨#[]⟩, .string ⟨#[38, 38]⟩, .string ⟨#[]⟩, .string ⟨#[]⟩, .string ⟨#[]⟩, .string ⟨#[]⟩, .string ⟨#[]⟩, .string ⟨#[61]⟩, .string ⟨#[33, 61]⟩, .string ⟨#[60, 61]⟩, .string ⟨#[62, 61]⟩, .string ⟨#[60]⟩, .string ⟨#[62]⟩, .string ⟨#[43]⟩, .string ⟨#[45]⟩, .string ⟨#[]⟩, .string ⟨#[]⟩, .string ⟨#[]⟩, .string ⟨#[]⟩, .string ⟨#[42]⟩, .string ⟨#[47]⟩, .string ⟨#[]⟩, .string ⟨#[]⟩, .string ⟨#[]⟩, .string ⟨#[]⟩] : Array Value).size from inf243)
 have H13 := Lib.hid (show (#[.string ⟨#[124, 124]⟩, .string ⟨#[]⟩, .string ⟨#[]⟩, .string ⟨#[]⟩, .string ⟨#[]⟩, .string ⟨#[]⟩, .string ⟨#[38, 38]⟩, .string ⟨#[]⟩, .string ⟨#[]⟩, .string ⟨#[]⟩, .string ⟨#[]⟩, .string ⟨#[]⟩, .string ⟨#[61]⟩, .string ⟨#[33, 61]⟩, .string ⟨#[60, 61]⟩, .string ⟨#[62, 61]⟩, .string ⟨#[60]⟩, .string ⟨#[62]⟩, .string ⟨#[43]⟩, .string ⟨#[45]⟩, .string ⟨#[]⟩, .string ⟨#[]⟩, .string ⟨#[]⟩, .string ⟨#[]⟩, .string ⟨#[42]⟩, .string ⟨#[47]⟩, .string ⟨#[]⟩, .string ⟨#[]⟩, .string ⟨#[]⟩, .string ⟨#[]⟩] : Array Value).all (·.oneCell') = true from one30)
 have HM := Lib.hid (fun T (h1 : T.size ≤ 100) (h2 : 0 < T.size) => rmk_weak T g c p rs _ h1 h2 hl hv hp hs)
 have b0 := bld_0
 have b1 := bld_1
 have b2 := bld_2
 have b3 := bld_3
 have b4 := bld_4
 have b5 := bld5
 clear hs h hv
 go_enter Tryz.func122, Tryz.ntmps122
 go_wp2_with (first | (with_reducible change wpList _ _ _ (Oper.mk _ (.store 243 _ _) _ _ _ _ :: _) _ _; generalize (#[.string ⟨#[124, 124]⟩, .string ⟨#[]⟩, .string ⟨#[]⟩, .string ⟨#[]⟩, .string ⟨#[]⟩, .string ⟨#[]⟩, .string ⟨#[38, 38]⟩, .string ⟨#[]⟩, .string ⟨#[]⟩, .string ⟨#[]⟩, .string ⟨#[]⟩, .string ⟨#[]⟩, .string ⟨#[61]⟩, .string ⟨#[33, 61]⟩, .string ⟨#[60, 61]⟩, .string ⟨#[62, 61]⟩, .string ⟨#[60]⟩, .string ⟨#[62]⟩, .string ⟨#[43]⟩, .string ⟨#[45]⟩, .string ⟨#[]⟩, .string ⟨#[]⟩, .string ⟨#[]⟩, .string ⟨#[]⟩, .string ⟨#[42]⟩, .string ⟨#[47]⟩, .string ⟨#[]⟩, .string ⟨#[]⟩, .string ⟨#[]⟩, .string ⟨#[]⟩] : Array Value) = C at *; refine wpList_store_mid rfl 243 _ _ rfl _ _ _ rfl rfl HT3.out HI3.out H13.out ?_) | (with_reducible change wpList _ _ _ (Oper.mk _ (.load 242 _) _ _ _ _ :: _) _ _; refine wpList_load_mid rfl 242 _ rfl _ _ rfl _ _ HRA.out Tryz.underlying242 rfl inf242 ?_))
 generalize (w.alloc (.cells #[.string ⟨#[]⟩, .string ⟨#[]⟩, .string ⟨#[]⟩, .string ⟨#[]⟩, .string ⟨#[]⟩, .string ⟨#[]⟩, .string ⟨#[]⟩, .string ⟨#[]⟩, .string ⟨#[]⟩, .string ⟨#[]⟩, .string ⟨#[]⟩, .string ⟨#[]⟩, .string ⟨#[]⟩, .string ⟨#[]⟩, .string ⟨#[]⟩, .string ⟨#[]⟩, .string ⟨#[]⟩, .string ⟨#[]⟩, .string ⟨#[]⟩, .string ⟨#[]⟩, .string ⟨#[]⟩, .string ⟨#[]⟩, .string ⟨#[]⟩, .string ⟨#[]⟩, .string ⟨#[]⟩, .string ⟨#[]⟩, .string ⟨#[]⟩, .string ⟨#[]⟩, .string ⟨#[]⟩, .string ⟨#[]⟩] 243)).setCells w.heap.size 0 C.toList = w0 at *
 generalize (Value.agg #[.string ⟨#[124, 124]⟩, .string ⟨#[]⟩, .string ⟨#[]⟩, .string ⟨#[]⟩, .string ⟨#[]⟩, .string ⟨#[]⟩] : Value) = A12
 generalize (Value.agg #[.string ⟨#[38, 38]⟩, .string ⟨#[]⟩, .string ⟨#[]⟩, .string ⟨#[]⟩, .string ⟨#[]⟩, .string ⟨#[]⟩] : Value) = A13
 generalize (Value.agg #[.string ⟨#[61]⟩, .string ⟨#[33, 61]⟩, .string ⟨#[60, 61]⟩, .string ⟨#[62, 61]⟩, .string ⟨#[60]⟩, .string ⟨#[62]⟩] : Value) = A14
 generalize (Value.agg #[.string ⟨#[42]⟩, .string ⟨#[47]⟩, .string ⟨#[]⟩, .string ⟨#[]⟩, .string ⟨#[]⟩, .string ⟨#[]⟩] : Value) = A16
 go_loopg [21] (6) (fun gk a wr => ∃ k : Int, a = .int .i64 k ∧ 6 ≤ k + gk ∧ 0 ≤ k ∧ k ≤ 6 ∧ w0 = wr)
 case atStart => exact ⟨0, rfl, by omega, by omega, by omega, rfl⟩
 case round =>
  obtain ⟨k, rfl, hg, hk0, hk, rfl⟩ := hrel
  have hk7 : k = 0 ∨ k = 1 ∨ k = 2 ∨ k = 3 ∨ k = 4 ∨ k = 5 ∨ k = 6 := by omega
  rcases hk7 with rfl | rfl | rfl | rfl | rfl | rfl | rfl
  · have hix := ixB_0
    go_wp2_with fail
    refine (HM.out ⟨#[43]⟩ (by decide) (by decide)).mono ?_
    rintro e w2 ⟨E, rfl, hE, rfl⟩
    rcases hE with rfl | ⟨q, rfl, h1, h2⟩
    · go_wp2_with fail
      go_roundg (6 - 1)
      case measure => omega
      case rel => exact ⟨1, rfl, by omega, by omega, by omega, rfl⟩
    · go_wp2_with fail
      go_ret2
      exact ⟨_, _, rfl, .inr ⟨q, rfl, h1, h2⟩, HF.out⟩
  · have hix := ixB_1
    go_wp2_with fail
    refine (HM.out ⟨#[45]⟩ (by decide) (by decide)).mono ?_
    rintro e w2 ⟨E, rfl, hE, rfl⟩
    rcases hE with rfl | ⟨q, rfl, h1, h2⟩
    · go_wp2_with fail
      go_roundg (6 - 2)
      case measure => omega
      case rel => exact ⟨2, rfl, by omega, by omega, by omega, rfl⟩
    · go_wp2_with fail
      go_ret2
      exact ⟨_, _, rfl, .inr ⟨q, rfl, h1, h2⟩, HF.out⟩
  · have hix := ixB_2
    go_wp2_with fail
    go_roundg (6 - 3)
    case measure => omega
    case rel => exact ⟨3, rfl, by omega, by omega, by omega, rfl⟩
  · have hix := ixB_3
    go_wp2_with fail
    go_roundg (6 - 4)
    case measure => omega
    case rel => exact ⟨4, rfl, by omega, by omega, by omega, rfl⟩
  · have hix := ixB_4
    go_wp2_with fail
    go_roundg (6 - 5)
    case measure => omega
    case rel => exact ⟨5, rfl, by omega, by omega, by omega, rfl⟩
  · have hix := ixB_5
    go_wp2_with fail
    go_roundg (6 - 6)
    case measure => omega
    case rel => exact ⟨6, rfl, by omega, by omega, by omega, rfl⟩
  · go_wp2_with fail
    go_ret2
    exact ⟨_, _, rfl, .inl rfl, HF.out⟩

theorem rbet_4 (g c p : Nat) (rs : List Int) (w : World) (hl : rs.length ≤ 8100) (hv : ∀ r, r ∈ rs → signR r = true) (hp : p ≤ rs.length) (h : Ls w g c rs) :
    Calls Tryz.prog 122 #[.slice (some ⟨g, 0, none⟩) rs.length c, .int .i64 (p : Int), .int .i64 4] w (BetPost rs p w) := by
 obtain ⟨W, hW, HF, HRA, ⟨c0, c1, c2, c3, c4, c5⟩, hs, HT3, hlb⟩ := bet_facts w g c rs 24 25 26 27 28 29 _ _ _ _ _ _ rfl rfl rfl rfl rfl ext_4 h
 subst hW
 have HI3 := Lib.hid (show (Tryz.prog.info? 243).map (·.size) = some (#[.string ⟨#[124, 124]⟩, .string ⟨#[]⟩, .string ⟨#[]⟩, .string ⟨#[]⟩, .string ⟨#[]⟩, .string ⟨#[]⟩, .string ⟨#[38, 38]⟩, .string ⟨#[]⟩, .string ⟨#[]⟩, .string ⟨#[]⟩, .string ⟨#[]⟩, .string ⟨#[]⟩, .string ⟨#[61]⟩, .string ⟨#[33, 61]⟩, .string ⟨#[60, 61]⟩, .string ⟨#[62, 61]⟩, .string ⟨#[60]⟩, .string ⟨#[62]⟩, .string ⟨#[43]⟩, .string ⟨#[45]⟩, .string ⟨#[]⟩, .string ⟨#[]⟩, .string ⟨#[]⟩, .string ⟨#[]⟩, .string ⟨#[42]⟩, .string ⟨#[47]⟩, .string ⟨#[]⟩, .string ⟨#[]⟩, .string ⟨#[]⟩, .string ⟨#[]⟩] : Array Value).size from inf243)
 have H13 := Lib.hid (show (#[.string ⟨#[124, 124]⟩, .string ⟨#[]⟩, .string ⟨#[]⟩, .string ⟨#[]⟩, .string ⟨#[]⟩, .string ⟨#[]⟩, .string ⟨#[38, 38]⟩, .string ⟨#[]⟩, .string ⟨#[]⟩, .string ⟨#[]⟩, .string ⟨#[]⟩, .string ⟨#[]⟩, .string ⟨#[61]⟩, .string ⟨#[33, 61]⟩, .string ⟨#[60, 61]⟩, .string ⟨#[62, 61]⟩, .string ⟨#[60]⟩, .string ⟨#[62]⟩, .string ⟨#[43]⟩, .string ⟨#[45]⟩, .string ⟨#[]⟩, .string ⟨#[]⟩, .string ⟨#[]⟩, .string ⟨#[]⟩, .string ⟨#[42]⟩, .string ⟨#[47]⟩, .string ⟨#[]⟩, .string ⟨#[]⟩, .string ⟨#[]⟩, .string ⟨#[]⟩] : Array Value).all (·.oneCell') = true from one30)
 have HM := Lib.hid (fun T (h1 : T.size ≤ 100) (h2 : 0 < T.size) => rmk_weak T g c p rs _ h1 h2 hl hv hp hs)
 have b0 := bld_0
 have b1 := bld_1
 have b2 := bld_2
 have b3 := bld_3
 have b4 := bld_4
 have b5 := bld5
 clear hs h hv
 go_enter Tryz.func122, Tryz.ntmps122
 go_wp2_with (first | (with_reducible change wpList _ _ _ (Oper.mk _ (.store 243 _ _) _ _ _ _ :: _) _ _; generalize (#[.string ⟨#[124, 124]⟩, .string ⟨#[]⟩, .string ⟨#[]⟩, .string ⟨#[]⟩, .string ⟨#[]⟩, .string ⟨#[]⟩, .string ⟨#[38, 38]⟩, .string ⟨#[]⟩, .string ⟨#[]⟩, .string ⟨#[]⟩, .string ⟨#[]⟩, .string ⟨#[]⟩, .string ⟨#[61]⟩, .string ⟨#[33, 61]⟩, .string ⟨#[60, 61]⟩, .string ⟨#[62, 61]⟩, .string ⟨#[60]⟩, .string ⟨#[62]⟩, .string ⟨#[43]⟩, .string ⟨#[45]⟩, .string ⟨#[]⟩, .string ⟨#[]⟩, .string ⟨#[]⟩, .string ⟨#[]⟩, .string ⟨#[42]⟩, .string ⟨#[47]⟩, .string ⟨#[]⟩, .string ⟨#[]⟩, .string ⟨#[]⟩, .string ⟨#[]⟩] : Array Value) = C at *; refine wpList_store_mid rfl 243 _ _ rfl _ _ _ rfl rfl HT3.out HI3.out H13.out ?_) | (with_reducible change wpList _ _ _ (Oper.mk _ (.load 242 _) _ _ _ _ :: _) _ _; refine wpList_load_mid rfl 242 _ rfl _ _ rfl _ _ HRA.out Tryz.underlying242 rfl inf242 ?_))
 generalize (w.alloc (.cells #[.string ⟨#[]⟩, .string ⟨#[]⟩, .string ⟨#[]⟩, .string ⟨#[]⟩, .string ⟨#[]⟩, .string ⟨#[]⟩, .string ⟨#[]⟩, .string ⟨#[]⟩, .string ⟨#[]⟩, .string ⟨#[]⟩, .string ⟨#[]⟩, .string ⟨#[]⟩, .string ⟨#[]⟩, .string ⟨#[]⟩, .string ⟨#[]⟩, .string ⟨#[]⟩, .string ⟨#[]⟩, .string ⟨#[]⟩, .string ⟨#[]⟩, .string ⟨#[]⟩, .string ⟨#[]⟩, .string ⟨#[]⟩, .string ⟨#[]⟩, .string ⟨#[]⟩, .string ⟨#[]⟩, .string ⟨#[]⟩, .string ⟨#[]⟩, .string ⟨#[]⟩, .string ⟨#[]⟩, .string ⟨#[]⟩] 243)).setCells w.heap.size 0 C.toList = w0 at *
 generalize (Value.agg #[.string ⟨#[124, 124]⟩, .string ⟨#[]⟩, .string ⟨#[]⟩, .string ⟨#[]⟩, .string ⟨#[]⟩, .string ⟨#[]⟩] : Value) = A12
 generalize (Value.agg #[.string ⟨#[38, 38]⟩, .string ⟨#[]⟩, .string ⟨#[]⟩, .string ⟨#[]⟩, .string ⟨#[]⟩, .string ⟨#[]⟩] : Value) = A13
 generalize (Value.agg #[.string ⟨#[61]⟩, .string ⟨#[33, 61]⟩, .string ⟨#[60, 61]⟩, .string ⟨#[62, 61]⟩, .string ⟨#[60]⟩, .string ⟨#[62]⟩] : Value) = A14
 generalize (Value.agg #[.string ⟨#[43]⟩, .string ⟨#[45]⟩, .string ⟨#[]⟩, .string ⟨#[]⟩, .string ⟨#[]⟩, .string ⟨#[]⟩] : Value) = A15
 go_loopg [21] (6) (fun gk a wr => ∃ k : Int, a = .int .i64 k ∧ 6 ≤ k + gk ∧ 0 ≤ k ∧ k ≤ 6 ∧ w0 = wr)
 case atStart => exact ⟨0, rfl, by omega, by omega, by omega, rfl⟩
 case round =>
  obtain ⟨k, rfl, hg, hk0, hk, rfl⟩ := hrel
  have hk7 : k = 0 ∨ k = 1 ∨ k = 2 ∨ k = 3 ∨ k = 4 ∨ k = 5 ∨ k = 6 := by omega
  rcases hk7 with rfl | rfl | rfl | rfl | rfl | rfl | rfl
  · have hix := ixB_0
    go_wp2_with fail
    refine (HM.out ⟨#[42]⟩ (by decide) (by decide)).mono ?_
    rintro e w2 ⟨E, rfl, hE, rfl⟩
    rcases hE with rfl | ⟨q, rfl, h1, h2⟩
    · go_wp2_with fail
      go_roundg (6 - 1)
      case measure => omega
      case rel => exact ⟨1, rfl, by omega, by omega, by omega, rfl⟩
    · go_wp2_with fail
      go_ret2
      exact ⟨_, _, rfl, .inr ⟨q, rfl, h1, h2⟩, HF.out⟩
  · have hix := ixB_1
    go_wp2_with fail
    refine (HM.out ⟨#[47]⟩ (by decide) (by decide)).mono ?_
    rintro e w2 ⟨E, rfl, hE, rfl⟩
    rcases hE with rfl | ⟨q, rfl, h1, h2⟩
    · go_wp2_with fail
      go_roundg (6 - 2)
      case measure => omega
      case rel => exact ⟨2, rfl, by omega, by omega, by omega, rfl⟩
    · go_wp2_with fail
      go_ret2
      exact ⟨_, _, rfl, .inr ⟨q, rfl, h1, h2⟩, HF.out⟩
  · have hix := ixB_2
    go_wp2_with fail
    go_roundg (6 - 3)
    case measure => omega
    case rel => exact ⟨3, rfl, by omega, by omega, by omega, rfl⟩
  · have hix := ixB_3
    go_wp2_with fail
    go_roundg (6 - 4)
    case measure => omega
    case rel => exact ⟨4, rfl, by omega, by omega, by omega, rfl⟩
  · have hix := ixB_4
    go_wp2_with fail
    go_roundg (6 - 5)
    case measure => omega
    case rel => exact ⟨5, rfl, by omega, by omega, by omega, rfl⟩
  · have hix := ixB_5
    go_wp2_with fail
    go_roundg (6 - 6)
    case measure => omega
    case rel => exact ⟨6, rfl, by omega, by omega, by omega, rfl⟩
  · go_wp2_with fail
    go_ret2
    exact ⟨_, _, rfl, .inl rfl, HF.out⟩

theorem rbet_any (lv : Nat) (hlv : lv < 5) (g c p : Nat) (rs : List Int) (w : World) (hl : rs.length ≤ 8100) (hv : ∀ r, r ∈ rs → signR r = true) (hp : p ≤ rs.length) (h : Ls w g c rs) :
    Calls Tryz.prog 122 #[.slice (some ⟨g, 0, none⟩) rs.length c, .int .i64 (p : Int), .int .i64 (lv : Int)] w (BetPost rs p w) := by
 have h5 : lv = 0 ∨ lv = 1 ∨ lv = 2 ∨ lv = 3 ∨ lv = 4 := by omega
 rcases h5 with rfl | rfl | rfl | rfl | rfl
 · exact rbet_0 g c p rs w hl hv hp h
 · exact rbet_1 g c p rs w hl hv hp h
 · exact rbet_2 g c p rs w hl hv hp h
 · exact rbet_3 g c p rs w hl hv hp h
 · exact rbet_4 g c p rs w hl hv hp h

def xBoolR : ByteArray := ⟨#[104, 116, 116, 112, 58, 47, 47, 119, 119, 119, 46, 119, 51, 46, 111, 114, 103, 47, 50, 48, 48, 49, 47, 88, 77, 76, 83, 99, 104, 101, 109, 97, 35, 98, 111, 111, 108, 101, 97, 110]⟩
theorem results_e1 {P : Program} {fn : Func} {p : Tmp} {ty : TypeId} (h : fn.results = #[.cell p ty]) (tmps : Array Value) (w : World) (g : Nat) (t : TypeId) (cs : Array Value) (fr : Nat × Nat) (ds : TypeDesc)
    (hp : tmps.getD p undef = .pointer (some ⟨g, 0, none⟩)) (hg : w.heap[g]? = some (.cells cs t fr))
    (hu : P.underlying ty = some ds) (hd : (match ds with | .struct _ | .array _ _ => true | _ => false) = true) (hi : (P.info? ty).map (·.size) = some cs.size) :
    (results fn tmps).run P w = .ok (.agg cs) w := by
 have h1 : (results fn tmps).run P w = ((asAddr (tmps.getD p undef)).run P w).andThen fun q w₁ => (loadVar ty q).run P w₁ := by
  simp only [results, h]
  simp [Sem.run_bind, Result.andThen]
 rw [h1, hp]
 simp [asAddr, run_loadVar_row w g t ty cs fr ds hg hu hd hi]

theorem rtruth (s : ByteArray) (w : World) : Calls Tryz.prog 150 #[.string s] w fun e w' => ∃ t3, e = .returned (ev ⟨#[]⟩ ⟨#[]⟩ true 2 s t3 ⟨#[]⟩ none 0 0) ∧ Fr (fun _ => False) w w' := by
 have f0 : Fr (fun _ => False) w (w.alloc (.cells #[.string ⟨#[]⟩, .string ⟨#[]⟩, .bool false, .int .i64 0, .string ⟨#[]⟩, .string ⟨#[]⟩, .string ⟨#[]⟩, .slice none 0 0] 42)) := (Fr.refl _ _).alloc _
 have hb : Blk (w.alloc (.cells #[.string ⟨#[]⟩, .string ⟨#[]⟩, .bool false, .int .i64 0, .string ⟨#[]⟩, .string ⟨#[]⟩, .string ⟨#[]⟩, .slice none 0 0] 42)) w.heap.size 42 zero42.toArray := Blk.new w 42 #[.string ⟨#[]⟩, .string ⟨#[]⟩, .bool false, .int .i64 0, .string ⟨#[]⟩, .string ⟨#[]⟩, .string ⟨#[]⟩, .slice none 0 0]
 have hst := Blk.setAll (vs := [.string ⟨#[]⟩, .string ⟨#[]⟩, .bool true, .int .i64 2, .string s, .string xBoolR, .string ⟨#[]⟩, .slice none 0 0]) (old := zero42) hb rfl
 have HTH := Lib.hid (Blk.there (cs := zero42) hb (n := 8) rfl)
 have HST := Lib.hid hst.1
 have HFF := Lib.hid (((f0.mono (T := fun j => w.heap.size ≤ j) (fun _ _ h => h.elim)).trans hst.2 (fun j hj e => by omega)).shut (Nat.le_refl _))
 have hl1 := hb.lt
 clear hst hb f0
 go_enter Tryz.func150, Tryz.ntmps150
 go_wp2_with (refine wpList_store_mid rfl 42 _ _ rfl _ _ _ rfl rfl HTH.out inf42 (one42 _ _ _ _ _ _ _ _ _ _) ?_)
 exact bodyPost_ret (v := ev ⟨#[]⟩ ⟨#[]⟩ true 2 s xBoolR ⟨#[]⟩ none 0 0) (results_e1 rfl _ _ w.heap.size 42 _ (0, 0) _ rfl HST.out Tryz.underlying42 rfl (by kernel_rfl)) rfl ⟨_, rfl, HFF.out⟩

theorem Blk.setA {w : World} {g : Nat} {t : TypeId} {old cs : Array Value} (h : Blk w g t old) (hl : cs.size = old.size) : Blk (w.setCells g 0 cs.toList) g t cs ∧ Fr (fun j => j = g) w (w.setCells g 0 cs.toList) := by
 have h1 := Blk.setAll (vs := cs.toList) (old := old.toList) (by rw [Array.toArray_toList]; exact h) (by simpa using hl)
 rw [Array.toArray_toList] at h1
 exact h1
theorem Blk.thereA {w : World} {g : Nat} {t : TypeId} {cs : Array Value} (h : Blk w g t cs) {n : Nat} (hn : n = cs.size) : w.there g 0 n :=
 Blk.there (cs := cs.toList) (by rw [Array.toArray_toList]; exact h) (by simpa using hn)
theorem Blk.rangeA {w : World} {g : Nat} {t : TypeId} {cs : Array Value} (h : Blk w g t cs) : w.rangeAt g 0 cs.toList :=
 blkRange (by rw [Array.toArray_toList]; exact h)
section
variable {ops : Array Oper} {rest : List Oper} {op : Oper} {a : Act} {w : World} {Q : Exit → Act → World → Prop}
theorem wpList_store_blk (hgd : op.guard = none) (ty : TypeId) (x y : Operand) (ho : op.op = .store ty x y) (b : Nat) (cells : Array Value) (hx : a.eval x = .pointer (some ⟨b, 0, none⟩)) (hy : a.eval y = .agg cells) (t : TypeId) (old : Array Value) (hb : Blk w b t old) (hsz : cells.size = old.size) (hi : (Tryz.prog.info? ty).map (·.size) = some cells.size) (h1 : cells.all (·.oneCell') = true)
    (h : ∀ w', Blk w' b t cells → Fr (fun j => j = b) w w' → wpList Tryz.prog ops Q rest (a.put op.dst undef) w') : wpList Tryz.prog ops Q (op :: rest) a w :=
 wpList_store_mid hgd ty x y ho b 0 cells hx hy (hb.thereA hsz) hi h1 (h _ (hb.setA hsz).1 (hb.setA hsz).2)
theorem wpList_load_blk (hgd : op.guard = none) (ty : TypeId) (x : Operand) (ho : op.op = .load ty x) (b : Nat) (hx : a.eval x = .pointer (some ⟨b, 0, none⟩)) (t : TypeId) (cs : Array Value) (hb : Blk w b t cs) (d : TypeDesc) (hu : Tryz.prog.underlying ty = some d) (hd : d.isRow = true) (hi : (Tryz.prog.info? ty).map (·.size) = some cs.size)
    (h : wpList Tryz.prog ops Q rest (a.put op.dst (.agg cs)) w) : wpList Tryz.prog ops Q (op :: rest) a w :=
 wpList_load_mid hgd ty x ho b 0 hx cs.toList d hb.rangeA hu hd (by rw [hi, Array.length_toList]) (by rw [Array.toArray_toList]; exact h)
theorem wp_store_blk {K : Act → World → Prop} (ty : TypeId) (x y : Operand) (ho : op.op = .store ty x y) (b : Nat) (cells : Array Value) (hx : a.eval x = .pointer (some ⟨b, 0, none⟩)) (hy : a.eval y = .agg cells) (t : TypeId) (old : Array Value) (hb : Blk w b t old) (hsz : cells.size = old.size) (hi : (Tryz.prog.info? ty).map (·.size) = some cells.size) (h1 : cells.all (·.oneCell') = true)
    (h : ∀ w', Blk w' b t cells → Fr (fun j => j = b) w w' → K (a.put op.dst undef) w') : op.wp Tryz.prog a w K Q :=
 wp_store_mid ty x y ho b 0 cells hx hy (hb.thereA hsz) hi h1 (h _ (hb.setA hsz).1 (hb.setA hsz).2)
theorem yieldsIf_load_blk {S : World → Prop} (hw : Region.wanted op (yielded ops a.tmps) = true) (ty : TypeId) (x : Operand) (ho : op.op = .load ty x) (b : Nat) (hx : a.eval x = .pointer (some ⟨b, 0, none⟩)) (t : TypeId) (cs : Array Value) (hS : ∀ w, S w → Blk w b t cs) (d : TypeDesc) (hu : Tryz.prog.underlying ty = some d) (hd : d.isRow = true) (hi : (Tryz.prog.info? ty).map (·.size) = some cs.size) : YieldsIf Tryz.prog ops S op (.agg cs) a := by
 have h := yieldsIf_load_mid (P := Tryz.prog) hw ty x ho b 0 hx cs.toList d (fun w hw => (hS w hw).rangeA) hu hd (by rw [hi, Array.length_toList])
 rw [Array.toArray_toList] at h
 exact h
theorem wpList_lit1 (hgd : op.guard = none) (t e : TypeId) (x : Operand) (ho : op.op = .buildSlice t 1 #[(0, x)]) (cs : Array Value) (hx : a.eval x = .agg cs) (hu : Tryz.prog.underlying t = some (.slice e)) (hsz : (Tryz.prog.info? e).map (·.size) = some cs.size) (hz : ((Tryz.prog.info? e).bind (·.zero)).isSome = true) (hsmall : cs.size ≤ 2 ^ 24) (hpos : 0 < cs.size)
    (h : ∀ w', w' = w.alloc (.cells cs e) → wpList Tryz.prog ops Q rest (a.put op.dst (.slice (some ⟨w.heap.size, 0, none⟩) 1 1)) w') : wpList Tryz.prog ops Q (op :: rest) a w := by
 cases hie : Tryz.prog.info? e with
 | none => simp [hie] at hsz
 | some ie =>
  simp only [hie, Option.map_some, Option.some.injEq, Option.bind_some] at hsz hz
  obtain ⟨z, hzz⟩ := Option.isSome_iff_exists.1 hz
  refine Go.wpList_buildSlice hgd t e 1 _ ho cs ie z hu hie hzz (by omega) (by omega) ?_ (h _ rfl)
  have h2 := Great.fill_whole (s := ie.size) (by omega) [.agg cs] ((Array.range (1 * ie.size)).map (z.cells[· % z.cells.size]!)) (fun v hv => by rw [List.mem_singleton.1 hv]; exact hsz.symm) (by simp)
  simp only [List.map_toArray, List.map_cons, List.map_nil, hx]
  refine h2.trans ?_
  show some (cs.toList ++ []).toArray = some cs
  rw [List.append_nil, Array.toArray_toList]
theorem wpList_lit2 (hgd : op.guard = none) (t e : TypeId) (x y : Operand) (ho : op.op = .buildSlice t 2 #[(0, x), (1, y)]) (cs ds : Array Value) (hx : a.eval x = .agg cs) (hy : a.eval y = .agg ds) (hu : Tryz.prog.underlying t = some (.slice e)) (hsz : (Tryz.prog.info? e).map (·.size) = some cs.size) (hds : ds.size = cs.size) (hz : ((Tryz.prog.info? e).bind (·.zero)).isSome = true) (hsmall : cs.size ≤ 2 ^ 20) (hpos : 0 < cs.size)
    (h : ∀ w', w' = w.alloc (.cells (cs.toList ++ ds.toList).toArray e) → wpList Tryz.prog ops Q rest (a.put op.dst (.slice (some ⟨w.heap.size, 0, none⟩) 2 2)) w') : wpList Tryz.prog ops Q (op :: rest) a w := by
 cases hie : Tryz.prog.info? e with
 | none => simp [hie] at hsz
 | some ie =>
  simp only [hie, Option.map_some, Option.some.injEq, Option.bind_some] at hsz hz
  obtain ⟨z, hzz⟩ := Option.isSome_iff_exists.1 hz
  refine Go.wpList_buildSlice hgd t e 2 _ ho _ ie z hu hie hzz (by omega) (by omega) ?_ (h _ rfl)
  have h2 := Great.fill_whole (s := ie.size) (by omega) [.agg cs, .agg ds] ((Array.range (2 * ie.size)).map (z.cells[· % z.cells.size]!)) (fun v hv => by
   rcases List.mem_cons.1 hv with rfl | hv
   · exact hsz.symm
   · rw [List.mem_singleton.1 hv]
     exact hds.trans hsz.symm) (by simp)
  simp only [List.map_toArray, List.map_cons, List.map_nil, hx, hy]
  refine h2.trans ?_
  show some (cs.toList ++ (ds.toList ++ [])).toArray = _
  rw [List.append_nil]
end

/-- A struct of so many cells. -/
structure CellsN (n : Nat) (cs : Array Value) : Prop where
 sz : cs.size = n
 one : cs.all (·.oneCell') = true
theorem inf42c {cs : Array Value} (h : CellsN 8 cs) : (Tryz.prog.info? 42).map (·.size) = some cs.size := by rw [h.sz]; exact inf42
theorem zer42 : ((Tryz.prog.info? 42).bind (·.zero)).isSome = true := by kernel_rfl
abbrev Z42 : Array Value := #[.string ⟨#[]⟩, .string ⟨#[]⟩, .bool false, .int .i64 0, .string ⟨#[]⟩, .string ⟨#[]⟩, .string ⟨#[]⟩, .slice none 0 0]
/-- An expression, told weakly. -/
def ExprPost (rs : List Int) (p : Nat) (w : World) (e : Ending) (w' : World) : Prop :=
 ∃ (cs : Array Value) (E d : Int), e = .returned (.tuple #[.agg cs, .int .i64 E, .int .i64 d]) ∧ CellsN 8 cs ∧ Beh rs p E ∧ Fr (fun _ => False) w w'
theorem Beh.up {rs : List Int} {p q : Nat} {E : Int} (h : Beh rs q E) (hpq : p ≤ q) : Beh rs p E :=
 h.elim .inl fun ⟨x, h1, h2, h3⟩ => .inr ⟨x, h1, by omega, h3⟩
theorem Blk.oth {w w' : World} {g x : Nat} {t : TypeId} {cs : Array Value} (h : Blk w g t cs) (hf : Fr (fun j => j = x) w w') (hne : g ≠ x) : Blk w' g t cs := h.fr hf hne
theorem Fr.up {w a : World} (h : Fr (fun _ => False) w a) : Fr (fun j => w.heap.size ≤ j) w a := h.mono (fun _ _ h => h.elim)
theorem Fr.andF {w a b : World} {S : Nat → Prop} (h : Fr S w a) (h2 : Fr (fun _ => False) a b) : Fr S w b := h.trans h2 (fun _ _ h => h.elim)
theorem Fr.andX {w a b : World} {x : Nat} (h : Fr (fun j => w.heap.size ≤ j) w a) (h2 : Fr (fun j => j = x) a b) (hx : w.heap.size ≤ x) : Fr (fun j => w.heap.size ≤ j) w b := h.trans h2 (fun j _ e => by omega)
theorem Ls.up {w w' : World} {g c : Nat} {rs : List Int} (h : Ls w g c rs) (hf : Fr (fun j => w.heap.size ≤ j) w w') : Ls w' g c rs := h.frF (hf.shut (Nat.le_refl _))
theorem Ls.frB {w w' : World} {g c x t : Nat} {cs : Array Value} {rs : List Int} (h : Ls w g c rs) (hx : Blk w x t cs) (hne : 3 ≠ t) (hf : Fr (fun j => j = x) w w') : Ls w' g c rs :=
 ownsRow_fr h hf (fun k hk e => own_blk_ne h hx hne (by rw [hk, e]))
/-- A var, told weakly. -/
def VarW (rs : List Int) (p : Nat) (w : World) (e : Ending) (w' : World) : Prop := ∃ (s : ByteArray) (E : Int), e = .returned (.tuple #[.string s, .int .i64 E]) ∧ Beh rs p E ∧ Fr (fun _ => False) w w'
theorem rvar_weak (g c p : Nat) (rs : List Int) (w : World) (E : Int) (hl : rs.length ≤ 8100) (hv : ∀ r, r ∈ rs → signR r = true) (hE : Beh rs p E) (h : Ls w g c rs) :
    Calls Tryz.prog 31 #[.slice (some ⟨g, 0, none⟩) rs.length c, .int .i64 E] w (VarW rs p w) := by
 rcases hE with rfl | ⟨q, rfl, h1, h2⟩
 · exact (rvar_neg _ w).mono (fun e w' h => ⟨_, _, h.1, .inl rfl, h.2 ▸ Fr.refl _ _⟩)
 · refine (rvar_any g c q rs w hl hv h2 h).mono (fun e w' h => ?_)
   rcases h with ⟨⟨f, q2, hvp, rfl⟩ | ⟨-, rfl⟩, hf⟩
   · have hpos := hvp.pos
     have hm := (mark_in hvp.mark h2).2
     rw [← hvp.from_] at hm
     exact ⟨_, _, rfl, .inr ⟨q2, rfl, by omega, hpos.2⟩, hf⟩
   · exact ⟨_, _, rfl, .inl rfl, hf⟩
theorem rmk_beh (T : ByteArray) (g c p : Nat) (rs : List Int) (w : World) (E : Int) (hT : T.size ≤ 100) (hT0 : 0 < T.size) (hl : rs.length ≤ 8100) (hv : ∀ r, r ∈ rs → signR r = true) (hE : Beh rs p E) (h : Ls w g c rs) :
    Calls Tryz.prog 27 #[.slice (some ⟨g, 0, none⟩) rs.length c, .int .i64 E, .string T] w fun e w' => ∃ E', e = .returned (.int .i64 E') ∧ Beh rs p E' ∧ w = w' := by
 rcases hE with rfl | ⟨q, rfl, h1, h2⟩
 · exact (rmark_neg T _ w).mono (fun e w' h => ⟨-1, h.1, .inl rfl, h.2⟩)
 · exact (rmk_weak T g c q rs w hT hT0 hl hv h2 h).mono (fun e w' h => h.elim fun E' h => ⟨E', h.1, h.2.1.up (by omega), h.2.2⟩)
theorem rwd_beh (T : ByteArray) (g c p : Nat) (rs : List Int) (w : World) (E : Int) (hT : T.size ≤ 100) (hT0 : 0 < T.size) (hl : rs.length ≤ 8100) (hv : ∀ r, r ∈ rs → signR r = true) (hE : Beh rs p E) (h : Ls w g c rs) :
    Calls Tryz.prog 25 #[.slice (some ⟨g, 0, none⟩) rs.length c, .int .i64 E, .string T] w fun e w' => ∃ E', e = .returned (.int .i64 E') ∧ Beh rs p E' ∧ w = w' := by
 rcases hE with rfl | ⟨q, rfl, h1, h2⟩
 · exact (rword2_neg T _ w).mono (fun e w' h => ⟨-1, h.1, .inl rfl, h.2⟩)
 · exact (rwd_weak T g c q rs w hT hT0 hl hv h2 h).mono (fun e w' h => h.elim fun E' h => ⟨E', h.1, h.2.1.up (by omega), h.2.2⟩)

theorem rsign_walk (g c p : Nat) (rs : List Int) (w : World) (hl : rs.length ≤ 8100) (hw : wt rs ≤ 8100) (hv : ∀ r, r ∈ rs → signR r = true) (hp : p ≤ rs.length) (h : Ls w g c rs)
    (HS : ∀ (q : Nat) (w1 : World), p < q → q ≤ rs.length → Ls w1 g c rs → Calls Tryz.prog 121 #[.slice (some ⟨g, 0, none⟩) rs.length c, .int .i64 (q : Int)] w1 (ExprPost rs q w1))
    (HE : ∀ (q : Nat) (w1 : World), p < q → q ≤ rs.length → Ls w1 g c rs → Calls Tryz.prog 93 #[.slice (some ⟨g, 0, none⟩) rs.length c, .int .i64 (q : Int), .int .i64 0] w1 (ExprPost rs q w1)) :
    Calls Tryz.prog 121 #[.slice (some ⟨g, 0, none⟩) rs.length c, .int .i64 (p : Int)] w (ExprPost rs p w) := by
 have f0 : Fr (fun _ => False) w (w.alloc (.cells #[.string ⟨#[]⟩, .string ⟨#[]⟩, .bool false, .int .i64 0, .string ⟨#[]⟩, .string ⟨#[]⟩, .string ⟨#[]⟩, .slice none 0 0] 42)) := (Fr.refl _ _).alloc _
 have hb : Blk (w.alloc (.cells #[.string ⟨#[]⟩, .string ⟨#[]⟩, .bool false, .int .i64 0, .string ⟨#[]⟩, .string ⟨#[]⟩, .string ⟨#[]⟩, .slice none 0 0] 42)) w.heap.size 42 Z42 := Blk.new w 42 #[.string ⟨#[]⟩, .string ⟨#[]⟩, .bool false, .int .i64 0, .string ⟨#[]⟩, .string ⟨#[]⟩, .string ⟨#[]⟩, .slice none 0 0]
 have HB := Lib.hid hb
 have HF := Lib.hid f0
 have hs := h.frF f0
 have HLS := Lib.hid hs
 have HM := Lib.hid (fun T (h1 : T.size ≤ 100) (h2 : 0 < T.size) => rmk_weak T g c p rs _ h1 h2 hl hv hp hs)
 have HW := Lib.hid (fun T (h1 : T.size ≤ 100) (h2 : 0 < T.size) => rwd_weak T g c p rs _ h1 h2 hl hv hp hs)
 have HN := Lib.hid (rnode_any g c p rs _ hl hw hv hp hs)
 have HMQ := Lib.hid (fun T q w1 (h1 : T.size ≤ 100) (h2 : 0 < T.size) (h3 : q ≤ rs.length) (h4 : Ls w1 g c rs) => rmk_weak T g c q rs w1 h1 h2 hl hv h3 h4)
 have HMN := Lib.hid (fun T w1 => rmark_neg T (.slice (some ⟨g, 0, none⟩) rs.length c) w1)
 have HVQ := Lib.hid (fun q w1 (h3 : q ≤ rs.length) (h4 : Ls w1 g c rs) => rvar_any g c q rs w1 hl hv h3 h4)
 have HVN := Lib.hid (fun w1 => rvar_neg (.slice (some ⟨g, 0, none⟩) rs.length c) w1)
 have HVB := Lib.hid (fun q E w1 hE h4 => rvar_weak g c q rs w1 E hl hv hE h4)
 have HMB := Lib.hid (fun T q E w1 h1 h2 hE h4 => rmk_beh T g c q rs w1 E h1 h2 hl hv hE h4)
 have HTR := Lib.hid (fun s w1 => rtruth s w1)
 have HSS := Lib.hid HS
 have HEE := Lib.hid HE
 clear hs f0 hb h hv hw HS HE
 go_enter Tryz.func121, Tryz.ntmps121
 go_wp2_with fail
 refine (HM.out ⟨#[33]⟩ (by decide) (by decide)).mono ?_
 rintro e w1 ⟨E0, rfl, hE, rfl⟩
 generalize w.alloc (.cells #[.string ⟨#[]⟩, .string ⟨#[]⟩, .bool false, .int .i64 0, .string ⟨#[]⟩, .string ⟨#[]⟩, .string ⟨#[]⟩, .slice none 0 0] 42) = w0 at *
 have hw0 := HB.out.lt
 rcases hE.symm with ⟨q, rfl, h1, h2⟩ | rfl
 · have hq0 : (0 : Int) ≤ (q : Int) := by omega
   go_wp2_with fail
   refine (HSS.out q _ h1 h2 HLS.out).mono ?_
   rintro e w2 ⟨cs, E, d, rfl, hN, hBe, hf2⟩
   have HB2 := Lib.hid (HB.out.fr hf2 (fun h => h))
   have HF2 := Lib.hid ((HF.out.trans' hf2).up.alloc (.cells #[.string ⟨#[]⟩, .string ⟨#[]⟩, .bool false, .int .i64 0, .string ⟨#[]⟩, .string ⟨#[]⟩, .string ⟨#[]⟩, .slice none 0 0] 42))
   have hz2 := HB2.out.lt
   have HBE := Lib.hid (hBe.up (p := p) (by omega))
   have HZ2 := Lib.hid (show Blk (w2.alloc (.cells #[.string ⟨#[]⟩, .string ⟨#[]⟩, .bool false, .int .i64 0, .string ⟨#[]⟩, .string ⟨#[]⟩, .string ⟨#[]⟩, .slice none 0 0] 42)) w2.heap.size 42 Z42 from Blk.new w2 42 #[.string ⟨#[]⟩, .string ⟨#[]⟩, .bool false, .int .i64 0, .string ⟨#[]⟩, .string ⟨#[]⟩, .string ⟨#[]⟩, .slice none 0 0])
   have HB3 := Lib.hid (HB2.out.alloc (.cells #[.string ⟨#[]⟩, .string ⟨#[]⟩, .bool false, .int .i64 0, .string ⟨#[]⟩, .string ⟨#[]⟩, .string ⟨#[]⟩, .slice none 0 0] 42))
   clear hf2 hBe
   go_wp2_with (((with_reducible change wpList _ _ _ (Oper.mk _ (.store 42 _ _) _ _ _ _ :: _) _ _); refine wpList_store_blk rfl 42 _ _ rfl _ _ rfl rfl 42 _ HZ2.out (hN.sz) (inf42c hN) (hN.one) ?_))
   rintro w3 hb3 hf3
   have HB4 := Lib.hid ((HB3.out.oth hf3 (by omega)).alloc (.cells cs 42))
   have HF4 := Lib.hid ((HF2.out.andX hf3 (by omega)).alloc (.cells cs 42))
   have HC3 := Lib.hid hb3
   have h31 := (HB3.out.oth hf3 (by omega)).lt
   clear hb3 hf3
   go_wp2_with (first | ((with_reducible change wpList _ _ _ (Oper.mk _ (.load 42 _) _ _ _ _ :: _) _ _); refine wpList_load_blk rfl 42 _ rfl _ rfl 42 _ HC3.out _ Tryz.underlying42 rfl (inf42c hN) ?_) | ((with_reducible change wpList _ _ _ (Oper.mk _ (.buildSlice 40 1 _) _ _ _ _ :: _) _ _); refine wpList_lit1 rfl 40 42 _ rfl cs rfl Tryz.underlying40 (inf42c hN) zer42 (by rw [hN.sz]; decide) (by rw [hN.sz]; decide) ?_; rintro _ rfl) | ((with_reducible change wpList _ _ _ (Oper.mk _ (.store 42 _ _) _ _ _ _ :: _) _ _); refine wpList_store_blk rfl 42 _ _ rfl _ _ rfl rfl 42 _ HB4.out (by rfl) (by exact inf42) (by exact one42 _ _ _ _ _ _ _ _ _ _) ?_))
   rintro w5 hb5 hf5
   have HFF := Lib.hid ((HF4.out.andX hf5 (Nat.le_refl _)).shut (Nat.le_refl _))
   go_wp2_with fail
   exact bodyPost_ret (v := .tuple #[.agg _, .int .i64 E, .int .i64 _]) (results_e3 rfl _ _ w.heap.size 42 _ (0, 0) _ rfl hb5 Tryz.underlying42 rfl inf42 _ _ rfl rfl) rfl ⟨_, _, _, rfl, ⟨rfl, one42 _ _ _ _ _ _ _ _ _ _⟩, HBE.out, HFF.out⟩
 go_wp2_with fail
 refine (HM.out ⟨#[45]⟩ (by decide) (by decide)).mono ?_
 rintro e w1 ⟨E0, rfl, hE, rfl⟩
 rcases hE.symm with ⟨q, rfl, h1, h2⟩ | rfl
 · have hq0 : (0 : Int) ≤ (q : Int) := by omega
   go_wp2_with fail
   refine (HSS.out q _ h1 h2 HLS.out).mono ?_
   rintro e w2 ⟨cs, E, d, rfl, hN, hBe, hf2⟩
   have HB2 := Lib.hid (HB.out.fr hf2 (fun h => h))
   have HF2 := Lib.hid ((HF.out.trans' hf2).up.alloc (.cells #[.string ⟨#[]⟩, .string ⟨#[]⟩, .bool false, .int .i64 0, .string ⟨#[]⟩, .string ⟨#[]⟩, .string ⟨#[]⟩, .slice none 0 0] 42))
   have hz2 := HB2.out.lt
   have HBE := Lib.hid (hBe.up (p := p) (by omega))
   have HZ2 := Lib.hid (show Blk (w2.alloc (.cells #[.string ⟨#[]⟩, .string ⟨#[]⟩, .bool false, .int .i64 0, .string ⟨#[]⟩, .string ⟨#[]⟩, .string ⟨#[]⟩, .slice none 0 0] 42)) w2.heap.size 42 Z42 from Blk.new w2 42 #[.string ⟨#[]⟩, .string ⟨#[]⟩, .bool false, .int .i64 0, .string ⟨#[]⟩, .string ⟨#[]⟩, .string ⟨#[]⟩, .slice none 0 0])
   have HB3 := Lib.hid (HB2.out.alloc (.cells #[.string ⟨#[]⟩, .string ⟨#[]⟩, .bool false, .int .i64 0, .string ⟨#[]⟩, .string ⟨#[]⟩, .string ⟨#[]⟩, .slice none 0 0] 42))
   clear hf2 hBe
   go_wp2_with (((with_reducible change wpList _ _ _ (Oper.mk _ (.store 42 _ _) _ _ _ _ :: _) _ _); refine wpList_store_blk rfl 42 _ _ rfl _ _ rfl rfl 42 _ HZ2.out (hN.sz) (inf42c hN) (hN.one) ?_))
   rintro w3 hb3 hf3
   have HB4 := Lib.hid ((HB3.out.oth hf3 (by omega)).alloc (.cells cs 42))
   have HF4 := Lib.hid ((HF2.out.andX hf3 (by omega)).alloc (.cells cs 42))
   have HC3 := Lib.hid hb3
   have h31 := (HB3.out.oth hf3 (by omega)).lt
   clear hb3 hf3
   go_wp2_with (first | ((with_reducible change wpList _ _ _ (Oper.mk _ (.load 42 _) _ _ _ _ :: _) _ _); refine wpList_load_blk rfl 42 _ rfl _ rfl 42 _ HC3.out _ Tryz.underlying42 rfl (inf42c hN) ?_) | ((with_reducible change wpList _ _ _ (Oper.mk _ (.buildSlice 40 1 _) _ _ _ _ :: _) _ _); refine wpList_lit1 rfl 40 42 _ rfl cs rfl Tryz.underlying40 (inf42c hN) zer42 (by rw [hN.sz]; decide) (by rw [hN.sz]; decide) ?_; rintro _ rfl) | ((with_reducible change wpList _ _ _ (Oper.mk _ (.store 42 _ _) _ _ _ _ :: _) _ _); refine wpList_store_blk rfl 42 _ _ rfl _ _ rfl rfl 42 _ HB4.out (by rfl) (by exact inf42) (by exact one42 _ _ _ _ _ _ _ _ _ _) ?_))
   rintro w5 hb5 hf5
   have HFF := Lib.hid ((HF4.out.andX hf5 (Nat.le_refl _)).shut (Nat.le_refl _))
   go_wp2_with fail
   exact bodyPost_ret (v := .tuple #[.agg _, .int .i64 E, .int .i64 _]) (results_e3 rfl _ _ w.heap.size 42 _ (0, 0) _ rfl hb5 Tryz.underlying42 rfl inf42 _ _ rfl rfl) rfl ⟨_, _, _, rfl, ⟨rfl, one42 _ _ _ _ _ _ _ _ _ _⟩, HBE.out, HFF.out⟩
 go_wp2_with fail
 refine (HM.out ⟨#[40]⟩ (by decide) (by decide)).mono ?_
 rintro e w1 ⟨E0, rfl, hE, rfl⟩
 rcases hE.symm with ⟨q, rfl, h1, h2⟩ | rfl
 · have hq0 : (0 : Int) ≤ (q : Int) := by omega
   go_wp2_with fail
   refine (HEE.out q _ h1 h2 HLS.out).mono ?_
   rintro e w2 ⟨cs, E, d, rfl, hN, hBe, hf2⟩
   have HB2 := Lib.hid (HB.out.fr hf2 (fun h => h))
   have HF2 := Lib.hid ((HF.out.trans' hf2).up.alloc (.cells #[.string ⟨#[]⟩, .string ⟨#[]⟩, .bool false, .int .i64 0, .string ⟨#[]⟩, .string ⟨#[]⟩, .string ⟨#[]⟩, .slice none 0 0] 42))
   have HLS2 := Lib.hid (HLS.out.frF (hf2.alloc (.cells #[.string ⟨#[]⟩, .string ⟨#[]⟩, .bool false, .int .i64 0, .string ⟨#[]⟩, .string ⟨#[]⟩, .string ⟨#[]⟩, .slice none 0 0] 42)))
   have hz2 := HB2.out.lt
   have HBE := Lib.hid (hBe.up (p := p) (by omega))
   have HZ2 := Lib.hid (show Blk (w2.alloc (.cells #[.string ⟨#[]⟩, .string ⟨#[]⟩, .bool false, .int .i64 0, .string ⟨#[]⟩, .string ⟨#[]⟩, .string ⟨#[]⟩, .slice none 0 0] 42)) w2.heap.size 42 Z42 from Blk.new w2 42 #[.string ⟨#[]⟩, .string ⟨#[]⟩, .bool false, .int .i64 0, .string ⟨#[]⟩, .string ⟨#[]⟩, .string ⟨#[]⟩, .slice none 0 0])
   have HB3 := Lib.hid (HB2.out.alloc (.cells #[.string ⟨#[]⟩, .string ⟨#[]⟩, .bool false, .int .i64 0, .string ⟨#[]⟩, .string ⟨#[]⟩, .string ⟨#[]⟩, .slice none 0 0] 42))
   clear hf2 hBe
   go_wp2_with (((with_reducible change wpList _ _ _ (Oper.mk _ (.store 42 _ _) _ _ _ _ :: _) _ _); refine wpList_store_blk rfl 42 _ _ rfl _ _ rfl rfl 42 _ HZ2.out (hN.sz) (inf42c hN) (hN.one) ?_))
   rintro w3 hb3 hf3
   have HB4 := Lib.hid (HB3.out.oth hf3 (by omega)).drew
   have HF4 := Lib.hid (HF2.out.andX hf3 (by omega)).drew
   have HLS4 := Lib.hid ((HLS2.out.frB HZ2.out (by decide) hf3).frF (Fr.refl _ _).drew)
   have h31 := (HB3.out.oth hf3 (by omega)).lt
   have hx31 := hb3.lt
   go_wp2_with fail
   have hm : Calls Tryz.prog 27 #[.slice (some ⟨g, 0, none⟩) rs.length c, .int .i64 E, .string ⟨#[41]⟩] w3.drew fun e w' => ∃ E', e = .returned (.int .i64 E') ∧ Beh rs p E' ∧ w3.drew = w' := by
    rcases HBE.out with rfl | ⟨q2, rfl, h3, h4⟩
    · exact (HMN.out _ _).mono (fun e w' h => ⟨-1, h.1, .inl rfl, h.2⟩)
    · exact (HMQ.out _ q2 _ (by decide) (by decide) h4 HLS4.out).mono (fun e w' h => h.elim fun E' h => ⟨E', h.1, h.2.1.up (by omega), h.2.2⟩)
   have HMK := Lib.hid hm
   have HX := Lib.hid hb3.drew
   clear hm hf3 hb3
   refine wp_region_noPanic ?_
   refine wp_region_held_drew (S := fun wy => Blk wy w2.heap.size 42 cs) (by kernel_rfl) ?_ (fun hHeld => ?_)
   · try dsimp only
     exact HX.out
   refine wpAnyH_take (i := 0) (oi := _) (v := _) (by simp only [List.getElem?_toArray, List.getElem?_cons_zero]; rfl) (by kernel_rfl) (by kernel_rfl) (by kernel_rfl) (fun _ _ _ h => h) (yieldsIf_load_blk (by rfl) 42 _ rfl _ rfl 42 _ (fun _ h => h) _ Tryz.underlying42 rfl (inf42c hN)) (by assumption) ?_
   try simp only [Act.put, List.setIfInBounds_toArray, List.set_cons_zero, List.set_cons_succ]
   refine wpAnyH_take (i := 1) (oi := _) (v := ?_) (by simp only [List.getElem?_toArray, List.getElem?_cons_zero, List.getElem?_cons_succ]; rfl) (by kernel_rfl) (by kernel_rfl) (by kernel_rfl) (fun _ _ _ h => h) (Or.inl ⟨by rfl, ?_⟩) (by assumption) ?_
   rotate_left
   · intro w hSw
     try dsimp only at hSw
     go_simp
     all_goals (with_reducible rfl)
   try simp only [Act.put, List.setIfInBounds_toArray, List.set_cons_zero, List.set_cons_succ]
   refine wpAnyH_take (i := 2) (oi := _) (v := ?_) (by simp only [List.getElem?_toArray, List.getElem?_cons_zero, List.getElem?_cons_succ]; rfl) (by kernel_rfl) (by kernel_rfl) (by kernel_rfl) (fun _ _ _ h => h) (Or.inl ⟨by rfl, ?_⟩) (by assumption) ?_
   rotate_left
   · intro w hSw
     try dsimp only at hSw
     go_simp
     all_goals (with_reducible rfl)
   try simp only [Act.put, List.setIfInBounds_toArray, List.set_cons_zero, List.set_cons_succ]
   refine wpAnyH_take (i := 4) (oi := _) (v := ?_) (by simp only [List.getElem?_toArray, List.getElem?_cons_zero, List.getElem?_cons_succ]; rfl) (by kernel_rfl) (by kernel_rfl) (by kernel_rfl) (fun _ _ _ h => h) (Or.inl ⟨by rfl, ?_⟩) (by assumption) ?_
   rotate_left
   · intro w hSw
     try dsimp only at hSw
     go_simp
     all_goals (with_reducible rfl)
   try simp only [Act.put, List.setIfInBounds_toArray, List.set_cons_zero, List.set_cons_succ]
   refine wpAnyH_ready (rs := [3]) (by kernel_rfl) (by simp) ?_
   refine AllReadyH.cons (o := _) (by simp only [List.getElem?_toArray, List.getElem?_cons_zero, List.getElem?_cons_succ]; rfl) (fun K hK => ?_) ?_
   · skip
     go_simp
     go_at_call 27
     refine HMK.out.mono ?_
     rintro e w5 ⟨E3, rfl, hB3, rfl⟩
     refine hK.out _ _ ?_ (fun hHeld => ?_)
     · try dsimp only
       exact HX.out
     clear hK K
     try simp only [Act.put, List.setIfInBounds_toArray, List.set_cons_zero, List.set_cons_succ]
     refine wpAnyH_ready (rs := [5]) (by kernel_rfl) (by simp) ?_
     refine AllReadyH.cons (o := _) (by simp only [List.getElem?_toArray, List.getElem?_cons_zero, List.getElem?_cons_succ]; rfl) (fun K hK => ?_) ?_
     · skip
       rw [if_pos (by rfl)]
       refine wp_store_blk 42 _ _ rfl _ _ rfl rfl 42 _ HB4.out (hN.sz) (inf42c hN) (hN.one) ?_
       rintro w5 hb5 hf5
       refine hK.out _ _ ?_ (fun hHeld => ?_)
       · try dsimp only
         exact HX.out.oth hf5 (by omega)
       clear hK K
       try simp only [Act.put]
       refine wpAnyH_take (i := 6) (oi := _) (v := ?_) (by simp only [List.getElem?_toArray, List.getElem?_cons_zero, List.getElem?_cons_succ]; rfl) (by kernel_rfl) (by kernel_rfl) (by kernel_rfl) (fun _ _ _ h => h) (Or.inl ⟨by rfl, ?_⟩) (by assumption) ?_
       rotate_left
       · intro w hSw
         try dsimp only at hSw
         go_simp
         all_goals (with_reducible rfl)
       try simp only [Act.put, List.setIfInBounds_toArray, List.set_cons_zero, List.set_cons_succ]
       refine wpAnyH_take (i := 7) (oi := _) (v := ?_) (by simp only [List.getElem?_toArray, List.getElem?_cons_zero, List.getElem?_cons_succ]; rfl) (by kernel_rfl) (by kernel_rfl) (by kernel_rfl) (fun _ _ _ h => h) (Or.inl ⟨by rfl, ?_⟩) (by assumption) ?_
       rotate_left
       · intro w hSw
         try dsimp only at hSw
         go_simp
         all_goals (with_reducible rfl)
       try simp only [Act.put, List.setIfInBounds_toArray, List.set_cons_zero, List.set_cons_succ]
       refine wpAnyH_done (by kernel_rfl) ?_ _
       refine NoPanic.normal ?_
       have HFF := Lib.hid ((HF4.out.andX hf5 (Nat.le_refl _)).shut (Nat.le_refl _))
       go_wp2_with fail
       exact bodyPost_ret (v := .tuple #[.agg cs, .int .i64 E3, .int .i64 d]) (results_e3 rfl _ _ w.heap.size 42 _ (0, 0) _ rfl hb5 Tryz.underlying42 rfl (inf42c hN) _ _ rfl rfl) rfl ⟨_, _, _, rfl, hN, hB3, HFF.out⟩
     exact AllReadyH.nil
   exact AllReadyH.nil
 go_wp2_with fail
 refine (HW.out ⟨#[84, 82, 85, 69]⟩ (by decide) (by decide)).mono ?_
 rintro e w1 ⟨E0, rfl, hE, rfl⟩
 rcases hE.symm with ⟨q, rfl, h1, h2⟩ | rfl
 · have hq0 : (0 : Int) ≤ (q : Int) := by omega
   go_wp2_with fail
   refine (HTR.out _ _).mono ?_
   rintro e w2 ⟨t3, rfl, hf2⟩
   have HB4 := Lib.hid (HB.out.fr hf2 (fun h => h))
   have HF4 := Lib.hid ((HF.out.trans' hf2).up)
   clear hf2
   go_wp2_with ((with_reducible change wpList _ _ _ (Oper.mk _ (.store 42 _ _) _ _ _ _ :: _) _ _); refine wpList_store_blk rfl 42 _ _ rfl _ _ rfl rfl 42 _ HB4.out (by rfl) (by exact inf42) (by exact one42 _ _ _ _ _ _ _ _ _ _) ?_)
   rintro w5 hb5 hf5
   have HFF := Lib.hid ((HF4.out.andX hf5 (Nat.le_refl _)).shut (Nat.le_refl _))
   go_wp2_with fail
   exact bodyPost_ret (v := .tuple #[.agg _, .int .i64 q, .int .i64 1]) (results_e3 rfl _ _ w.heap.size 42 _ (0, 0) _ rfl hb5 Tryz.underlying42 rfl inf42 _ _ rfl rfl) rfl ⟨_, _, _, rfl, ⟨rfl, one42 _ _ _ _ _ _ _ _ _ _⟩, .inr ⟨q, rfl, h1, h2⟩, HFF.out⟩
 go_wp2_with fail
 refine (HW.out ⟨#[70, 65, 76, 83, 69]⟩ (by decide) (by decide)).mono ?_
 rintro e w1 ⟨E0, rfl, hE, rfl⟩
 rcases hE.symm with ⟨q, rfl, h1, h2⟩ | rfl
 · have hq0 : (0 : Int) ≤ (q : Int) := by omega
   go_wp2_with fail
   refine (HTR.out _ _).mono ?_
   rintro e w2 ⟨t3, rfl, hf2⟩
   have HB4 := Lib.hid (HB.out.fr hf2 (fun h => h))
   have HF4 := Lib.hid ((HF.out.trans' hf2).up)
   clear hf2
   go_wp2_with ((with_reducible change wpList _ _ _ (Oper.mk _ (.store 42 _ _) _ _ _ _ :: _) _ _); refine wpList_store_blk rfl 42 _ _ rfl _ _ rfl rfl 42 _ HB4.out (by rfl) (by exact inf42) (by exact one42 _ _ _ _ _ _ _ _ _ _) ?_)
   rintro w5 hb5 hf5
   have HFF := Lib.hid ((HF4.out.andX hf5 (Nat.le_refl _)).shut (Nat.le_refl _))
   go_wp2_with fail
   exact bodyPost_ret (v := .tuple #[.agg _, .int .i64 q, .int .i64 1]) (results_e3 rfl _ _ w.heap.size 42 _ (0, 0) _ rfl hb5 Tryz.underlying42 rfl inf42 _ _ rfl rfl) rfl ⟨_, _, _, rfl, ⟨rfl, one42 _ _ _ _ _ _ _ _ _ _⟩, .inr ⟨q, rfl, h1, h2⟩, HFF.out⟩
 go_wp2_with fail
 refine (HW.out ⟨#[66, 79, 85, 78, 68]⟩ (by decide) (by decide)).mono ?_
 rintro e w1 ⟨E0, rfl, hE, rfl⟩
 rcases hE.symm with ⟨q, rfl, h1, h2⟩ | rfl
 · have hq0 : (0 : Int) ≤ (q : Int) := by omega
   go_wp2_with fail
   refine (HMQ.out _ q _ (by decide) (by decide) h2 HLS.out).mono ?_
   rintro e w1 ⟨E1, rfl, hB1, rfl⟩
   go_wp2_with fail
   refine (HVB.out q E1 _ hB1 HLS.out).mono ?_
   rintro e w2 ⟨s, E2, rfl, hB2, hf2⟩
   have HB4 := Lib.hid (HB.out.fr hf2 (fun h => h))
   have HF4 := Lib.hid ((HF.out.trans' hf2).up)
   have hm := HMB.out ⟨#[41]⟩ q E2 _ (by decide) (by decide) hB2 (HLS.out.frF hf2)
   have HMK := Lib.hid hm
   clear hm hf2
   go_wp2_with fail
   refine HMK.out.mono ?_
   rintro e w1 ⟨E3, rfl, hB3, rfl⟩
   go_wp2_with ((with_reducible change wpList _ _ _ (Oper.mk _ (.store 42 _ _) _ _ _ _ :: _) _ _); refine wpList_store_blk rfl 42 _ _ rfl _ _ rfl rfl 42 _ HB4.out (by rfl) (by exact inf42) (by exact one42 _ _ _ _ _ _ _ _ _ _) ?_)
   rintro w5 hb5 hf5
   have HFF := Lib.hid ((HF4.out.andX hf5 (Nat.le_refl _)).shut (Nat.le_refl _))
   go_wp2_with fail
   exact bodyPost_ret (v := .tuple #[.agg _, .int .i64 E3, .int .i64 1]) (results_e3 rfl _ _ w.heap.size 42 _ (0, 0) _ rfl hb5 Tryz.underlying42 rfl inf42 _ _ rfl rfl) rfl ⟨_, _, _, rfl, ⟨rfl, one42 _ _ _ _ _ _ _ _ _ _⟩, hB3.up (by omega), HFF.out⟩
 go_wp2_with fail
 refine HN.out.mono ?_
 rintro e w2 ⟨v, b, k, t1, t2, t3, E, rfl, hBe, hf2⟩
 · have hf3 := hf2.alloc (.cells #[.string v, .bool b, .int .i64 k, .string t1, .string t2, .string t3] 36)
   have HB4 := Lib.hid (HB.out.fr hf3 (fun h => h))
   have HF4 := Lib.hid ((HF.out.trans' hf3).up)
   have HRA := Lib.hid (blkRange (cs := [.string v, .bool b, .int .i64 k, .string t1, .string t2, .string t3]) (Blk.new w2 36 #[.string v, .bool b, .int .i64 k, .string t1, .string t2, .string t3]))
   have HBE := Lib.hid (show Beh rs p E from hBe.elim .inl (fun h => h.elim fun q h => .inr ⟨q, h.1, h.2.1, h.2.2.1⟩))
   clear hf2 hf3 hBe
   go_wp2_with (first | ((with_reducible change wpList _ _ _ (Oper.mk _ (.load 36 _) _ _ _ _ :: _) _ _); refine wpList_load_mid rfl 36 _ rfl _ _ rfl _ _ HRA.out Tryz.underlying36 rfl inf36 ?_) | ((with_reducible change wpList _ _ _ (Oper.mk _ (.store 42 _ _) _ _ _ _ :: _) _ _); refine wpList_store_blk rfl 42 _ _ rfl _ _ rfl rfl 42 _ HB4.out (by rfl) (by exact inf42) (by exact one42 _ _ _ _ _ _ _ _ _ _) ?_))
   rintro w5 hb5 hf5
   have HFF := Lib.hid ((HF4.out.andX hf5 (Nat.le_refl _)).shut (Nat.le_refl _))
   go_wp2_with fail
   exact bodyPost_ret (v := .tuple #[.agg _, .int .i64 E, .int .i64 1]) (results_e3 rfl _ _ w.heap.size 42 _ (0, 0) _ rfl hb5 Tryz.underlying42 rfl inf42 _ _ rfl rfl) rfl ⟨_, _, _, rfl, ⟨rfl, one42 _ _ _ _ _ _ _ _ _ _⟩, HBE.out, HFF.out⟩

end Go.Proofs.YtagchljgmjmlcaaGreatDoor
