/- The two texts of TotalDistincts, parsed. -/
import Derived.Test.YtebddgdkndmpjaaGreatDoorEa
import Derived.Test.YtebddgdkndmpjaaGreatDoorBw
import Derived.Test.YtebddgdkndmpjaaGreatDoorBs
import Derived.Deep.CutBlock
import Derived.Deep.RegionLawGrows
import Derived.Deep.Cut
import Derived.Deep.CutRange
import Derived.WalkKit
import Derived.WalkLawsBesides
import Derived.WalkSpells
import Derived.Deep.QuietTactic
import Derived.BigRegion
import Derived.BigQuiet
import Derived.Lib.Hide
import Derived.Outline
import Derived.Deep.AppendLies
import Derived.Deep.RegionLaw
import Derived.Deep.RegionWith
import Derived.Deep.RegionHeld3
import Derived.Deep.LoopGhost
import Derived.Deep.DeepFit
import Derived.Laws.ResultCell
import Derived.Laws.RangeAny
import Derived.Deep.MidRow
import Derived.StillTailTactics
import Derived.OpenShut
namespace Go.Proofs.YtebddgdkndmpjaaGreatDoor
set_option linter.unusedVariables false
open Go.RowKit Go

/-- What is known of a query's text up to its group, but what it selects: a list. -/
def QCL (rs : List Int) (l : List UInt8) (dis : Bool) (n : Nat) (S P : Nat → Nat) (p1 p2 s2 p4 p5 s7 p8 : Nat) : Prop :=
  (wordAt rs 0 tREG = true ∧ wordTo rs 0 tREG = p1) ∧ (wordAt rs p1 tRS = true ∧ wordTo rs p1 tRS = p2 ∧ skip rs [0] (skip rs [0] p1) = skip rs [0] p1 ∧ wordAt rs (skip rs [0] p1) tRS = true ∧ wordTo rs (skip rs [0] p1) tRS = p2) ∧
  (skip rs [0] p2 = s2 ∧ skip rs [0] s2 = s2 ∧ (peekOf rs s2 = 60 ∧ (∀ i, i < l.length → peekOf rs (s2 + 1 + i) = ((l.getD i 0).toNat : Int) ∧ (l.getD i 0).toNat < 128 ∧ (l.getD i 0).toNat ≠ 10 ∧ (l.getD i 0).toNat ≠ 62 ∧ (l.getD i 0).toNat ≠ 92) ∧ peekOf rs (s2 + 1 + l.length) = 62)) ∧
  (wordAt rs (s2 + l.length + 2) tAS = true ∧ wordTo rs (s2 + l.length + 2) tAS = p4) ∧ (wordAt rs p4 tSEL = true ∧ wordTo rs p4 tSEL = p5) ∧ (wordAt rs p5 tDIS = dis ∧ wordTo rs p5 tDIS = S 0) ∧
  (1 ≤ n ∧ n ≤ 9) ∧ (∀ i, i < n → 0 < i → skip rs [0] (P (i - 1)) = S i ∧ skip rs [0] (S i) = S i ∧ (peekOf rs (S i) = 63 ∨ peekOf rs (S i) = 40)) ∧
  (skip rs [0] (P (n - 1)) = s7 ∧ skip rs [0] s7 = s7 ∧ peekOf rs s7 ≠ 63 ∧ peekOf rs s7 ≠ 40) ∧ wordAt rs s7 tFROM = false ∧ (wordAt rs s7 tWH = true ∧ wordTo rs s7 tWH = p8)
instance (rs : List Int) (l : List UInt8) (dis : Bool) (n : Nat) (S P : Nat → Nat) (p1 p2 s2 p4 p5 s7 p8 : Nat) : Decidable (QCL rs l dis n S P p1 p2 s2 p4 p5 s7 p8) := by unfold QCL; infer_instance
theorem QCL.text {rs : List Int} {l : List UInt8} {dis : Bool} {n : Nat} {S P : Nat → Nat} {p1 p2 s2 p4 p5 s7 p8 : Nat} {svs : List (ByteArray × ByteArray × ByteArray)} (h : QCL rs l dis n S P p1 p2 s2 p4 p5 s7 p8) (hn : svs.length = n) (h0 : l ≠ []) (h1 : l.length ≤ 1000) (h2 : (Tm.iri ⟨l.toArray⟩).good = true)
    (h3 : ∀ i, i < svs.length → ∀ (b c : Nat) (A : Option Addr) (w : World), Sc w b A c rs (S i) → Calls Tryz.prog 96 #[.agg #[.pointer (some ⟨b, 0, none⟩)]] w (ScPost w b A c rs (P i) (selVal (svs.getD i default)))) : QTextL rs l dis svs S P p1 p2 s2 p4 p5 s7 p8 := by
  subst hn
  obtain ⟨a1, a2, ⟨a3, a4, a5⟩, a6, a7, a8, a9, a10, a11, a12, a13⟩ := h
  exact ⟨a1, a2, ⟨a3, a4, a5, h0, h1, h2⟩, a6, a7, a8, a9, h3, fun i h1 h2 => a10 i h2 h1, a11, a12, a13⟩
/-- The cells of a tree of a list of selected things. -/
def PQL (G : World → Nat → Value → Prop) (kind t : ByteArray) (dis : Bool) (svs : List (ByteArray × ByteArray × ByteArray)) (w : World) (B : Nat) (cs : List Value) : Prop :=
  ∃ SA sc v, cs = [.string kind, .string t, .bool dis, .slice SA svs.length sc, .slice none 0 0, v, .slice none 0 0] ∧ w.ownsRow B 176 3 (.slice SA svs.length sc) svs.length (selCells svs) ∧ G w B v
theorem plaw_pql {G : World → Nat → Value → Prop} (HGL : GLaw G) (kind t : ByteArray) (dis : Bool) (svs : List (ByteArray × ByteArray × ByteArray)) : PLaw (PQL G kind t dis svs) := by
  constructor
  · rintro w B cs ⟨SA, sc, v, rfl, h1, h2⟩
    obtain ⟨A, n, c, rfl⟩ := HGL.slice h2
    exact ⟨_, _, _, _, _, _, _, _, _, _, _, _, _, _, _, rfl⟩
  · rintro w B B' cs hB ⟨SA, sc, v, rfl, h1, h2⟩
    exact ⟨SA, sc, v, rfl, ownsRow_base h1 hB, HGL.base hB h2⟩
  · rintro w w' B cs ⟨SA, sc, v, rfl, h1, h2⟩ hf
    exact ⟨SA, sc, v, rfl, ownsRow_fr h1 hf (fun _ _ h => h), HGL.frF h2 hf⟩
  · rintro w w' B x t cs ds ⟨SA, sc, v, rfl, h1, h2⟩ hx ht hf
    refine ⟨SA, sc, v, rfl, ownsRow_fr h1 hf (fun j hj e => own_blk_ne h1 hx (fun e2 => ?_) (by rw [hj, e])), HGL.frB h2 hx ?_ ?_ hf⟩
    · subst e2
      rcases ht with h | h | h | h <;> exact absurd h (by decide)
    · rintro rfl
      rcases ht with h | h | h | h <;> exact absurd h (by decide)
    · rintro rfl
      rcases ht with h | h | h | h <;> exact absurd h (by decide)
theorem q_of_queryL {G : World → Nat → Value → Prop} {w : World} {b c q : Nat} {A : Option Addr} {rs : List Int} {pl : Int} {kind t : ByteArray} {dis : Bool} {svs : List (ByteArray × ByteArray × ByteArray)} {e : Ending} {w' : World} (h : QueryPostL G w b A c rs q false pl kind t dis svs e w') : QPost (PQL G kind t dis svs) w b A c rs q e w' := by
  unfold QueryPostL at h
  rw [if_neg (by decide)] at h
  obtain ⟨SA, sc, v, rfl, h1, h2, h3, h4⟩ := h
  exact ⟨_, rfl, ⟨SA, sc, v, rfl, h1, h2⟩, h3, h4⟩

/-- What both texts select. -/
def caS : List (ByteArray × ByteArray × ByteArray) := [(⟨#[99]⟩, ⟨#[]⟩, ⟨#[]⟩), (⟨#[97]⟩, ⟨#[]⟩, ⟨#[]⟩)]
/-- A text of a query. -/
def allT : ByteArray := ⟨#[82, 69, 71, 73, 83, 84, 69, 82, 32, 82, 83, 84, 82, 69, 65, 77, 32, 60, 117, 58, 111, 62, 32, 65, 83, 32, 83, 69, 76, 69, 67, 84, 32, 63, 99, 32, 63, 97, 32, 87, 72, 69, 82, 69, 32, 123, 32, 63, 97, 32, 63, 98, 32, 63, 99, 32, 46, 32, 125]⟩
theorem all_qc : QCL (txt allT) [117, 58, 111] false 2 (fun i => if i = 0 then 33 else 36) (fun i => if i = 0 then 35 else 38) 8 16 17 25 32 39 44 := by decide +kernel
theorem all_sel : NC (txt allT) 33 33 [99] ∧ NC (txt allT) 36 36 [97] := by decide +kernel
theorem all_grp : (skip (txt allT) [0] 44 = 45 ∧ peekOf (txt allT) 45 = 123) ∧ (markAt (txt allT) (45 + 1) ⟨#[125]⟩ = false ∧ markTo (txt allT) (45 + 1) ⟨#[125]⟩ = 47) ∧ (skip (txt allT) [0] 47 = 47 ∧ peekOf (txt allT) 47 = 63) := by decide +kernel
theorem all_abc : NC (txt allT) 47 47 [97] ∧ (skip (txt allT) [0] 49 = 50 ∧ peekOf (txt allT) 50 = 63) ∧ NC (txt allT) 50 50 [98] ∧ NC (txt allT) 52 53 [99] := by decide +kernel
theorem all_end : (markAt (txt allT) 55 ⟨#[46]⟩ = true ∧ markTo (txt allT) 55 ⟨#[46]⟩ = 57) ∧ (markAt (txt allT) 57 ⟨#[125]⟩ = true ∧ markTo (txt allT) 57 ⟨#[125]⟩ = 59) ∧ wordAt (txt allT) 59 tGR = false ∧ skip (txt allT) [0] (skip (txt allT) [0] 59) = (txt allT).length := by decide +kernel
theorem all_group (b c : Nat) (A : Option Addr) (w : World) (hg : Sg w) (h : Sc w b A c (txt allT) 44) : Calls Tryz.prog 99 #[.agg #[.pointer (some ⟨b, 0, none⟩)], .int .i64 40] w (GrpPostG Flat w b A c (txt allT) 59) := by
  refine group_var ⟨#[97]⟩ ⟨#[98]⟩ ⟨#[99]⟩ 40 (by decide) (by decide) b c 44 45 47 57 59 A _ w all_grp.1.1 all_grp.1.2 all_grp.2.1 (fun w2 hg2 h2 => ?_) all_end.2.1 hg h
  refine item_var _ _ _ _ b c 47 57 A _ w2 all_grp.2.2.1 all_grp.2.2.2 (fun w3 hg3 h3 => ?_) hg2 h2
  exact triple_var _ _ _ b c 47 49 50 52 55 57 A _ w3 (fun w4 h4 => node_var [97] b c _ _ A _ w4 (by decide) all_abc.1.1 all_abc.1.2.1 all_abc.1.name h4) all_abc.2.1.1 all_abc.2.1.2
    (fun w4 h4 => variable_sc [98] b c _ _ A _ w4 (by decide) all_abc.2.2.1.1 all_abc.2.2.1.name h4)
    (fun w4 h4 => node_var [99] b c _ _ A _ w4 (by decide) all_abc.2.2.2.1 all_abc.2.2.2.2.1 all_abc.2.2.2.name h4) all_end.1 h3
theorem all_parse (w : World) (hg : Sg w) : Calls Tryz.prog 10 #[.string allT] w (ParsePost (PQL Flat tRS ⟨#[117, 58, 111]⟩ false caS) w) := by
  refine parse_ok _ (plaw_pql glaw_flat _ _ _ _) _ _ w (ascii_of (by decide)) (by decide) (by decide) all_end.2.2.2 (fun b c A w1 _ hf1 hs1 => ?_)
  have hg1 := hg.frF hf1
  have hb := hs1.blk
  refine (queryL_sc Flat glaw_flat (txt allT) [117, 58, 111] false caS _ _ _ _ _ _ _ _ _ 59 false 0 (all_qc.text rfl (by decide) (by decide) uo_good (fun i hi b c A w h => ?_)) all_end.2.2.1 b c A w1 (fun w2 hf2 h2 => ?_) hs1).mono (fun _ _ h => q_of_queryL h)
  · have hi2 : i = 0 ∨ i = 1 := by
      have : i < 2 := hi
      omega
    rcases hi2 with rfl | rfl
    · exact selected_sc [99] b c _ _ A _ w (by decide) all_sel.1.1 all_sel.1.2.1 all_sel.1.name h
    · exact selected_sc [97] b c _ _ A _ w (by decide) all_sel.2.1 all_sel.2.2.1 all_sel.2.name h
  · unfold GrpAny
    simp only [Bool.false_eq_true, if_false]
    exact all_group b c A w2 (hg1.frB hb (by decide) hf2) h2


/-- A text of a query. -/
def disT : ByteArray := ⟨#[82, 69, 71, 73, 83, 84, 69, 82, 32, 82, 83, 84, 82, 69, 65, 77, 32, 60, 117, 58, 111, 62, 32, 65, 83, 32, 83, 69, 76, 69, 67, 84, 32, 68, 73, 83, 84, 73, 78, 67, 84, 32, 63, 99, 32, 63, 97, 32, 87, 72, 69, 82, 69, 32, 123, 32, 63, 97, 32, 63, 98, 32, 63, 99, 32, 46, 32, 125]⟩
theorem dis_qc : QCL (txt disT) [117, 58, 111] true 2 (fun i => if i = 0 then 41 else 45) (fun i => if i = 0 then 44 else 47) 8 16 17 25 32 48 53 := by decide +kernel
theorem dis_sel : NC (txt disT) 41 42 [99] ∧ NC (txt disT) 45 45 [97] := by decide +kernel
theorem dis_grp : (skip (txt disT) [0] 53 = 54 ∧ peekOf (txt disT) 54 = 123) ∧ (markAt (txt disT) (54 + 1) ⟨#[125]⟩ = false ∧ markTo (txt disT) (54 + 1) ⟨#[125]⟩ = 56) ∧ (skip (txt disT) [0] 56 = 56 ∧ peekOf (txt disT) 56 = 63) := by decide +kernel
theorem dis_abc : NC (txt disT) 56 56 [97] ∧ (skip (txt disT) [0] 58 = 59 ∧ peekOf (txt disT) 59 = 63) ∧ NC (txt disT) 59 59 [98] ∧ NC (txt disT) 61 62 [99] := by decide +kernel
theorem dis_end : (markAt (txt disT) 64 ⟨#[46]⟩ = true ∧ markTo (txt disT) 64 ⟨#[46]⟩ = 66) ∧ (markAt (txt disT) 66 ⟨#[125]⟩ = true ∧ markTo (txt disT) 66 ⟨#[125]⟩ = 68) ∧ wordAt (txt disT) 68 tGR = false ∧ skip (txt disT) [0] (skip (txt disT) [0] 68) = (txt disT).length := by decide +kernel
theorem dis_group (b c : Nat) (A : Option Addr) (w : World) (hg : Sg w) (h : Sc w b A c (txt disT) 53) : Calls Tryz.prog 99 #[.agg #[.pointer (some ⟨b, 0, none⟩)], .int .i64 40] w (GrpPostG Flat w b A c (txt disT) 68) := by
  refine group_var ⟨#[97]⟩ ⟨#[98]⟩ ⟨#[99]⟩ 40 (by decide) (by decide) b c 53 54 56 66 68 A _ w dis_grp.1.1 dis_grp.1.2 dis_grp.2.1 (fun w2 hg2 h2 => ?_) dis_end.2.1 hg h
  refine item_var _ _ _ _ b c 56 66 A _ w2 dis_grp.2.2.1 dis_grp.2.2.2 (fun w3 hg3 h3 => ?_) hg2 h2
  exact triple_var _ _ _ b c 56 58 59 61 64 66 A _ w3 (fun w4 h4 => node_var [97] b c _ _ A _ w4 (by decide) dis_abc.1.1 dis_abc.1.2.1 dis_abc.1.name h4) dis_abc.2.1.1 dis_abc.2.1.2
    (fun w4 h4 => variable_sc [98] b c _ _ A _ w4 (by decide) dis_abc.2.2.1.1 dis_abc.2.2.1.name h4)
    (fun w4 h4 => node_var [99] b c _ _ A _ w4 (by decide) dis_abc.2.2.2.1 dis_abc.2.2.2.2.1 dis_abc.2.2.2.name h4) dis_end.1 h3
theorem dis_parse (w : World) (hg : Sg w) : Calls Tryz.prog 10 #[.string disT] w (ParsePost (PQL Flat tRS ⟨#[117, 58, 111]⟩ true caS) w) := by
  refine parse_ok _ (plaw_pql glaw_flat _ _ _ _) _ _ w (ascii_of (by decide)) (by decide) (by decide) dis_end.2.2.2 (fun b c A w1 _ hf1 hs1 => ?_)
  have hg1 := hg.frF hf1
  have hb := hs1.blk
  refine (queryL_sc Flat glaw_flat (txt disT) [117, 58, 111] true caS _ _ _ _ _ _ _ _ _ 68 false 0 (dis_qc.text rfl (by decide) (by decide) uo_good (fun i hi b c A w h => ?_)) dis_end.2.2.1 b c A w1 (fun w2 hf2 h2 => ?_) hs1).mono (fun _ _ h => q_of_queryL h)
  · have hi2 : i = 0 ∨ i = 1 := by
      have : i < 2 := hi
      omega
    rcases hi2 with rfl | rfl
    · exact selected_sc [99] b c _ _ A _ w (by decide) dis_sel.1.1 dis_sel.1.2.1 dis_sel.1.name h
    · exact selected_sc [97] b c _ _ A _ w (by decide) dis_sel.2.1 dis_sel.2.2.1 dis_sel.2.name h
  · unfold GrpAny
    simp only [Bool.false_eq_true, if_false]
    exact dis_group b c A w2 (hg1.frB hb (by decide) hf2) h2


end Go.Proofs.YtebddgdkndmpjaaGreatDoor
