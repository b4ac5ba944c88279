/- The example's text, parsed. -/
import Derived.Test.YtebddgdkndmpjaaGreatDoorBv
import Derived.Deep.CutBlock
import Derived.Deep.RegionLawGrows
import Derived.Deep.Cut
import Derived.Deep.CutRange
import Derived.WalkKit
import Derived.WalkLawsBesides
import Derived.WalkSpells
import Derived.Deep.QuietTactic
import Derived.BigRegion
import Derived.BigQuiet
import Derived.Lib.Hide
import Derived.Outline
import Derived.Deep.AppendLies
import Derived.Deep.RegionLaw
import Derived.Deep.RegionWith
import Derived.Deep.RegionHeld3
import Derived.Deep.LoopGhost
import Derived.Deep.DeepFit
import Derived.Laws.ResultCell
import Derived.Laws.RangeAny
import Derived.Deep.MidRow
import Derived.StillTailTactics
import Derived.OpenShut
namespace Go.Proofs.YtebddgdkndmpjaaGreatDoor
set_option linter.unusedVariables false
open Go.RowKit Go

/-- What is known of a query's text up to its group, but what it selects. -/
def QC (rs : List Int) (l : List UInt8) (dis : Bool) (p1 p2 s2 p4 p5 p6 p7 s7 p8 : Nat) : Prop :=
  (wordAt rs 0 tREG = true ∧ wordTo rs 0 tREG = p1) ∧ (wordAt rs p1 tRS = true ∧ wordTo rs p1 tRS = p2 ∧ skip rs [0] (skip rs [0] p1) = skip rs [0] p1 ∧ wordAt rs (skip rs [0] p1) tRS = true ∧ wordTo rs (skip rs [0] p1) tRS = p2) ∧
  (skip rs [0] p2 = s2 ∧ skip rs [0] s2 = s2 ∧ (peekOf rs s2 = 60 ∧ (∀ i, i < l.length → peekOf rs (s2 + 1 + i) = ((l.getD i 0).toNat : Int) ∧ (l.getD i 0).toNat < 128 ∧ (l.getD i 0).toNat ≠ 10 ∧ (l.getD i 0).toNat ≠ 62 ∧ (l.getD i 0).toNat ≠ 92) ∧ peekOf rs (s2 + 1 + l.length) = 62)) ∧
  (wordAt rs (s2 + l.length + 2) tAS = true ∧ wordTo rs (s2 + l.length + 2) tAS = p4) ∧ (wordAt rs p4 tSEL = true ∧ wordTo rs p4 tSEL = p5) ∧ (wordAt rs p5 tDIS = dis ∧ wordTo rs p5 tDIS = p6) ∧
  (skip rs [0] p7 = s7 ∧ skip rs [0] s7 = s7 ∧ peekOf rs s7 ≠ 63 ∧ peekOf rs s7 ≠ 40) ∧ wordAt rs s7 tFROM = false ∧ (wordAt rs s7 tWH = true ∧ wordTo rs s7 tWH = p8)
instance (rs : List Int) (l : List UInt8) (dis : Bool) (p1 p2 s2 p4 p5 p6 p7 s7 p8 : Nat) : Decidable (QC rs l dis p1 p2 s2 p4 p5 p6 p7 s7 p8) := by unfold QC; infer_instance
theorem QC.text {rs : List Int} {l : List UInt8} {dis : Bool} {p1 p2 s2 p4 p5 p6 p7 s7 p8 : Nat} {sv : Value} (h : QC rs l dis p1 p2 s2 p4 p5 p6 p7 s7 p8) (h0 : l ≠ []) (h1 : l.length ≤ 1000) (h2 : (Tm.iri ⟨l.toArray⟩).good = true)
    (h3 : ∀ (b c : Nat) (A : Option Addr) (w : World), Sc w b A c rs p6 → Calls Tryz.prog 96 #[.agg #[.pointer (some ⟨b, 0, none⟩)]] w (ScPost w b A c rs p7 sv)) : QText rs l dis sv p1 p2 s2 p4 p5 p6 p7 s7 p8 := by
  obtain ⟨a1, a2, ⟨a3, a4, a5⟩, a6, a7, a8, a9, a10, a11⟩ := h
  exact ⟨a1, a2, ⟨a3, a4, a5, h0, h1, h2⟩, a6, a7, a8, h3, a9, a10, a11⟩
/-- A name, as it stands. -/
def NC (rs : List Int) (p s : Nat) (l : List UInt8) : Prop :=
  skip rs [0] p = s ∧ skip rs [0] s = s ∧ (peekOf rs s = 63 ∧ clsOf (peekOf rs (s + 1)) = 1 ∧ (∀ i, i < l.length → peekOf rs (s + 1 + i) = ((l.getD i 0).toNat : Int) ∧ (l.getD i 0).toNat < 128 ∧ letterOf ((l.getD i 0).toNat : Int) = true) ∧ letterOf (peekOf rs (s + 1 + l.length)) = false)
instance (rs : List Int) (p s : Nat) (l : List UInt8) : Decidable (NC rs p s l) := by unfold NC; infer_instance
theorem NC.name {rs : List Int} {p s : Nat} {l : List UInt8} (h : NC rs p s l) : Name rs s l := h.2.2

/-- The cells of a tree of one selected thing. -/
def PQs (G : World → Nat → Value → Prop) (kind t : ByteArray) (dis : Bool) (sv : Value) (w : World) (B : Nat) (cs : List Value) : Prop :=
  ∃ g v, cs = [.string kind, .string t, .bool dis, .slice (some ⟨g, 0, none⟩) 1 1, .slice none 0 0, v, .slice none 0 0] ∧ Blk w g 176 sv.cells ∧ G w B v
theorem plaw_pqs {G : World → Nat → Value → Prop} (HGL : GLaw G) (kind t : ByteArray) (dis : Bool) (sv : Value) : PLaw (PQs G kind t dis sv) := by
  constructor
  · rintro w B cs ⟨g, v, rfl, h1, h2⟩
    obtain ⟨A, n, c, rfl⟩ := HGL.slice h2
    exact ⟨_, _, _, _, _, _, _, _, _, _, _, _, _, _, _, rfl⟩
  · rintro w B B' cs hB ⟨g, v, rfl, h1, h2⟩
    exact ⟨g, v, rfl, h1, HGL.base hB h2⟩
  · rintro w w' B cs ⟨g, v, rfl, h1, h2⟩ hf
    exact ⟨g, v, rfl, h1.fr hf (fun h => h), HGL.frF h2 hf⟩
  · rintro w w' B x t cs ds ⟨g, v, rfl, h1, h2⟩ hx ht hf
    refine ⟨g, v, rfl, h1.fr hf (fun e => Blk.ne_ h1 hx (fun e2 => ?_) e), HGL.frB h2 hx ?_ ?_ hf⟩
    · subst e2
      rcases ht with h | h | h | h <;> exact absurd h (by decide)
    · rintro rfl
      rcases ht with h | h | h | h <;> exact absurd h (by decide)
    · rintro rfl
      rcases ht with h | h | h | h <;> exact absurd h (by decide)
theorem q_of_query {G : World → Nat → Value → Prop} {w : World} {b c q : Nat} {A : Option Addr} {rs : List Int} {pl : Int} {kind t : ByteArray} {dis : Bool} {sv : Value} {e : Ending} {w' : World} (h : QueryPost G w b A c rs q false pl kind t dis sv e w') : QPost (PQs G kind t dis sv) w b A c rs q e w' := by
  unfold QueryPost at h
  rw [if_neg (by decide)] at h
  obtain ⟨g, v, rfl, h1, h2, h3, h4⟩ := h
  exact ⟨_, rfl, ⟨g, v, rfl, h1, h2⟩, h3, h4⟩
theorem t_of_query {G : World → Nat → Value → Prop} {w : World} {b c q : Nat} {A : Option Addr} {rs : List Int} {pl : Int} {kind t : ByteArray} {dis : Bool} {sv : Value} {e : Ending} {w' : World} (h : QueryPost G w b A c rs q true pl kind t dis sv e w') : Thrown pl 15 e ∧ Fr (fun j => j = b) w w' := by
  unfold QueryPost at h
  rwa [if_pos rfl] at h

/-- The example's text. -/
def awkT : ByteArray := ⟨#[82, 69, 71, 73, 83, 84, 69, 82, 32, 82, 83, 84, 82, 69, 65, 77, 32, 60, 117, 58, 111, 62, 32, 65, 83, 32, 83, 69, 76, 69, 67, 84, 32, 63, 120, 32, 87, 72, 69, 82, 69, 32, 123, 32, 63, 120, 32, 60, 117, 58, 112, 62, 32, 49, 32, 46, 32, 125]⟩
theorem awk_qc : QC (txt awkT) [117, 58, 111] false 8 16 17 25 32 33 35 36 41 := by decide +kernel
theorem awk_x : NC (txt awkT) 33 33 [120] := by decide +kernel
theorem uo_good : (Tm.iri ⟨([117, 58, 111] : List UInt8).toArray⟩).good = true := by decide +kernel
theorem up_good : (Tm.iri ⟨([117, 58, 112] : List UInt8).toArray⟩).good = true := by decide +kernel
theorem awk_grp : (skip (txt awkT) [0] 41 = 42 ∧ peekOf (txt awkT) 42 = 123) ∧ (markAt (txt awkT) (42 + 1) ⟨#[125]⟩ = false ∧ markTo (txt awkT) (42 + 1) ⟨#[125]⟩ = 44) ∧ (skip (txt awkT) [0] 44 = 44 ∧ peekOf (txt awkT) 44 = 63) := by decide +kernel
theorem awk_s : NC (txt awkT) 44 44 [120] := by decide +kernel
theorem awk_p : skip (txt awkT) [0] 46 = 47 ∧ peekOf (txt awkT) 47 = 60 ∧ skip (txt awkT) [0] 47 = 47 ∧ (peekOf (txt awkT) 47 = 60 ∧ (∀ i, i < ([117, 58, 112] : List UInt8).length → peekOf (txt awkT) (47 + 1 + i) = ((([117, 58, 112] : List UInt8).getD i 0).toNat : Int) ∧ (([117, 58, 112] : List UInt8).getD i 0).toNat < 128 ∧ (([117, 58, 112] : List UInt8).getD i 0).toNat ≠ 10 ∧ (([117, 58, 112] : List UInt8).getD i 0).toNat ≠ 62 ∧ (([117, 58, 112] : List UInt8).getD i 0).toNat ≠ 92) ∧ peekOf (txt awkT) (47 + 1 + ([117, 58, 112] : List UInt8).length) = 62) := by decide +kernel
theorem awk_p2 : skip (txt awkT) [0] (47 + ([117, 58, 112] : List UInt8).length + 2) = 53 ∧ skip (txt awkT) [0] 53 = 53 ∧ (¬ peekOf (txt awkT) 53 = 42 ∧ ¬ peekOf (txt awkT) 53 = 43 ∧ ¬ peekOf (txt awkT) 53 = 126) ∧ ¬ peekOf (txt awkT) 53 = 47 ∧ ¬ peekOf (txt awkT) 53 = 124 := by decide +kernel
theorem awk_o : clsOf (peekOf (txt awkT) 53) = 2 ∧ skip (txt awkT) [2] 53 = 54 := by decide +kernel
theorem awk_o2 : runesBytes (((txt awkT).drop 53).take (54 - 53)) = ⟨#[49]⟩ := by decide +kernel
theorem awk_e : (markAt (txt awkT) 54 ⟨#[46]⟩ = true ∧ markTo (txt awkT) 54 ⟨#[46]⟩ = 56) ∧ (markAt (txt awkT) 56 ⟨#[125]⟩ = true ∧ markTo (txt awkT) 56 ⟨#[125]⟩ = 58) ∧ wordAt (txt awkT) 58 tGR = false ∧ skip (txt awkT) [0] (skip (txt awkT) [0] 58) = (txt awkT).length := by decide +kernel

theorem one_parse (w : World) : Calls Tryz.prog 209 #[.string ⟨#[49]⟩] w fun e w' => e = .returned (.tuple #[.int .i64 1, .int .i64 0]) ∧ Fr (fun _ => False) w w' :=
  vparse_ok ⟨#[49]⟩ 1 w (by decide) (by decide) (by decide) (by decide) (by decide +kernel) (by decide +kernel)

/-- The example, parsed. -/
theorem awk_query (b c : Nat) (A : Option Addr) (w : World) (hg : Sg w) (h : Sc w b A c (txt awkT) 0) :
    Calls Tryz.prog 40 #[.agg #[.pointer (some ⟨b, 0, none⟩)]] w (QPost (PQs Flat tRS ⟨#[117, 58, 111]⟩ false (selV [120])) w b A c (txt awkT) (skip (txt awkT) [0] 58)) := by
  have hb := h.blk
  refine (query_sc Flat glaw_flat (txt awkT) [117, 58, 111] false ⟨#[120]⟩ ⟨#[]⟩ ⟨#[]⟩ _ _ _ _ _ _ _ _ _ 58 false 0 (awk_qc.text (by decide) (by decide) uo_good (fun b c A w h => selected_sc [120] b c _ _ A _ w (by decide) awk_x.1 awk_x.2.1 awk_x.name h)) awk_e.2.2.1 b c A w (fun w1 hf1 h1 => ?_) h).mono (fun _ _ h => q_of_query h)
  have hg1 := hg.frB hb (by decide) hf1
  unfold GrpAny
  simp only [Bool.false_eq_true, if_false]
  refine group_iri ⟨#[120]⟩ ⟨#[117, 58, 112]⟩ #[.string ⟨#[49]⟩, .string ⟨#[104, 116, 116, 112, 58, 47, 47, 119, 119, 119, 46, 119, 51, 46, 111, 114, 103, 47, 50, 48, 48, 49, 47, 88, 77, 76, 83, 99, 104, 101, 109, 97, 35, 105, 110, 116, 101, 103, 101, 114]⟩, .string ⟨#[]⟩] 40 (by decide) (by decide) b c 41 42 44 56 58 A _ w1 awk_grp.1.1 awk_grp.1.2 awk_grp.2.1 (fun w2 hg2 h2 => ?_) awk_e.2.1 hg1 h1
  refine item_iri _ _ _ _ b c 44 56 A _ w2 awk_grp.2.2.1 awk_grp.2.2.2 (fun w3 hg3 h3 => ?_) hg2 h2
  exact triple_iri _ _ _ 60 b c 44 46 47 53 54 56 A _ w3 (fun w4 h4 => node_var [120] b c _ _ A _ w4 (by decide) awk_s.1 awk_s.2.1 awk_s.name h4) awk_p.1 awk_p.2.1 (by decide)
    (fun w4 hg4 h4 => path_iri [117, 58, 112] b c _ _ _ A _ w4 (by decide) (by decide) up_good awk_p.2.2.1 awk_p.2.2.1 awk_p.2.2.2 awk_p2.1 awk_p2.2.1 awk_p2.2.2.1 awk_p2.2.2.2.1 awk_p2.2.2.2.2 hg4 h4)
    (fun w4 h4 => node_int b c _ _ _ A _ ⟨#[49]⟩ 1 w4 awk_p2.2.1 awk_p2.2.1 awk_o.1 awk_o.2 awk_o2 (by decide) one_parse h4) awk_e.1 hg3 h3

end Go.Proofs.YtebddgdkndmpjaaGreatDoor
