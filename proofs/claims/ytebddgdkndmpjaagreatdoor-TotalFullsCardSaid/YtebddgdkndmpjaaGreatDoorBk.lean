/- Groups in groups: plain. -/
import Derived.Test.YtebddgdkndmpjaaGreatDoorBj
import Derived.Test.YtebddgdkndmpjaaGreatDoorBz
import Derived.Deep.CutBlock
import Derived.Deep.RegionLawGrows
import Derived.Deep.Cut
import Derived.Deep.CutRange
import Derived.WalkKit
import Derived.WalkLawsBesides
import Derived.WalkSpells
import Derived.Deep.QuietTactic
import Derived.BigRegion
import Derived.BigQuiet
import Derived.Lib.Hide
import Derived.Outline
import Derived.Deep.AppendLies
import Derived.Deep.RegionLaw
import Derived.Deep.RegionWith
import Derived.Deep.RegionHeld3
import Derived.Deep.LoopGhost
import Derived.Deep.DeepFit
import Derived.Laws.ResultCell
import Derived.Laws.RangeAny
import Derived.Deep.MidRow
import Derived.StillTailTactics
import Derived.OpenShut
namespace Go.Proofs.YtebddgdkndmpjaaGreatDoor
set_option linter.unusedVariables false
open Go.RowKit Go

theorem setAll_mid (g : Nat) (t : TypeId) : ∀ (vs pre old : List Value) (w : World), Blk w g t (pre ++ old).toArray → vs.length = old.length → Blk (w.setCells g pre.length vs) g t (pre ++ vs).toArray ∧ Fr (fun j => j = g) w (w.setCells g pre.length vs)
  | [], pre, old, w, h, hl => by
    have : old = [] := List.eq_nil_of_length_eq_zero (by simpa using hl.symm)
    subst this
    exact ⟨h, Fr.refl _ _⟩
  | v :: vs, pre, [], w, h, hl => by simp at hl
  | v :: vs, pre, x :: old, w, h, hl => by
    have h1 := h.set_ pre.length v
    have e1 : (pre ++ x :: old).toArray.setIfInBounds pre.length v = ((pre ++ [v]) ++ old).toArray := by
      rw [List.setIfInBounds_toArray]
      congr 1
      rw [List.set_append_right _ _ (Nat.le_refl _)]
      simp
    rw [e1] at h1
    have ih := setAll_mid g t vs (pre ++ [v]) old _ h1 (by simpa using hl)
    have e2 : (pre ++ [v]).length = pre.length + 1 := by simp
    rw [e2] at ih
    have e3 : pre ++ v :: vs = (pre ++ [v]) ++ vs := by simp
    rw [e3, World.setCells]
    exact ⟨ih.1, ((Fr.refl (fun j => j = g) w).setCell ⟨g, pre.length, none⟩ (fun _ => rfl) v).trans' ih.2⟩
/-- A whole block, stored. -/
theorem Blk.setAll {w : World} {g : Nat} {t : TypeId} {old vs : List Value} (h : Blk w g t old.toArray) (hl : vs.length = old.length) : Blk (w.setCells g 0 vs) g t vs.toArray ∧ Fr (fun j => j = g) w (w.setCells g 0 vs) :=
  setAll_mid g t vs [] old w h hl
theorem Blk.there {w : World} {g : Nat} {t : TypeId} {cs : List Value} (h : Blk w g t cs.toArray) {n : Nat} (hn : n = cs.length) : w.there g 0 n := fun j hj => by
  subst hn
  refine ⟨?_, h.frozen (0 + j)⟩
  rw [h.cell (0 + j), Nat.zero_add, List.getElem?_toArray, List.getElem?_eq_getElem hj]
  rfl

/-- An item that is groups. -/
def unionL (gv : Value) : List Value := [.int .i64 4, .string ⟨#[]⟩, .nilIface, .string ⟨#[]⟩, .nilIface, .string ⟨#[]⟩, .nilIface, .int .i64 0, .string ⟨#[]⟩, .slice none 0 0, .string ⟨#[]⟩, .string ⟨#[]⟩, .nilIface, .slice none 0 0, .string ⟨#[]⟩, .string ⟨#[]⟩, gv]
/-- A group of a group of .. of nothing. -/
def GroupAt (w : World) (B : Nat) : Nat → Value → Prop
  | 0, v => v = .slice none 0 0
  | d + 1, v => ∃ gv v', w.ownsRow B 46 17 v 1 (unionL gv) ∧ w.ownsRow B 27 1 gv 1 [v'] ∧ GroupAt w B d v'
theorem GroupAt.base {w : World} {B B' : Nat} (hB : B' ≤ B) : ∀ {d : Nat} {v : Value}, GroupAt w B d v → GroupAt w B' d v
  | 0, _, h => h
  | d + 1, _, ⟨gv, v', h1, h2, h3⟩ => ⟨gv, v', ownsRow_base h1 hB, ownsRow_base h2 hB, GroupAt.base hB h3⟩
theorem GroupAt.fr {w w' : World} {S : Nat → Prop} {B : Nat} (hf : Fr S w w') (hS : ∀ j t cs, B ≤ j → (t = 46 ∨ t = 27) → Blk w j t cs → ¬ S j) : ∀ {d : Nat} {v : Value}, GroupAt w B d v → GroupAt w' B d v
  | 0, _, h => h
  | d + 1, _, ⟨gv, v', h1, h2, h3⟩ => by
    have hk : ∀ {t size n : Nat} {u : Value} {xs : List Value}, (t = 46 ∨ t = 27) → w.ownsRow B t size u n xs → w'.ownsRow B t size u n xs := fun ht h => ownsRow_fr h hf fun j hj hSj => by
      rcases h.2 with ⟨h0, _⟩ | ⟨gg, cap, cur, hv, hbg, hh, _⟩
      · rw [h0] at hj; cases hj
      · rw [hv] at hj
        injection hj with hj
        subst hj
        exact hS gg _ cur hbg ht hh hSj
    exact ⟨gv, v', hk (.inl rfl) h1, hk (.inr rfl) h2, GroupAt.fr hf hS h3⟩
theorem GroupAt.frF {w w' : World} {B d : Nat} {v : Value} (h : GroupAt w B d v) (hf : Fr (fun _ => False) w w') : GroupAt w' B d v := GroupAt.fr hf (fun _ _ _ _ _ _ h => h) h
theorem GroupAt.frB {w w' : World} {B d x t : Nat} {cs : Array Value} {v : Value} (h : GroupAt w B d v) (hx : Blk w x t cs) (h1 : t ≠ 46) (h2 : t ≠ 27) (hf : Fr (fun j => j = x) w w') : GroupAt w' B d v :=
  GroupAt.fr hf (fun j t' cs' _ ht hb e => by
    subst e
    rcases ht with rfl | rfl
    · exact Blk.ne_ hb hx (fun e => h1 e.symm) rfl
    · exact Blk.ne_ hb hx (fun e => h2 e.symm) rfl) h
theorem GroupAt.slice {w : World} {B d : Nat} {v : Value} (h : GroupAt w B d v) : ∃ A n c, v = .slice A n c := by
  cases d with
  | zero => exact ⟨none, 0, 0, h⟩
  | succ d =>
    obtain ⟨gv, v', h1, _⟩ := h
    obtain ⟨A, c, hv⟩ := row_shape h1
    exact ⟨A, _, c, hv⟩

/-- d groups stand in one another, from a place to a place. -/
def Nest (rs : List Int) : Nat → Nat → Nat → Prop
  | 0, p, q => peekOf rs p = 123 ∧ peekOf rs (p + 1) = 125 ∧ q = p + 2
  | d + 1, p, q => peekOf rs p = 123 ∧ ∃ q', Nest rs d (p + 1) q' ∧ peekOf rs q' = 125 ∧ q = q' + 1
theorem Nest.head {rs : List Int} {d p q : Nat} (h : Nest rs d p q) : peekOf rs p = 123 := by
  cases d with
  | zero => exact h.1
  | succ d => exact h.1
theorem skip_sign {rs : List Int} {p : Nat} (h : clsOf (peekOf rs p) ≠ 0) : skip rs [0] p = p := by
  refine skip_stop fun hc => h ?_
  unfold peekOf
  rw [if_pos hc.1]
  have := hc.2
  simpa using this
theorem skip_open {rs : List Int} {p : Nat} (h : peekOf rs p = 123) : skip rs [0] p = p := skip_sign (by rw [h]; decide)
theorem skip_shut {rs : List Int} {p : Nat} (h : peekOf rs p = 125) : skip rs [0] p = p := skip_sign (by rw [h]; decide)
/-- A word does not begin with that sign. -/
theorem word_no {rs : List Int} {p : Nat} {T : ByteArray} {x : Int} (hs : skip rs [0] p = p) (hp : peekOf rs p = x) (hT : 0 < T.size) (hx : ¬ (txt T).getD 0 0 = x) : wordAt rs p T = false ∧ wordTo rs p T = p := by
  have h1 : wordAt rs p T = false := by
    unfold wordAt
    rw [hs, isAt_false (i := 0) (by rw [txt_len]; exact hT) (by rw [Nat.add_zero, hp]; exact fun e => hx e.symm), Bool.false_and]
  exact ⟨h1, one_stay h1 hs⟩
theorem mark_no {rs : List Int} {p : Nat} {x : UInt8} (hs : skip rs [0] p = p) (hx : ¬ peekOf rs p = (x.toNat : Int)) : markAt rs p ⟨#[x]⟩ = false ∧ markTo rs p ⟨#[x]⟩ = p := by
  have h1 : markAt rs p ⟨#[x]⟩ = false := by
    unfold markAt
    rw [hs, isAt_one, decide_eq_false hx]
  refine ⟨h1, ?_⟩
  unfold markTo
  rw [h1, hs]
  simp
theorem mark_yes {rs : List Int} {p : Nat} {x : UInt8} (hs : skip rs [0] p = p) (hx : peekOf rs p = (x.toNat : Int)) : markAt rs p ⟨#[x]⟩ = true ∧ markTo rs p ⟨#[x]⟩ = p + 1 := by
  have h1 : markAt rs p ⟨#[x]⟩ = true := by
    unfold markAt
    rw [hs, isAt_one, decide_eq_true hx]
  refine ⟨h1, ?_⟩
  unfold markTo
  rw [h1, hs]
  simp
  rfl

end Go.Proofs.YtebddgdkndmpjaaGreatDoor
