/- Groups: the groups of a table in memory; which one is asked for, walked. -/
import Derived.Test.YtflhmieeidnpgaaGreatDoorHb
import Derived.Deep.CutBlock
import Derived.Deep.RegionLawGrows
import Derived.Deep.Cut
import Derived.Deep.CutRange
import Derived.WalkKit
import Derived.WalkLawsBesides
import Derived.WalkSpells
import Derived.Deep.QuietTactic
import Derived.BigRegion
import Derived.BigQuiet
import Derived.Lib.Hide
import Derived.Outline
import Derived.Deep.AppendLies
import Derived.Deep.RegionLaw
import Derived.Deep.RegionWith
import Derived.Deep.RegionHeld3
import Derived.Deep.LoopGhost
import Derived.Deep.DeepFit
import Derived.Laws.ResultCell
import Derived.Laws.RangeAny
import Derived.Deep.MidRow
import Derived.StillTailTactics
import Derived.OpenShut
namespace Go.Proofs.YtflhmieeidnpgaaGreatDoor
set_option linter.unusedVariables false
open Go.RowKit Go

set_option maxRecDepth 100000 in
set_option maxHeartbeats 4000000 in
theorem cloneI_any (g c B : Nat) (xs : List Int) (w : World) (hl : xs.length = 3) (hr : IntRow w B (.slice (some ⟨g, 0, none⟩) 3 c) xs) :
    Calls Tryz.prog 43 #[.slice (some ⟨g, 0, none⟩) 3 c] w fun e w' => ∃ A c', e = .returned (.slice (some ⟨A, 0, none⟩) 3 c') ∧ IntRow w' w.heap.size (.slice (some ⟨A, 0, none⟩) 3 c') xs ∧ Fr (fun _ => False) w w' := by
  obtain ⟨i3, hi3, hz30, hz31, hz32⟩ := info_parts info3
  have hc2 : ∀ j u, (xs.map (Value.int .i64))[j]? = some u → (w.alloc (.cells #[] 3)).cell? ((⟨g, 0, none⟩ : Addr).add j) = some u := by
    intro j u hj
    rw [List.getElem?_map] at hj
    obtain ⟨x, hx, hxu⟩ := Option.map_eq_some_iff.1 hj
    obtain ⟨hlt, he⟩ := List.getElem?_eq_some_iff.1 hx
    have h := int_cell hr j (by omega)
    rw [List.getD_eq_getElem?_getD, hx, Option.getD_some, hxu] at h
    rw [add_cell g j]
    exact cell_fr ((Fr.refl _ _).alloc _) h
  have hrow : (w.alloc (.cells #[] 3)).ownsRow w.heap.size 3 1 (.slice (some ⟨w.heap.size, 0, none⟩) 0 0) 0 [] := World.ownsRow_lit w #[] 0 (Nat.le_refl _) (by decide) rfl
  have HC2 := Lib.hid hc2
  clear hc2 hr
  have hq : ∀ w, (binOp .eql 48 (.slice (some ⟨g, 0, none⟩) 3 c) (.slice none 0 0)).run Tryz.prog w = .ok (.bool false) w := fun w => by rfl
  go_enter Tryz.func43, Tryz.ntmps43
  go_wp2_with (at_builtin; refine wpList_append_own _ rfl _ _ 48 rfl w.heap.size 3 i3 _ 1 8 Tryz.underlying48 hi3 hz30 hz31 hz32 rfl (by decide) _ 0 [] (by rfl) hrow ⟨g, 0, none⟩ 3 c (xs.map (.int .i64)) (by rfl) (by simp [hl]) HC2.out (by intro u hu; obtain ⟨x, _, rfl⟩ := List.mem_map.1 hu; rfl) (by decide) (by decide) (by simp) ?_; intro v2 w2 hown2 hgr2 _; obtain ⟨A2, c2, hv2⟩ := row_pos hown2 (by decide); subst hv2)
  have HF := Lib.hid (((Fr.refl (fun _ => False) w).alloc (.cells #[] 3)).grown hgr2 (fun k hk e => by injection e with e; simp at e; omega))
  have HR := Lib.hid hown2
  go_wp2_with fail
  go_ret
  refine ⟨A2, c2, by simp, ?_, HF.out⟩
  unfold IntRow
  rw [hl]
  simpa using HR.out

/-- The cells of tables side by side. -/
def pairs : List (Value × Value) → List Value
  | [] => []
  | p :: t => p.1 :: p.2 :: pairs t
theorem pairs_length : ∀ l : List (Value × Value), (pairs l).length = l.length * 2
  | [] => rfl
  | p :: t => by simp only [pairs, List.length_cons, pairs_length t]; omega
theorem pairs_append : ∀ l m : List (Value × Value), pairs (l ++ m) = pairs l ++ pairs m
  | [], m => rfl
  | p :: t, m => by simp only [pairs, List.cons_append, pairs_append t m]
theorem pairs_at : ∀ (l : List (Value × Value)) (i : Nat) (h : i < l.length), (pairs l)[i * 2]? = some (l.getD i (undef, undef)).1 ∧ (pairs l)[i * 2 + 1]? = some (l.getD i (undef, undef)).2
  | [], i, h => absurd h (Nat.not_lt_zero _)
  | p :: t, 0, h => ⟨rfl, rfl⟩
  | p :: t, i + 1, h => by
    have h2 := pairs_at t i (by simpa using h)
    rw [show (i + 1) * 2 = i * 2 + 1 + 1 by omega]
    exact h2
theorem pairs_set : ∀ (l : List (Value × Value)) (i : Nat) (h : i < l.length) (x : Value), (pairs l).set (i * 2 + 1) x = pairs (l.set i ((l.getD i (undef, undef)).1, x))
  | [], i, h, x => absurd h (Nat.not_lt_zero _)
  | p :: t, 0, h, x => rfl
  | p :: t, i + 1, h, x => by
    have h2 := pairs_set t i (by simpa using h) x
    rw [show (i + 1) * 2 + 1 = i * 2 + 1 + 1 + 1 by omega]
    simp only [pairs, List.set_cons_succ]
    rw [h2]
    rfl
/-- A group in memory. -/
structure GrpAt (w : World) (B : Nat) (p : Value × Value) (g : List (List Int)) : Prop where
  vars : ∃ vg vc, p.1 = .slice (some ⟨vg, 0, none⟩) 3 vc
  strs : w.ownsRow B 9 1 p.1 3 (abc.map .string)
  rows : ∃ vals, RowsAt w B p.2 vals g
theorem GrpAt.fr {S : Nat → Prop} {w w' : World} {B : Nat} {p : Value × Value} {g : List (List Int)} (h : GrpAt w B p g) (hf : Fr S w w') (hs : ∀ k, B ≤ k → k < w.heap.size → ¬ S k) : GrpAt w' B p g := by
  obtain ⟨vals, hr⟩ := h.rows
  exact ⟨h.vars, ownsRow_fr h.strs hf (fun k hk => hs k (h.strs.lt k hk).1 (h.strs.lt k hk).2), vals, hr.fr hf (fun k hk => hs k (hr.own.lt k hk).1 (hr.own.lt k hk).2) (fun i hi k hk => hs k ((hr.each i hi).lt k hk).1 ((hr.each i hi).lt k hk).2)⟩
theorem GrpAt.frF {w w' : World} {B : Nat} {p : Value × Value} {g : List (List Int)} (h : GrpAt w B p g) (hf : Fr (fun _ => False) w w') : GrpAt w' B p g := h.fr hf (fun _ _ _ h => h)
/-- Groups in memory: the row of the tables lies from C on, all else from B on. -/
structure GroupsAt (w : World) (C B : Nat) (v : Value) (ps : List (Value × Value)) (gs : List (List (List Int))) : Prop where
  len : ps.length = gs.length
  own : w.ownsRow C 29 2 v gs.length (pairs ps)
  each : ∀ i, i < gs.length → GrpAt w B (ps.getD i (undef, undef)) (gs.getD i [])
  apart : ∀ i j, i < gs.length → j < gs.length → i ≠ j → ∀ k, (ps.getD i (undef, undef)).2.ownBlock = some k → (ps.getD j (undef, undef)).2.ownBlock ≠ some k
theorem GroupsAt.frF {w w' : World} {C B : Nat} {v : Value} {ps : List (Value × Value)} {gs : List (List (List Int))} (h : GroupsAt w C B v ps gs) (hf : Fr (fun _ => False) w w') : GroupsAt w' C B v ps gs :=
  ⟨h.len, ownsRow_fr h.own hf (fun _ _ h => h), fun i hi => (h.each i hi).frF hf, h.apart⟩

set_option maxRecDepth 100000 in
set_option maxHeartbeats 4000000 in
theorem idx41 (C B : Nat) (v : Value) (ps : List (Value × Value)) (gs : List (List (List Int))) (f : Nat → Bool) (c1 c2 c3 : Value) (w : World) (hm : gs.length ≤ 4096)
    (hg : GroupsAt w C B v ps gs)
    (hc : ∀ j, j < gs.length → ∀ wy, Fr (fun _ => False) w wy → Calls Tryz.prog 38 #[.agg #[(ps.getD j (undef, undef)).1, (ps.getD j (undef, undef)).2], c1, c2, c3] wy (IsB (f j) wy)) :
    Calls Tryz.prog 41 #[v, .func (.func 38) #[] #[c1, c2, c3]] w (IdxPost f gs.length w) := by
  obtain ⟨A, c, hv⟩ := row_shape hg.own
  subst hv
  have HG := Lib.hid hg
  have HC := Lib.hid hc
  clear hg hc
  generalize hgl : gs.length = m at *
  have HGL := Lib.hid hgl
  clear hgl
  go_enter Tryz.func41, Tryz.ntmps41
  go_wp2_with fail
  go_loopw [8] (fun iv wr => ∃ i : Nat, iv = .int .i64 (i : Int) ∧ i ≤ m ∧ Fr (fun _ => False) w wr ∧ ∀ j, j < i → f j = false) (fun iv _ => m - (intOf iv).toNat)
  case atStart => exact ⟨0, rfl, Nat.zero_le _, Fr.refl _ _, fun j hj => absurd hj (Nat.not_lt_zero _)⟩
  case round =>
    obtain ⟨i, rfl, hi, hf, hno⟩ := hrel
    have HF := Lib.hid hf
    have HNO := Lib.hid hno
    by_cases hlt : i < m
    · have hlt' : decide (i < m) = true := by simpa using hlt
      have hown := HG.out.own
      rw [HGL.out] at hown
      obtain ⟨og, oc, hve⟩ := row_pos hown (by omega)
      injection hve with hA _ hcc
      subst hA
      subst hcc
      obtain ⟨p1, p2⟩ := pairs_at ps i (by rw [HG.out.len, HGL.out]; exact hlt)
      have c0 := cell_fr hf (World.ownsRow.cellAt hown (i * 2) (by omega) |>.trans p1)
      have c1' := cell_fr hf (World.ownsRow.cellAt hown (i * 2 + 1) (by omega) |>.trans p2)
      have hcall := HC.out i hlt wr hf
      generalize (ps.getD i (undef, undef)).1 = x1 at *
      generalize (ps.getD i (undef, undef)).2 = x2 at *
      have HCALL := Lib.hid hcall
      clear hf hno hcall p1 p2 hown
      cases hfi : f i with
      | true =>
        rw [hfi] at HCALL
        have HFI := Lib.hid hfi
        clear hfi
        go_wp2_with fail
        refine HCALL.out.mono ?_
        rintro e w1 ⟨rfl, hf1⟩
        have HF1 := Lib.hid (HF.out.trans' hf1)
        clear hf1
        go_wp2_with fail
        go_ret
        exact ⟨_, rfl, HF1.out, .inl ⟨i, rfl, hlt, HFI.out, HNO.out⟩⟩
      | false =>
        rw [hfi] at HCALL
        have HFI := Lib.hid hfi
        clear hfi
        go_wp2_with fail
        refine HCALL.out.mono ?_
        rintro e w1 ⟨rfl, hf1⟩
        have HF1 := Lib.hid (HF.out.trans' hf1)
        clear hf1
        go_wp2_with fail
        go_roundw
        case rel => exact ⟨i + 1, by go_num, hlt, HF1.out, fun j hj => by
          by_cases e : j = i
          · rw [e]; exact HFI.out
          · exact HNO.out j (by omega)⟩
        case measure => simp [intOf]; omega
    · have hlt' : decide (i < m) = false := by simpa using hlt
      have him : i = m := by omega
      clear hf hno
      subst him
      go_wp2_with fail
      go_ret
      exact ⟨_, rfl, HF.out, .inr ⟨rfl, HNO.out⟩⟩

end Go.Proofs.YtflhmieeidnpgaaGreatDoor
