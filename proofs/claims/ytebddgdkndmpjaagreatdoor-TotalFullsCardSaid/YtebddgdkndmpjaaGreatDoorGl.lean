/- The dictionary: Put: walked. -/
import Derived.Test.YtebddgdkndmpjaaGreatDoorGk
import Derived.Deep.CutBlock
import Derived.Deep.RegionLawGrows
import Derived.Deep.Cut
import Derived.Deep.CutRange
import Derived.WalkKit
import Derived.WalkLawsBesides
import Derived.WalkSpells
import Derived.Deep.QuietTactic
import Derived.BigRegion
import Derived.BigQuiet
import Derived.Lib.Hide
import Derived.Outline
import Derived.Deep.AppendLies
import Derived.Deep.RegionLaw
import Derived.Deep.RegionWith
import Derived.Deep.RegionHeld3
import Derived.Deep.LoopGhost
import Derived.Deep.DeepFit
import Derived.Laws.ResultCell
import Derived.Laws.RangeAny
import Derived.Deep.MidRow
import Derived.StillTailTactics
import Derived.OpenShut
namespace Go.Proofs.YtebddgdkndmpjaaGreatDoor
set_option linter.unusedVariables false
open Go.RowKit Go

noncomputable def putN (ts : List Tm) (t : Tm) (room : Int) : Int := if t.good = true then (match idxT ts t with | some j => (j : Int) | none => if room ≤ (ts.length : Int) then 0 else (ts.length : Int)) else 0
noncomputable def putE (ts : List Tm) (t : Tm) (room : Int) : Int := if t.good = true then (match idxT ts t with | some _ => 0 | none => if room ≤ (ts.length : Int) then 6 else 0) else 3
noncomputable def putL (ts : List Tm) (t : Tm) (room : Int) : List Tm := if t.good = true then (match idxT ts t with | some _ => ts | none => if room ≤ (ts.length : Int) then ts else ts ++ [t]) else ts

theorem Tm.shape (t : Tm) : ∃ d x, t.val = .iface d x := by cases t <;> exact ⟨_, _, rfl⟩

def PutPost (w : World) (B b r : Nat) (vt : Value) (n e : Int) (l : List Tm) (room : Int) (x : Ending) (w' : World) : Prop :=
  ∃ vt', x = .returned (.tuple #[.int .i64 n, .int .i64 e]) ∧ IsDict w' B b r vt' l room ∧ Fr (fun j => j = b ∨ j = r ∨ vt.ownBlock = some j) w w' ∧ ∀ k, vt'.ownBlock = some k → vt.ownBlock = some k ∨ w.heap.size ≤ k

set_option maxRecDepth 100000 in
set_option maxHeartbeats 4000000 in
theorem put_any (w : World) (B b r : Nat) (vt : Value) (ts : List Tm) (room : Int) (t : Tm) (hd : IsDict w B b r vt ts room) (hs : t.short) (hlen : ts.length ≤ 100000) (hB : B ≤ w.heap.size) :
    Calls Tryz.prog 23 #[.pointer (some ⟨b, 0, none⟩), t.val] w (PutPost w B b r vt (putN ts t room) (putE ts t room) (putL ts t room) room) := by
  obtain ⟨i37, hi37, hz370, hz371, hz372⟩ := info_parts info37
  have HFI := Lib.hid (find_any w B b r vt ts room t hd hs)
  have HG := Lib.hid (fun w => tgood_any t w hs)
  unfold putN putE putL
  unfold findN findE at HFI
  have HD := Lib.hid hd
  obtain ⟨A, c, hvt⟩ := row_shape hd.row
  subst hvt
  generalize hg : t.good = g at *
  clear hd hg
  cases g with
  | false =>
    simp only [Bool.false_eq_true, if_false, false_and] at HFI ⊢
    go_enter Tryz.func23, Tryz.ntmps23
    go_wp2_with fail
    refine HFI.out.mono ?_
    rintro e w1 ⟨rfl, hf1⟩
    have HF1 := Lib.hid hf1
    clear hf1
    go_wp2_with fail
    refine (HG.out _).mono ?_
    rintro e w2 ⟨rfl, hf2⟩
    have HF2 := Lib.hid (HF1.out.trans' hf2)
    clear hf2
    go_wp2_with fail
    go_ret2
    exact ⟨_, rfl, HD.out.frF HF2.out, HF2.out.mono (fun _ _ h => h.elim), fun k hk => .inl hk⟩
  | true =>
    simp only [if_true, true_and] at HFI ⊢
    generalize hix : idxT ts t = ix at *
    have HIX := Lib.hid hix
    clear hix
    cases ix with
    | some j =>
      simp only [Option.isSome_some, if_true, Option.getD_some] at HFI ⊢
      go_enter Tryz.func23, Tryz.ntmps23
      go_wp2_with fail
      refine HFI.out.mono ?_
      rintro e w1 ⟨rfl, hf1⟩
      have HF1 := Lib.hid hf1
      clear hf1
      go_wp2_with fail
      refine (HG.out _).mono ?_
      rintro e w2 ⟨rfl, hf2⟩
      have HF2 := Lib.hid (HF1.out.trans' hf2)
      clear hf2
      go_wp2_with fail
      go_ret2
      exact ⟨_, rfl, HD.out.frF HF2.out, HF2.out.mono (fun _ _ h => h.elim), fun k hk => .inl hk⟩
    | none =>
      simp only [Option.isSome_none, Bool.false_eq_true, if_false, Option.getD_none] at HFI ⊢
      by_cases hr : room ≤ (ts.length : Int)
      · have hr' : decide (room ≤ (ts.length : Int)) = true := decide_eq_true hr
        rw [if_pos hr, if_pos hr, if_pos hr]
        go_enter Tryz.func23, Tryz.ntmps23
        go_wp2_with fail
        refine HFI.out.mono ?_
        rintro e w1 ⟨rfl, hf1⟩
        have HF1 := Lib.hid hf1
        clear hf1
        go_wp2_with fail
        refine (HG.out _).mono ?_
        rintro e w2 ⟨rfl, hf2⟩
        have hd2 := HD.out.frF (HF1.out.trans' hf2)
        have c0 : w2.cell? ⟨b, 0, none⟩ = some (.slice A ts.length c) := hd2.blk.cell 0
        have c2 : w2.cell? ⟨b, 2, none⟩ = some (.int .i64 room) := hd2.blk.cell 2
        have HD2 := Lib.hid hd2
        have HF2 := Lib.hid (HF1.out.trans' hf2)
        clear hf2 hd2
        go_wp2_with fail
        go_quiet (fail)
        go_wp2_with fail
        go_ret2
        exact ⟨_, rfl, HD2.out.frF ((Fr.refl _ _).drewN _), (HF2.out.drewN _).mono (fun _ _ h => h.elim), fun k hk => .inl hk⟩
      · have hr' : decide (room ≤ (ts.length : Int)) = false := decide_eq_false hr
        rw [if_neg hr, if_neg hr, if_neg hr]
        obtain ⟨d, x, htv⟩ := t.shape
        have h1 := t.one
        rw [htv] at h1 ⊢
        have HFI := Lib.hid (htv ▸ HFI.out)
        have HG := Lib.hid (fun w => htv ▸ HG.out w)
        have HTV := Lib.hid htv
        have H1 := Lib.hid h1
        clear htv h1
        go_enter Tryz.func23, Tryz.ntmps23
        go_wp2_with fail
        refine HFI.out.mono ?_
        rintro e w1 ⟨rfl, hf1⟩
        have HF1 := Lib.hid hf1
        clear hf1
        go_wp2_with fail
        refine (HG.out _).mono ?_
        rintro e w2 ⟨rfl, hf2⟩
        have hd2 := HD.out.frF (HF1.out.trans' hf2)
        have c0 : w2.cell? ⟨b, 0, none⟩ = some (.slice A ts.length c) := hd2.blk.cell 0
        have c2 : w2.cell? ⟨b, 2, none⟩ = some (.int .i64 room) := hd2.blk.cell 2
        have HD2 := Lib.hid hd2
        have HF2 := Lib.hid (HF1.out.trans' hf2)
        clear hf2 hd2
        go_wp2_with fail
        go_quiet (fail)
        have hd3 := HD2.out.frF ((Fr.refl (fun _ => False) w2).drewN nq)
        have HF3 := Lib.hid (HF2.out.drewN nq)
        generalize w2.drewN nq = w3 at *
        have HD3 := Lib.hid hd3
        clear c0 c2 hd3
        have c0 : w3.cell? ⟨b, 0, none⟩ = some (.slice A ts.length c) := HD3.out.blk.cell 0
        have c1 : w3.cell? ⟨b, 1, none⟩ = some (.map (some r)) := HD3.out.blk.cell 1
        go_wp2_with fail
        go_still_tail 10, (by kernel_rfl)
        change wpList _ _ _ _ _ w3.drew
        have hd4 := HD3.out.frF ((Fr.refl (fun _ => False) w3).drew)
        have HF4 := Lib.hid (HF3.out.drew)
        generalize w3.drew = w4 at *
        obtain ⟨w5, hup, hm5, hf5⟩ := run_mapUpdate_tm hd4.map t HIX.out
        rw [HTV.out] at hup
        have hb5 := hd4.blk.fr hf5 (fun h => hd4.map.ne_blk hd4.blk h)
        have hr5 := ownsRow_fr hd4.row hf5 (fun k hk h => hd4.map.ne_row hd4.row (by rw [hk, h]))
        have HF5 := Lib.hid hf5
        have HM5 := Lib.hid hm5
        have HD4 := Lib.hid hd4
        have HB5 := Lib.hid hb5
        have hnr := Lib.hid (hm5.ne_row hr5)
        have hnb := Lib.hid (hm5.ne_blk hb5)
        clear c0 c1 hd4 hf5 hm5
        have c0 : w5.cell? ⟨b, 0, none⟩ = some (.slice A ts.length c) := hb5.cell 0
        have g0 : w5.frozen? ⟨b, 0, none⟩ = false := hb5.frozen 0
        clear hb5
        go_wp2_with (at_builtin; refine wpList_append_own_at _ rfl _ _ 148 rfl B 35 i37 _ 1 16 Tryz.underlying148 hi37 hz370 hz371 hz372 rfl (by decide) _ ts.length (ts.map Tm.val) (by rfl) (hr5.alloc _) ⟨w5.heap.size, 0, none⟩ 1 1 [.iface d x] (by rfl) rfl (World.news_of_block (heap_alloc_new w5 _)) (by intro u hu; rw [List.mem_singleton] at hu; rw [hu]; exact H1.out) (by unfold maxLen; omega) (by omega) (by simp; have := HF4.out.size; have := HF5.out.size; omega) ?_; intro v6 w6 hown6 hgr6 _ hat6; obtain ⟨A6, c6, hv6⟩ := row_shape hown6; subst hv6; have hb6 := (HB5.out.alloc (.cells #[.iface d x] 35)).fr (Fr.of_grown hgr6) (fun h => own_blk_ne hr5 HB5.out (by decide) h); have c06 : w6.cell? ⟨b, 0, none⟩ = some (.slice A ts.length c) := hb6.cell 0; have g06 : w6.frozen? ⟨b, 0, none⟩ = false := hb6.frozen 0; have hbl6 := hb6.lt; have HB6 := Lib.hid hb6; clear c0 g0 hb6)
        have hb7 := HB6.out.set_ 0 (.slice A6 (ts.length + 1) c6)
        have F6 : Fr (fun j => j = r ∨ (Value.slice A ts.length c).ownBlock = some j) w4 w6 := ((HF5.out.mono (fun _ _ h => .inl h)).alloc _).trans (Fr.of_grown hgr6) (fun i hi e => .inr e)
        have F7 : Fr (fun j => j = b ∨ j = r ∨ (Value.slice A ts.length c).ownBlock = some j) w (w6.setCell ⟨b, 0, none⟩ (.slice A6 (ts.length + 1) c6)) :=
          ((HF4.out.mono (fun _ _ h => h.elim)).trans (F6.mono (fun _ _ h => .inr h)) (fun _ _ h => h)).setCell ⟨b, 0, none⟩ (fun _ => .inl rfl) _
        have hs45 := HF5.out.size
        have hs4 := HF4.out.size
        have hm6 : MapAt w6 r (ts ++ [t]) := (HM5.out.fr ((Fr.refl (fun _ => False) w5).alloc (.cells #[.iface d x] 35)) (fun h => h)).fr (Fr.of_grown hgr6) (fun h => hnr.out h)
        have hm7 : MapAt (w6.setCell ⟨b, 0, none⟩ (.slice A6 (ts.length + 1) c6)) r (ts ++ [t]) := hm6.fr ((Fr.refl (fun j => j = b) w6).setCell ⟨b, 0, none⟩ (fun _ => rfl) _) (fun h => hnb.out h.symm)
        have hr7 : (w6.setCell ⟨b, 0, none⟩ (.slice A6 (ts.length + 1) c6)).ownsRow B 35 1 (.slice A6 (ts.length + 1) c6) (ts ++ [t]).length ((ts ++ [t]).map Tm.val) := by
          have e1 : (ts ++ [t]).length = ts.length + 1 := by simp
          have e2 : (ts ++ [t]).map Tm.val = ts.map Tm.val ++ [.iface d x] := by rw [List.map_append, ← HTV.out]; rfl
          rw [e1, e2]
          exact ownsRow_fr hown6 ((Fr.refl (fun j => j = b) w6).setCell ⟨b, 0, none⟩ (fun _ => rfl) _) (fun k hk h => own_blk_ne hown6 HB6.out (by decide) (by rw [hk, h]))
        have hown : ∀ k, (Value.slice A6 (ts.length + 1) c6).ownBlock = some k → (Value.slice A ts.length c).ownBlock = some k ∨ w.heap.size ≤ k := fun k hk => by
          rcases hat6 with h | h
          · left; rw [← h]; exact hk
          · right
            rw [h] at hk
            injection hk with hk
            simp at hk
            omega
        have FIN := Lib.hid (show IsDict (w6.setCell ⟨b, 0, none⟩ (.slice A6 (ts.length + 1) c6)) B b r (.slice A6 (ts.length + 1) c6) (ts ++ [t]) room from ⟨hb7, hr7, hm7, HD4.out.leb, HD4.out.ler⟩)
        have HF7 := Lib.hid F7
        have HOWN := Lib.hid hown
        go_wp2_with fail
        go_ret2
        exact ⟨_, rfl, FIN.out, HF7.out, HOWN.out⟩

end Go.Proofs.YtebddgdkndmpjaaGreatDoor
