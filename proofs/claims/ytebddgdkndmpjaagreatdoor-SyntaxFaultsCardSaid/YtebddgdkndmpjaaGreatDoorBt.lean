/- Triples: walked. -/
import Derived.Test.YtebddgdkndmpjaaGreatDoorBs
import Derived.Deep.CutBlock
import Derived.Deep.RegionLawGrows
import Derived.Deep.Cut
import Derived.Deep.CutRange
import Derived.WalkKit
import Derived.WalkLawsBesides
import Derived.WalkSpells
import Derived.Deep.QuietTactic
import Derived.BigRegion
import Derived.BigQuiet
import Derived.Lib.Hide
import Derived.Outline
import Derived.Deep.AppendLies
import Derived.Deep.RegionLaw
import Derived.Deep.RegionWith
import Derived.Deep.RegionHeld3
import Derived.Deep.LoopGhost
import Derived.Deep.DeepFit
import Derived.Laws.ResultCell
import Derived.Laws.RangeAny
import Derived.Deep.MidRow
import Derived.StillTailTactics
import Derived.OpenShut
namespace Go.Proofs.YtebddgdkndmpjaaGreatDoor
set_option linter.unusedVariables false
open Go.RowKit Go

theorem setSome_mid (g : Nat) (t : TypeId) : ∀ (vs pre old post : List Value) (w : World), Blk w g t (pre ++ old ++ post).toArray → vs.length = old.length → Blk (w.setCells g pre.length vs) g t (pre ++ vs ++ post).toArray ∧ Fr (fun j => j = g) w (w.setCells g pre.length vs)
  | [], pre, old, post, w, h, hl => by
    have : old = [] := List.eq_nil_of_length_eq_zero (by simpa using hl.symm)
    subst this
    exact ⟨h, Fr.refl _ _⟩
  | v :: vs, pre, [], post, w, h, hl => by simp at hl
  | v :: vs, pre, x :: old, post, w, h, hl => by
    have h1 := h.set_ pre.length v
    have e1 : (pre ++ x :: old ++ post).toArray.setIfInBounds pre.length v = ((pre ++ [v]) ++ old ++ post).toArray := by
      rw [List.setIfInBounds_toArray]
      congr 1
      rw [List.append_assoc, List.set_append_right _ _ (Nat.le_refl _)]
      simp
    rw [e1] at h1
    have ih := setSome_mid g t vs (pre ++ [v]) old post _ h1 (by simpa using hl)
    have e2 : (pre ++ [v]).length = pre.length + 1 := by simp
    rw [e2] at ih
    have e3 : pre ++ v :: vs ++ post = (pre ++ [v]) ++ vs ++ post := by simp
    rw [e3, World.setCells]
    exact ⟨ih.1, ((Fr.refl (fun j => j = g) w).setCell ⟨g, pre.length, none⟩ (fun _ => rfl) v).trans' ih.2⟩
theorem Blk.there_part {w : World} {g : Nat} {t : TypeId} {cs : List Value} (h : Blk w g t cs.toArray) {k n : Nat} (hn : k + n ≤ cs.length) : w.there g k n := fun j hj => by
  refine ⟨?_, h.frozen (k + j)⟩
  rw [h.cell (k + j), List.getElem?_toArray, List.getElem?_eq_getElem (by omega)]
  rfl

set_option maxRecDepth 100000 in
set_option maxHeartbeats 40000000 in
/-- A triple of a var, an IRI, an int. -/
theorem triple_iri (v1 v2 : ByteArray) (xs : Array Value) (x : Int) (b c p q1 q2 q3 q4 q5 : Nat) (A : Option Addr) (rs : List Int) (w : World) (hN1 : ∀ w1, Sc w1 b A c rs p → Calls Tryz.prog 213 #[.agg #[.pointer (some ⟨b, 0, none⟩)]] w1 (ScPost w1 b A c rs q1 (.agg #[.string v1, .nilIface])))
    (hsk : skip rs [0] q1 = q2) (hxx : peekOf rs q2 = x) (h63 : ¬ x = 63) (hP : ∀ w1, Sg w1 → Sc w1 b A c rs q2 → Calls Tryz.prog 263 #[.agg #[.pointer (some ⟨b, 0, none⟩)]] w1 (ScPost w1 b A c rs q3 (.agg #[.int .i64 0, .string v2, .slice none 0 0])))
    (hN2 : ∀ w1, Sc w1 b A c rs q3 → Calls Tryz.prog 213 #[.agg #[.pointer (some ⟨b, 0, none⟩)]] w1 (ScPost w1 b A c rs q4 (.agg #[.string ⟨#[]⟩, .iface 78 (.agg xs)])))
    (hdot : markAt rs q4 ⟨#[46]⟩ = true ∧ markTo rs q4 ⟨#[46]⟩ = q5) (hg : Sg w) (h : Sc w b A c rs p) :
    Calls Tryz.prog 211 #[.agg #[.pointer (some ⟨b, 0, none⟩)]] w (ScPost w b A c rs q5 (.agg #[.int .i64 0, .string v1, .nilIface, .string ⟨#[]⟩, .nilIface, .string ⟨#[]⟩, .iface 78 (.agg xs), .int .i64 0, .string v2, .slice none 0 0, .string ⟨#[]⟩, .string ⟨#[]⟩, .nilIface, .slice none 0 0, .string ⟨#[]⟩, .string ⟨#[]⟩, .slice none 0 0])) := by
  have hf : Fr (fun _ => False) w ((w.alloc (.cells #[.pointer (some ⟨b, 0, none⟩)] 108)).alloc (.cells #[.int .i64 0, .string ⟨#[]⟩, .nilIface, .string ⟨#[]⟩, .nilIface, .string ⟨#[]⟩, .nilIface, .int .i64 0, .string ⟨#[]⟩, .slice none 0 0, .string ⟨#[]⟩, .string ⟨#[]⟩, .nilIface, .slice none 0 0, .string ⟨#[]⟩, .string ⟨#[]⟩, .slice none 0 0] 46)) := ((Fr.refl _ _).alloc _).alloc _
  have hx := Blk.new w 108 #[.pointer (some ⟨b, 0, none⟩)]
  have hy := Blk.new (w.alloc (.cells #[.pointer (some ⟨b, 0, none⟩)] 108)) 46 #[.int .i64 0, .string ⟨#[]⟩, .nilIface, .string ⟨#[]⟩, .nilIface, .string ⟨#[]⟩, .nilIface, .int .i64 0, .string ⟨#[]⟩, .slice none 0 0, .string ⟨#[]⟩, .string ⟨#[]⟩, .nilIface, .slice none 0 0, .string ⟨#[]⟩, .string ⟨#[]⟩, .slice none 0 0]
  rw [show (w.alloc (.cells #[.pointer (some ⟨b, 0, none⟩)] 108)).heap.size = w.heap.size + 1 by simp] at hy
  have hx := hx.alloc (.cells #[.int .i64 0, .string ⟨#[]⟩, .nilIface, .string ⟨#[]⟩, .nilIface, .string ⟨#[]⟩, .nilIface, .int .i64 0, .string ⟨#[]⟩, .slice none 0 0, .string ⟨#[]⟩, .string ⟨#[]⟩, .nilIface, .slice none 0 0, .string ⟨#[]⟩, .string ⟨#[]⟩, .slice none 0 0] 46)
  have HX := Lib.hid hx
  have HY := Lib.hid hy
  have HF := Lib.hid hf
  have HS := Lib.hid (h.frF hf)
  have hbl := h.blk.lt
  have HN1 := Lib.hid hN1
  have HN2 := Lib.hid hN2
  have HNX := Lib.hid (fun w1 h1 => nextsign_sc b c q1 A rs w1 h1)
  rw [hsk, hxx] at HNX
  have HDT := Lib.hid (fun w1 h1 => must_sc ⟨#[46]⟩ b c q4 q5 A rs w1 (ascii_of (by decide)) (by decide) hdot.1 hdot.2 h1)
  have HP := Lib.hid hP
  have h63' : (x == 63) = false := by simpa using h63
  have HSG := Lib.hid (hg.frF hf)
  clear h hf hx hy hN1 hN2 hsk hxx hdot h63 hP hg
  go_enter Tryz.func211, Tryz.ntmps211
  go_wp2_with fail
  refine (HN1.out _ HS.out).mono ?_
  rintro e w1 ⟨rfl, hs1, hf1⟩
  have hx1 := HX.out.fr hf1 (fun e => by omega)
  have x1 : w1.cell? ⟨w.heap.size, 0, none⟩ = some (.pointer (some ⟨b, 0, none⟩)) := hx1.cell 0
  have HX1 := Lib.hid hx1
  have HY1 := Lib.hid (HY.out.fr hf1 (fun e => by omega))
  have HS1 := Lib.hid hs1
  have HF1 := Lib.hid ((HF.out.mono (T := fun j => j = b) (fun _ _ h => h.elim)).trans' hf1)
  have HSG1 := Lib.hid (HSG.out.frB HS.out.blk (by decide) hf1)
  clear hs1 hf1 hx1
  have hfa : Fr (fun _ => False) w1 (w1.alloc (.cells #[.int .i64 0, .string v1, .nilIface, .string ⟨#[]⟩, .nilIface, .string ⟨#[]⟩, .nilIface, .int .i64 0, .string ⟨#[]⟩, .slice none 0 0, .string ⟨#[]⟩, .string ⟨#[]⟩, .nilIface, .slice none 0 0, .string ⟨#[]⟩, .string ⟨#[]⟩, .slice none 0 0] 46)) := (Fr.refl _ _).alloc _
  obtain ⟨w2, hw2⟩ : ∃ w2, w2 = w1.alloc (.cells #[.int .i64 0, .string v1, .nilIface, .string ⟨#[]⟩, .nilIface, .string ⟨#[]⟩, .nilIface, .int .i64 0, .string ⟨#[]⟩, .slice none 0 0, .string ⟨#[]⟩, .string ⟨#[]⟩, .nilIface, .slice none 0 0, .string ⟨#[]⟩, .string ⟨#[]⟩, .slice none 0 0] 46) := ⟨_, rfl⟩
  obtain ⟨mb, hmb⟩ : ∃ mb, mb = w1.heap.size := ⟨_, rfl⟩
  have hm2 := Blk.new w1 46 #[.int .i64 0, .string v1, .nilIface, .string ⟨#[]⟩, .nilIface, .string ⟨#[]⟩, .nilIface, .int .i64 0, .string ⟨#[]⟩, .slice none 0 0, .string ⟨#[]⟩, .string ⟨#[]⟩, .nilIface, .slice none 0 0, .string ⟨#[]⟩, .string ⟨#[]⟩, .slice none 0 0]
  rw [← hw2] at hfa hm2
  rw [← hmb] at hm2
  have hbm : b < mb := by have := HX1.out.lt; omega
  have hbm2 : w.heap.size + 1 < mb := by have := HY1.out.lt; omega
  have HM2 := Lib.hid hm2
  have hsz : w.heap.size < w1.heap.size := HX1.out.lt
  have hx2 := HX1.out.fr hfa (fun h => h)
  have x2 : w2.cell? ⟨w.heap.size, 0, none⟩ = some (.pointer (some ⟨b, 0, none⟩)) := hx2.cell 0
  have HX2 := Lib.hid hx2
  have HY2 := Lib.hid (HY1.out.fr hfa (fun h => h))
  have HS2 := Lib.hid (HS1.out.frF hfa)
  have HF2 := Lib.hid (HF1.out.trans hfa (fun _ _ h => h.elim))
  have HSG2 := Lib.hid (HSG1.out.frF hfa)
  clear hfa hm2 hx2
  go_wp2_with fail
  rw [← hw2, ← hmb]
  clear hw2 hmb x1 hsz
  refine (HNX.out _ HS2.out).mono ?_
  rintro e w3 ⟨rfl, hs3, hf3⟩
  have hx3 := HX2.out.fr hf3 (fun e => by omega)
  have x3 : w3.cell? ⟨w.heap.size, 0, none⟩ = some (.pointer (some ⟨b, 0, none⟩)) := hx3.cell 0
  have HX3 := Lib.hid hx3
  have HY3 := Lib.hid (HY2.out.fr hf3 (fun e => by omega))
  have HM3 := Lib.hid (HM2.out.fr hf3 (fun e => by omega))
  have HS3 := Lib.hid hs3
  have HF3 := Lib.hid (HF2.out.trans' hf3)
  have HSG3 := Lib.hid (HSG2.out.frB HS2.out.blk (by decide) hf3)
  clear hs3 hf3 hx3 x2
  go_wp2_with fail
  refine (HP.out _ HSG3.out HS3.out).mono ?_
  rintro e w4 ⟨rfl, hs4, hf4⟩
  have hx4 := HX3.out.fr hf4 (fun e => by omega)
  have x4 : w4.cell? ⟨w.heap.size, 0, none⟩ = some (.pointer (some ⟨b, 0, none⟩)) := hx4.cell 0
  have HX4 := Lib.hid hx4
  have HY4 := Lib.hid (HY3.out.fr hf4 (fun e => by omega))
  have HM4 := Lib.hid (HM3.out.fr hf4 (fun e => by omega))
  have HS4 := Lib.hid hs4
  have HF4 := Lib.hid (HF3.out.trans' hf4)
  have HSG4 := Lib.hid (HSG3.out.frB HS3.out.blk (by decide) hf4)
  clear hs4 hf4 hx4 x3
  have hm5 := HM4.out
  have hst5 : Blk (w4.setCells mb 7 [.int .i64 0, .string v2, .slice none 0 0]) mb 46 #[.int .i64 0, .string v1, .nilIface, .string ⟨#[]⟩, .nilIface, .string ⟨#[]⟩, .nilIface, .int .i64 0, .string v2, .slice none 0 0, .string ⟨#[]⟩, .string ⟨#[]⟩, .nilIface, .slice none 0 0, .string ⟨#[]⟩, .string ⟨#[]⟩, .slice none 0 0] ∧ Fr (fun j => j = mb) w4 (w4.setCells mb 7 [.int .i64 0, .string v2, .slice none 0 0]) := setSome_mid mb 46 [.int .i64 0, .string v2, .slice none 0 0] [.int .i64 0, .string v1, .nilIface, .string ⟨#[]⟩, .nilIface, .string ⟨#[]⟩, .nilIface] [.int .i64 0, .string ⟨#[]⟩, .slice none 0 0] [.string ⟨#[]⟩, .string ⟨#[]⟩, .nilIface, .slice none 0 0, .string ⟨#[]⟩, .string ⟨#[]⟩, .slice none 0 0] w4 hm5 rfl
  have HTH5 := Lib.hid (Blk.there_part (cs := [.int .i64 0, .string v1, .nilIface, .string ⟨#[]⟩, .nilIface, .string ⟨#[]⟩, .nilIface, .int .i64 0, .string ⟨#[]⟩, .slice none 0 0, .string ⟨#[]⟩, .string ⟨#[]⟩, .nilIface, .slice none 0 0, .string ⟨#[]⟩, .string ⟨#[]⟩, .slice none 0 0]) hm5 (k := 7) (n := 3) (show 10 ≤ 17 by decide))
  have HONE5 := Lib.hid (show (#[.int .i64 0, .string v2, .slice none 0 0] : Array Value).all (·.oneCell') = true from all_oneCell_toArray (by intro v hv; simp only [List.mem_cons, List.not_mem_nil, or_false] at hv; rcases hv with rfl | rfl | rfl <;> rfl))
  have hml5 := hm5.lt
  have HM5 := Lib.hid (show Blk (w4.setCells mb 7 [.int .i64 0, .string v2, .slice none 0 0]) mb 46 #[.int .i64 0, .string v1, .nilIface, .string ⟨#[]⟩, .nilIface, .string ⟨#[]⟩, .nilIface, .int .i64 0, .string v2, .slice none 0 0, .string ⟨#[]⟩, .string ⟨#[]⟩, .nilIface, .slice none 0 0, .string ⟨#[]⟩, .string ⟨#[]⟩, .slice none 0 0] from hst5.1)
  have hx5 := HX4.out.fr hst5.2 (fun e => by omega)
  have HY5 := Lib.hid (HY4.out.fr hst5.2 (fun e => by omega))
  have HS5 := Lib.hid (HS4.out.fr hst5.2 (fun e => by omega) (fun j hj e => own_blk_ne HS4.out.row hm5 (by decide) (by rw [hj, e])))
  have HF5 := Lib.hid (HF4.out.trans (T := fun j => j = b ∨ j = mb) (hst5.2.mono (fun _ _ h => .inr h)) (fun j hj h => h.elim id (fun h => absurd hj (by omega))))
  have HSG5 := Lib.hid (HSG4.out.frB HM4.out (by decide) hst5.2)
  have HX5 := Lib.hid hx5
  have xr5 : (w4.setCells mb 7 [.int .i64 0, .string v2, .slice none 0 0]).cell? ⟨w.heap.size, 0, none⟩ = some (.pointer (some ⟨b, 0, none⟩)) := hx5.cell 0
  obtain ⟨wn5, hwn5⟩ : ∃ wn, wn = w4.setCells mb 7 [.int .i64 0, .string v2, .slice none 0 0] := ⟨_, rfl⟩
  have x5 : wn5.cell? ⟨w.heap.size, 0, none⟩ = some (.pointer (some ⟨b, 0, none⟩)) := by rw [hwn5]; exact hx5.cell 0
  rw [show w4.setCells mb 7 [.int .i64 0, .string v2, .slice none 0 0] = wn5 from hwn5.symm] at HM5 HX5 HY5 HS5 HF5 HSG5
  clear hst5 hm5 hx5
  go_wp2_with (refine wpList_store_mid rfl 40 _ _ rfl _ _ _ rfl rfl HTH5.out inf40 HONE5.out ?_)
  rw [show w4.setCells mb 7 [.int .i64 0, .string v2, .slice none 0 0] = wn5 from hwn5.symm]
  clear hwn5 x4 HTH5 HONE5 hml5 xr5
  obtain ⟨w5, rfl⟩ : ∃ w5, w5 = wn5 := ⟨_, rfl⟩
  refine (HN2.out _ HS5.out).mono ?_
  rintro e w6 ⟨rfl, hs6, hf6⟩
  have hx6 := HX5.out.fr hf6 (fun e => by omega)
  have x6 : w6.cell? ⟨w.heap.size, 0, none⟩ = some (.pointer (some ⟨b, 0, none⟩)) := hx6.cell 0
  have HX6 := Lib.hid hx6
  have HY6 := Lib.hid (HY5.out.fr hf6 (fun e => by omega))
  have HM6 := Lib.hid (HM5.out.fr hf6 (fun e => by omega))
  have HS6 := Lib.hid hs6
  have HF6 := Lib.hid (HF5.out.trans' hf6)
  have HSG6 := Lib.hid (HSG5.out.frB HS5.out.blk (by decide) hf6)
  clear hs6 hf6 hx6 x5
  have hm7 := HM6.out
  have hst7 : Blk (w6.setCells mb 5 [.string ⟨#[]⟩, .iface 78 (.agg xs)]) mb 46 #[.int .i64 0, .string v1, .nilIface, .string ⟨#[]⟩, .nilIface, .string ⟨#[]⟩, .iface 78 (.agg xs), .int .i64 0, .string v2, .slice none 0 0, .string ⟨#[]⟩, .string ⟨#[]⟩, .nilIface, .slice none 0 0, .string ⟨#[]⟩, .string ⟨#[]⟩, .slice none 0 0] ∧ Fr (fun j => j = mb) w6 (w6.setCells mb 5 [.string ⟨#[]⟩, .iface 78 (.agg xs)]) := setSome_mid mb 46 [.string ⟨#[]⟩, .iface 78 (.agg xs)] [.int .i64 0, .string v1, .nilIface, .string ⟨#[]⟩, .nilIface] [.string ⟨#[]⟩, .nilIface] [.int .i64 0, .string v2, .slice none 0 0, .string ⟨#[]⟩, .string ⟨#[]⟩, .nilIface, .slice none 0 0, .string ⟨#[]⟩, .string ⟨#[]⟩, .slice none 0 0] w6 hm7 rfl
  have HTH7 := Lib.hid (Blk.there_part (cs := [.int .i64 0, .string v1, .nilIface, .string ⟨#[]⟩, .nilIface, .string ⟨#[]⟩, .nilIface, .int .i64 0, .string v2, .slice none 0 0, .string ⟨#[]⟩, .string ⟨#[]⟩, .nilIface, .slice none 0 0, .string ⟨#[]⟩, .string ⟨#[]⟩, .slice none 0 0]) hm7 (k := 5) (n := 2) (show 7 ≤ 17 by decide))
  have HONE7 := Lib.hid (show (#[.string ⟨#[]⟩, .iface 78 (.agg xs)] : Array Value).all (·.oneCell') = true from all_oneCell_toArray (by intro v hv; simp only [List.mem_cons, List.not_mem_nil, or_false] at hv; rcases hv with rfl | rfl <;> rfl))
  have hml7 := hm7.lt
  have HM7 := Lib.hid (show Blk (w6.setCells mb 5 [.string ⟨#[]⟩, .iface 78 (.agg xs)]) mb 46 #[.int .i64 0, .string v1, .nilIface, .string ⟨#[]⟩, .nilIface, .string ⟨#[]⟩, .iface 78 (.agg xs), .int .i64 0, .string v2, .slice none 0 0, .string ⟨#[]⟩, .string ⟨#[]⟩, .nilIface, .slice none 0 0, .string ⟨#[]⟩, .string ⟨#[]⟩, .slice none 0 0] from hst7.1)
  have hx7 := HX6.out.fr hst7.2 (fun e => by omega)
  have HY7 := Lib.hid (HY6.out.fr hst7.2 (fun e => by omega))
  have HS7 := Lib.hid (HS6.out.fr hst7.2 (fun e => by omega) (fun j hj e => own_blk_ne HS6.out.row hm7 (by decide) (by rw [hj, e])))
  have HF7 := Lib.hid (HF6.out.trans (T := fun j => j = b ∨ j = mb) (hst7.2.mono (fun _ _ h => .inr h)) (fun j hj h => h.elim id (fun h => absurd hj (by omega))))
  have HSG7 := Lib.hid (HSG6.out.frB HM6.out (by decide) hst7.2)
  have HX7 := Lib.hid hx7
  have xr7 : (w6.setCells mb 5 [.string ⟨#[]⟩, .iface 78 (.agg xs)]).cell? ⟨w.heap.size, 0, none⟩ = some (.pointer (some ⟨b, 0, none⟩)) := hx7.cell 0
  obtain ⟨wn7, hwn7⟩ : ∃ wn, wn = w6.setCells mb 5 [.string ⟨#[]⟩, .iface 78 (.agg xs)] := ⟨_, rfl⟩
  have x7 : wn7.cell? ⟨w.heap.size, 0, none⟩ = some (.pointer (some ⟨b, 0, none⟩)) := by rw [hwn7]; exact hx7.cell 0
  rw [show w6.setCells mb 5 [.string ⟨#[]⟩, .iface 78 (.agg xs)] = wn7 from hwn7.symm] at HM7 HX7 HY7 HS7 HF7 HSG7
  clear hst7 hm7 hx7
  go_wp2_with (refine wpList_store_mid rfl 37 _ _ rfl _ _ _ rfl rfl HTH7.out inf37 HONE7.out ?_)
  rw [show w6.setCells mb 5 [.string ⟨#[]⟩, .iface 78 (.agg xs)] = wn7 from hwn7.symm]
  clear hwn7 x6 HTH7 HONE7 hml7 xr7
  obtain ⟨w7, rfl⟩ : ∃ w7, w7 = wn7 := ⟨_, rfl⟩
  refine (HDT.out _ HS7.out).mono ?_
  rintro e w8 ⟨rfl, hs8, hf8⟩
  have hx8 := HX7.out.fr hf8 (fun e => by omega)
  have x8 : w8.cell? ⟨w.heap.size, 0, none⟩ = some (.pointer (some ⟨b, 0, none⟩)) := hx8.cell 0
  have HX8 := Lib.hid hx8
  have HY8 := Lib.hid (HY7.out.fr hf8 (fun e => by omega))
  have HM8 := Lib.hid (HM7.out.fr hf8 (fun e => by omega))
  have HS8 := Lib.hid hs8
  have HF8 := Lib.hid (HF7.out.trans' hf8)
  have HSG8 := Lib.hid (HSG7.out.frB HS7.out.blk (by decide) hf8)
  clear hs8 hf8 hx8 x7
  have HRG := Lib.hid (blkRange (cs := [.int .i64 0, .string v1, .nilIface, .string ⟨#[]⟩, .nilIface, .string ⟨#[]⟩, .iface 78 (.agg xs), .int .i64 0, .string v2, .slice none 0 0, .string ⟨#[]⟩, .string ⟨#[]⟩, .nilIface, .slice none 0 0, .string ⟨#[]⟩, .string ⟨#[]⟩, .slice none 0 0]) HM8.out)
  have hy9 := HY8.out
  have hst9 := Blk.setAll (vs := [.int .i64 0, .string v1, .nilIface, .string ⟨#[]⟩, .nilIface, .string ⟨#[]⟩, .iface 78 (.agg xs), .int .i64 0, .string v2, .slice none 0 0, .string ⟨#[]⟩, .string ⟨#[]⟩, .nilIface, .slice none 0 0, .string ⟨#[]⟩, .string ⟨#[]⟩, .slice none 0 0]) (old := [.int .i64 0, .string ⟨#[]⟩, .nilIface, .string ⟨#[]⟩, .nilIface, .string ⟨#[]⟩, .nilIface, .int .i64 0, .string ⟨#[]⟩, .slice none 0 0, .string ⟨#[]⟩, .string ⟨#[]⟩, .nilIface, .slice none 0 0, .string ⟨#[]⟩, .string ⟨#[]⟩, .slice none 0 0]) hy9 rfl
  have HTH9 := Lib.hid (Blk.there (cs := [.int .i64 0, .string ⟨#[]⟩, .nilIface, .string ⟨#[]⟩, .nilIface, .string ⟨#[]⟩, .nilIface, .int .i64 0, .string ⟨#[]⟩, .slice none 0 0, .string ⟨#[]⟩, .string ⟨#[]⟩, .nilIface, .slice none 0 0, .string ⟨#[]⟩, .string ⟨#[]⟩, .slice none 0 0]) hy9 (n := 17) rfl)
  have HST9 := Lib.hid hst9.1
  have HSS9 := Lib.hid (HS8.out.fr hst9.2 (fun e => by omega) (fun j hj e => own_blk_ne HS8.out.row hy9 (by decide) (by rw [hj, e])))
  have HFF9 := Lib.hid (HF8.out.trans (T := fun j => j = b ∨ j = w.heap.size + 1) (hst9.2.mono (fun _ _ h => .inr h)) (fun j hj h => h.elim id (fun h => absurd hj (by omega))))
  have HONE9 := Lib.hid (show (#[.int .i64 0, .string v1, .nilIface, .string ⟨#[]⟩, .nilIface, .string ⟨#[]⟩, .iface 78 (.agg xs), .int .i64 0, .string v2, .slice none 0 0, .string ⟨#[]⟩, .string ⟨#[]⟩, .nilIface, .slice none 0 0, .string ⟨#[]⟩, .string ⟨#[]⟩, .slice none 0 0] : Array Value).all (·.oneCell') = true from all_oneCell_toArray (by intro v hv; simp only [List.mem_cons, List.not_mem_nil, or_false] at hv; rcases hv with rfl | rfl | rfl | rfl | rfl | rfl | rfl | rfl | rfl | rfl | rfl | rfl | rfl | rfl | rfl | rfl | rfl <;> rfl))
  have hlt9 := hy9.lt
  clear hy9 hst9
  go_wp2_with (first | refine wpList_load_mid rfl 46 _ rfl mb 0 rfl _ _ HRG.out Tryz.underlying46 rfl inf46 ?_ | refine wpList_store_mid rfl 46 _ _ rfl _ _ _ rfl rfl HTH9.out inf46 HONE9.out ?_)
  exact bodyPost_ret (v := .agg #[.int .i64 0, .string v1, .nilIface, .string ⟨#[]⟩, .nilIface, .string ⟨#[]⟩, .iface 78 (.agg xs), .int .i64 0, .string v2, .slice none 0 0, .string ⟨#[]⟩, .string ⟨#[]⟩, .nilIface, .slice none 0 0, .string ⟨#[]⟩, .string ⟨#[]⟩, .slice none 0 0]) (results_cell_row rfl _ _ (w.heap.size + 1) 46 _ (0, 0) _ rfl HST9.out Tryz.underlying46 rfl (by kernel_rfl)) rfl ⟨rfl, HSS9.out, HFF9.out⟩

set_option maxRecDepth 100000 in
set_option maxHeartbeats 40000000 in
/-- A triple of three vars. -/
theorem triple_var (v1 v2 v3 : ByteArray) (b c p q1 q2 q3 q4 q5 : Nat) (A : Option Addr) (rs : List Int) (w : World) (hN1 : ∀ w1, Sc w1 b A c rs p → Calls Tryz.prog 213 #[.agg #[.pointer (some ⟨b, 0, none⟩)]] w1 (ScPost w1 b A c rs q1 (.agg #[.string v1, .nilIface])))
    (hsk : skip rs [0] q1 = q2) (hxx : peekOf rs q2 = 63) (hV : ∀ w1, Sc w1 b A c rs q2 → Calls Tryz.prog 151 #[.agg #[.pointer (some ⟨b, 0, none⟩)]] w1 (ScPost w1 b A c rs q3 (.string v2)))
    (hN2 : ∀ w1, Sc w1 b A c rs q3 → Calls Tryz.prog 213 #[.agg #[.pointer (some ⟨b, 0, none⟩)]] w1 (ScPost w1 b A c rs q4 (.agg #[.string v3, .nilIface])))
    (hdot : markAt rs q4 ⟨#[46]⟩ = true ∧ markTo rs q4 ⟨#[46]⟩ = q5) (h : Sc w b A c rs p) :
    Calls Tryz.prog 211 #[.agg #[.pointer (some ⟨b, 0, none⟩)]] w (ScPost w b A c rs q5 (.agg #[.int .i64 0, .string v1, .nilIface, .string v2, .nilIface, .string v3, .nilIface, .int .i64 0, .string ⟨#[]⟩, .slice none 0 0, .string ⟨#[]⟩, .string ⟨#[]⟩, .nilIface, .slice none 0 0, .string ⟨#[]⟩, .string ⟨#[]⟩, .slice none 0 0])) := by
  have hf : Fr (fun _ => False) w ((w.alloc (.cells #[.pointer (some ⟨b, 0, none⟩)] 108)).alloc (.cells #[.int .i64 0, .string ⟨#[]⟩, .nilIface, .string ⟨#[]⟩, .nilIface, .string ⟨#[]⟩, .nilIface, .int .i64 0, .string ⟨#[]⟩, .slice none 0 0, .string ⟨#[]⟩, .string ⟨#[]⟩, .nilIface, .slice none 0 0, .string ⟨#[]⟩, .string ⟨#[]⟩, .slice none 0 0] 46)) := ((Fr.refl _ _).alloc _).alloc _
  have hx := Blk.new w 108 #[.pointer (some ⟨b, 0, none⟩)]
  have hy := Blk.new (w.alloc (.cells #[.pointer (some ⟨b, 0, none⟩)] 108)) 46 #[.int .i64 0, .string ⟨#[]⟩, .nilIface, .string ⟨#[]⟩, .nilIface, .string ⟨#[]⟩, .nilIface, .int .i64 0, .string ⟨#[]⟩, .slice none 0 0, .string ⟨#[]⟩, .string ⟨#[]⟩, .nilIface, .slice none 0 0, .string ⟨#[]⟩, .string ⟨#[]⟩, .slice none 0 0]
  rw [show (w.alloc (.cells #[.pointer (some ⟨b, 0, none⟩)] 108)).heap.size = w.heap.size + 1 by simp] at hy
  have hx := hx.alloc (.cells #[.int .i64 0, .string ⟨#[]⟩, .nilIface, .string ⟨#[]⟩, .nilIface, .string ⟨#[]⟩, .nilIface, .int .i64 0, .string ⟨#[]⟩, .slice none 0 0, .string ⟨#[]⟩, .string ⟨#[]⟩, .nilIface, .slice none 0 0, .string ⟨#[]⟩, .string ⟨#[]⟩, .slice none 0 0] 46)
  have HX := Lib.hid hx
  have HY := Lib.hid hy
  have HF := Lib.hid hf
  have HS := Lib.hid (h.frF hf)
  have hbl := h.blk.lt
  have HN1 := Lib.hid hN1
  have HN2 := Lib.hid hN2
  have HNX := Lib.hid (fun w1 h1 => nextsign_sc b c q1 A rs w1 h1)
  rw [hsk, hxx] at HNX
  have HDT := Lib.hid (fun w1 h1 => must_sc ⟨#[46]⟩ b c q4 q5 A rs w1 (ascii_of (by decide)) (by decide) hdot.1 hdot.2 h1)
  have HV := Lib.hid hV
  clear h hf hx hy hN1 hN2 hsk hxx hdot hV
  go_enter Tryz.func211, Tryz.ntmps211
  go_wp2_with fail
  refine (HN1.out _ HS.out).mono ?_
  rintro e w1 ⟨rfl, hs1, hf1⟩
  have hx1 := HX.out.fr hf1 (fun e => by omega)
  have x1 : w1.cell? ⟨w.heap.size, 0, none⟩ = some (.pointer (some ⟨b, 0, none⟩)) := hx1.cell 0
  have HX1 := Lib.hid hx1
  have HY1 := Lib.hid (HY.out.fr hf1 (fun e => by omega))
  have HS1 := Lib.hid hs1
  have HF1 := Lib.hid ((HF.out.mono (T := fun j => j = b) (fun _ _ h => h.elim)).trans' hf1)
  clear hs1 hf1 hx1
  have hfa : Fr (fun _ => False) w1 (w1.alloc (.cells #[.int .i64 0, .string v1, .nilIface, .string ⟨#[]⟩, .nilIface, .string ⟨#[]⟩, .nilIface, .int .i64 0, .string ⟨#[]⟩, .slice none 0 0, .string ⟨#[]⟩, .string ⟨#[]⟩, .nilIface, .slice none 0 0, .string ⟨#[]⟩, .string ⟨#[]⟩, .slice none 0 0] 46)) := (Fr.refl _ _).alloc _
  obtain ⟨w2, hw2⟩ : ∃ w2, w2 = w1.alloc (.cells #[.int .i64 0, .string v1, .nilIface, .string ⟨#[]⟩, .nilIface, .string ⟨#[]⟩, .nilIface, .int .i64 0, .string ⟨#[]⟩, .slice none 0 0, .string ⟨#[]⟩, .string ⟨#[]⟩, .nilIface, .slice none 0 0, .string ⟨#[]⟩, .string ⟨#[]⟩, .slice none 0 0] 46) := ⟨_, rfl⟩
  obtain ⟨mb, hmb⟩ : ∃ mb, mb = w1.heap.size := ⟨_, rfl⟩
  have hm2 := Blk.new w1 46 #[.int .i64 0, .string v1, .nilIface, .string ⟨#[]⟩, .nilIface, .string ⟨#[]⟩, .nilIface, .int .i64 0, .string ⟨#[]⟩, .slice none 0 0, .string ⟨#[]⟩, .string ⟨#[]⟩, .nilIface, .slice none 0 0, .string ⟨#[]⟩, .string ⟨#[]⟩, .slice none 0 0]
  rw [← hw2] at hfa hm2
  rw [← hmb] at hm2
  have hbm : b < mb := by have := HX1.out.lt; omega
  have hbm2 : w.heap.size + 1 < mb := by have := HY1.out.lt; omega
  have HM2 := Lib.hid hm2
  have hsz : w.heap.size < w1.heap.size := HX1.out.lt
  have hx2 := HX1.out.fr hfa (fun h => h)
  have x2 : w2.cell? ⟨w.heap.size, 0, none⟩ = some (.pointer (some ⟨b, 0, none⟩)) := hx2.cell 0
  have HX2 := Lib.hid hx2
  have HY2 := Lib.hid (HY1.out.fr hfa (fun h => h))
  have HS2 := Lib.hid (HS1.out.frF hfa)
  have HF2 := Lib.hid (HF1.out.trans hfa (fun _ _ h => h.elim))
  clear hfa hm2 hx2
  go_wp2_with fail
  rw [← hw2, ← hmb]
  clear hw2 hmb x1 hsz
  refine (HNX.out _ HS2.out).mono ?_
  rintro e w3 ⟨rfl, hs3, hf3⟩
  have hx3 := HX2.out.fr hf3 (fun e => by omega)
  have x3 : w3.cell? ⟨w.heap.size, 0, none⟩ = some (.pointer (some ⟨b, 0, none⟩)) := hx3.cell 0
  have HX3 := Lib.hid hx3
  have HY3 := Lib.hid (HY2.out.fr hf3 (fun e => by omega))
  have HM3 := Lib.hid (HM2.out.fr hf3 (fun e => by omega))
  have HS3 := Lib.hid hs3
  have HF3 := Lib.hid (HF2.out.trans' hf3)
  clear hs3 hf3 hx3 x2
  go_wp2_with fail
  refine (HV.out _ HS3.out).mono ?_
  rintro e w4 ⟨rfl, hs4, hf4⟩
  have hx4 := HX3.out.fr hf4 (fun e => by omega)
  have x4 : w4.cell? ⟨w.heap.size, 0, none⟩ = some (.pointer (some ⟨b, 0, none⟩)) := hx4.cell 0
  have HX4 := Lib.hid hx4
  have HY4 := Lib.hid (HY3.out.fr hf4 (fun e => by omega))
  have HM4 := Lib.hid (HM3.out.fr hf4 (fun e => by omega))
  have HS4 := Lib.hid hs4
  have HF4 := Lib.hid (HF3.out.trans' hf4)
  clear hs4 hf4 hx4 x3
  have hm5 := HM4.out
  have hst5 : Blk (w4.setCells mb 3 [.string v2, .nilIface]) mb 46 #[.int .i64 0, .string v1, .nilIface, .string v2, .nilIface, .string ⟨#[]⟩, .nilIface, .int .i64 0, .string ⟨#[]⟩, .slice none 0 0, .string ⟨#[]⟩, .string ⟨#[]⟩, .nilIface, .slice none 0 0, .string ⟨#[]⟩, .string ⟨#[]⟩, .slice none 0 0] ∧ Fr (fun j => j = mb) w4 (w4.setCells mb 3 [.string v2, .nilIface]) := setSome_mid mb 46 [.string v2, .nilIface] [.int .i64 0, .string v1, .nilIface] [.string ⟨#[]⟩, .nilIface] [.string ⟨#[]⟩, .nilIface, .int .i64 0, .string ⟨#[]⟩, .slice none 0 0, .string ⟨#[]⟩, .string ⟨#[]⟩, .nilIface, .slice none 0 0, .string ⟨#[]⟩, .string ⟨#[]⟩, .slice none 0 0] w4 hm5 rfl
  have HTH5 := Lib.hid (Blk.there_part (cs := [.int .i64 0, .string v1, .nilIface, .string ⟨#[]⟩, .nilIface, .string ⟨#[]⟩, .nilIface, .int .i64 0, .string ⟨#[]⟩, .slice none 0 0, .string ⟨#[]⟩, .string ⟨#[]⟩, .nilIface, .slice none 0 0, .string ⟨#[]⟩, .string ⟨#[]⟩, .slice none 0 0]) hm5 (k := 3) (n := 2) (show 5 ≤ 17 by decide))
  have HONE5 := Lib.hid (show (#[.string v2, .nilIface] : Array Value).all (·.oneCell') = true from all_oneCell_toArray (by intro v hv; simp only [List.mem_cons, List.not_mem_nil, or_false] at hv; rcases hv with rfl | rfl <;> rfl))
  have hml5 := hm5.lt
  have HM5 := Lib.hid (show Blk (w4.setCells mb 3 [.string v2, .nilIface]) mb 46 #[.int .i64 0, .string v1, .nilIface, .string v2, .nilIface, .string ⟨#[]⟩, .nilIface, .int .i64 0, .string ⟨#[]⟩, .slice none 0 0, .string ⟨#[]⟩, .string ⟨#[]⟩, .nilIface, .slice none 0 0, .string ⟨#[]⟩, .string ⟨#[]⟩, .slice none 0 0] from hst5.1)
  have hx5 := HX4.out.fr hst5.2 (fun e => by omega)
  have HY5 := Lib.hid (HY4.out.fr hst5.2 (fun e => by omega))
  have HS5 := Lib.hid (HS4.out.fr hst5.2 (fun e => by omega) (fun j hj e => own_blk_ne HS4.out.row hm5 (by decide) (by rw [hj, e])))
  have HF5 := Lib.hid (HF4.out.trans (T := fun j => j = b ∨ j = mb) (hst5.2.mono (fun _ _ h => .inr h)) (fun j hj h => h.elim id (fun h => absurd hj (by omega))))
  have HX5 := Lib.hid hx5
  have xr5 : (w4.setCells mb 3 [.string v2, .nilIface]).cell? ⟨w.heap.size, 0, none⟩ = some (.pointer (some ⟨b, 0, none⟩)) := hx5.cell 0
  obtain ⟨wn5, hwn5⟩ : ∃ wn, wn = w4.setCells mb 3 [.string v2, .nilIface] := ⟨_, rfl⟩
  have x5 : wn5.cell? ⟨w.heap.size, 0, none⟩ = some (.pointer (some ⟨b, 0, none⟩)) := by rw [hwn5]; exact hx5.cell 0
  rw [show w4.setCells mb 3 [.string v2, .nilIface] = wn5 from hwn5.symm] at HM5 HX5 HY5 HS5 HF5
  clear hst5 hm5 hx5
  go_wp2_with (refine wpList_store_mid rfl 37 _ _ rfl _ _ _ rfl rfl HTH5.out inf37 HONE5.out ?_)
  rw [show w4.setCells mb 3 [.string v2, .nilIface] = wn5 from hwn5.symm]
  clear hwn5 x4 HTH5 HONE5 hml5 xr5
  obtain ⟨w5, rfl⟩ : ∃ w5, w5 = wn5 := ⟨_, rfl⟩
  refine (HN2.out _ HS5.out).mono ?_
  rintro e w6 ⟨rfl, hs6, hf6⟩
  have hx6 := HX5.out.fr hf6 (fun e => by omega)
  have x6 : w6.cell? ⟨w.heap.size, 0, none⟩ = some (.pointer (some ⟨b, 0, none⟩)) := hx6.cell 0
  have HX6 := Lib.hid hx6
  have HY6 := Lib.hid (HY5.out.fr hf6 (fun e => by omega))
  have HM6 := Lib.hid (HM5.out.fr hf6 (fun e => by omega))
  have HS6 := Lib.hid hs6
  have HF6 := Lib.hid (HF5.out.trans' hf6)
  clear hs6 hf6 hx6 x5
  have hm7 := HM6.out
  have hst7 : Blk (w6.setCells mb 5 [.string v3, .nilIface]) mb 46 #[.int .i64 0, .string v1, .nilIface, .string v2, .nilIface, .string v3, .nilIface, .int .i64 0, .string ⟨#[]⟩, .slice none 0 0, .string ⟨#[]⟩, .string ⟨#[]⟩, .nilIface, .slice none 0 0, .string ⟨#[]⟩, .string ⟨#[]⟩, .slice none 0 0] ∧ Fr (fun j => j = mb) w6 (w6.setCells mb 5 [.string v3, .nilIface]) := setSome_mid mb 46 [.string v3, .nilIface] [.int .i64 0, .string v1, .nilIface, .string v2, .nilIface] [.string ⟨#[]⟩, .nilIface] [.int .i64 0, .string ⟨#[]⟩, .slice none 0 0, .string ⟨#[]⟩, .string ⟨#[]⟩, .nilIface, .slice none 0 0, .string ⟨#[]⟩, .string ⟨#[]⟩, .slice none 0 0] w6 hm7 rfl
  have HTH7 := Lib.hid (Blk.there_part (cs := [.int .i64 0, .string v1, .nilIface, .string v2, .nilIface, .string ⟨#[]⟩, .nilIface, .int .i64 0, .string ⟨#[]⟩, .slice none 0 0, .string ⟨#[]⟩, .string ⟨#[]⟩, .nilIface, .slice none 0 0, .string ⟨#[]⟩, .string ⟨#[]⟩, .slice none 0 0]) hm7 (k := 5) (n := 2) (show 7 ≤ 17 by decide))
  have HONE7 := Lib.hid (show (#[.string v3, .nilIface] : Array Value).all (·.oneCell') = true from all_oneCell_toArray (by intro v hv; simp only [List.mem_cons, List.not_mem_nil, or_false] at hv; rcases hv with rfl | rfl <;> rfl))
  have hml7 := hm7.lt
  have HM7 := Lib.hid (show Blk (w6.setCells mb 5 [.string v3, .nilIface]) mb 46 #[.int .i64 0, .string v1, .nilIface, .string v2, .nilIface, .string v3, .nilIface, .int .i64 0, .string ⟨#[]⟩, .slice none 0 0, .string ⟨#[]⟩, .string ⟨#[]⟩, .nilIface, .slice none 0 0, .string ⟨#[]⟩, .string ⟨#[]⟩, .slice none 0 0] from hst7.1)
  have hx7 := HX6.out.fr hst7.2 (fun e => by omega)
  have HY7 := Lib.hid (HY6.out.fr hst7.2 (fun e => by omega))
  have HS7 := Lib.hid (HS6.out.fr hst7.2 (fun e => by omega) (fun j hj e => own_blk_ne HS6.out.row hm7 (by decide) (by rw [hj, e])))
  have HF7 := Lib.hid (HF6.out.trans (T := fun j => j = b ∨ j = mb) (hst7.2.mono (fun _ _ h => .inr h)) (fun j hj h => h.elim id (fun h => absurd hj (by omega))))
  have HX7 := Lib.hid hx7
  have xr7 : (w6.setCells mb 5 [.string v3, .nilIface]).cell? ⟨w.heap.size, 0, none⟩ = some (.pointer (some ⟨b, 0, none⟩)) := hx7.cell 0
  obtain ⟨wn7, hwn7⟩ : ∃ wn, wn = w6.setCells mb 5 [.string v3, .nilIface] := ⟨_, rfl⟩
  have x7 : wn7.cell? ⟨w.heap.size, 0, none⟩ = some (.pointer (some ⟨b, 0, none⟩)) := by rw [hwn7]; exact hx7.cell 0
  rw [show w6.setCells mb 5 [.string v3, .nilIface] = wn7 from hwn7.symm] at HM7 HX7 HY7 HS7 HF7
  clear hst7 hm7 hx7
  go_wp2_with (refine wpList_store_mid rfl 37 _ _ rfl _ _ _ rfl rfl HTH7.out inf37 HONE7.out ?_)
  rw [show w6.setCells mb 5 [.string v3, .nilIface] = wn7 from hwn7.symm]
  clear hwn7 x6 HTH7 HONE7 hml7 xr7
  obtain ⟨w7, rfl⟩ : ∃ w7, w7 = wn7 := ⟨_, rfl⟩
  refine (HDT.out _ HS7.out).mono ?_
  rintro e w8 ⟨rfl, hs8, hf8⟩
  have hx8 := HX7.out.fr hf8 (fun e => by omega)
  have x8 : w8.cell? ⟨w.heap.size, 0, none⟩ = some (.pointer (some ⟨b, 0, none⟩)) := hx8.cell 0
  have HX8 := Lib.hid hx8
  have HY8 := Lib.hid (HY7.out.fr hf8 (fun e => by omega))
  have HM8 := Lib.hid (HM7.out.fr hf8 (fun e => by omega))
  have HS8 := Lib.hid hs8
  have HF8 := Lib.hid (HF7.out.trans' hf8)
  clear hs8 hf8 hx8 x7
  have HRG := Lib.hid (blkRange (cs := [.int .i64 0, .string v1, .nilIface, .string v2, .nilIface, .string v3, .nilIface, .int .i64 0, .string ⟨#[]⟩, .slice none 0 0, .string ⟨#[]⟩, .string ⟨#[]⟩, .nilIface, .slice none 0 0, .string ⟨#[]⟩, .string ⟨#[]⟩, .slice none 0 0]) HM8.out)
  have hy9 := HY8.out
  have hst9 := Blk.setAll (vs := [.int .i64 0, .string v1, .nilIface, .string v2, .nilIface, .string v3, .nilIface, .int .i64 0, .string ⟨#[]⟩, .slice none 0 0, .string ⟨#[]⟩, .string ⟨#[]⟩, .nilIface, .slice none 0 0, .string ⟨#[]⟩, .string ⟨#[]⟩, .slice none 0 0]) (old := [.int .i64 0, .string ⟨#[]⟩, .nilIface, .string ⟨#[]⟩, .nilIface, .string ⟨#[]⟩, .nilIface, .int .i64 0, .string ⟨#[]⟩, .slice none 0 0, .string ⟨#[]⟩, .string ⟨#[]⟩, .nilIface, .slice none 0 0, .string ⟨#[]⟩, .string ⟨#[]⟩, .slice none 0 0]) hy9 rfl
  have HTH9 := Lib.hid (Blk.there (cs := [.int .i64 0, .string ⟨#[]⟩, .nilIface, .string ⟨#[]⟩, .nilIface, .string ⟨#[]⟩, .nilIface, .int .i64 0, .string ⟨#[]⟩, .slice none 0 0, .string ⟨#[]⟩, .string ⟨#[]⟩, .nilIface, .slice none 0 0, .string ⟨#[]⟩, .string ⟨#[]⟩, .slice none 0 0]) hy9 (n := 17) rfl)
  have HST9 := Lib.hid hst9.1
  have HSS9 := Lib.hid (HS8.out.fr hst9.2 (fun e => by omega) (fun j hj e => own_blk_ne HS8.out.row hy9 (by decide) (by rw [hj, e])))
  have HFF9 := Lib.hid (HF8.out.trans (T := fun j => j = b ∨ j = w.heap.size + 1) (hst9.2.mono (fun _ _ h => .inr h)) (fun j hj h => h.elim id (fun h => absurd hj (by omega))))
  have HONE9 := Lib.hid (show (#[.int .i64 0, .string v1, .nilIface, .string v2, .nilIface, .string v3, .nilIface, .int .i64 0, .string ⟨#[]⟩, .slice none 0 0, .string ⟨#[]⟩, .string ⟨#[]⟩, .nilIface, .slice none 0 0, .string ⟨#[]⟩, .string ⟨#[]⟩, .slice none 0 0] : Array Value).all (·.oneCell') = true from all_oneCell_toArray (by intro v hv; simp only [List.mem_cons, List.not_mem_nil, or_false] at hv; rcases hv with rfl | rfl | rfl | rfl | rfl | rfl | rfl | rfl | rfl | rfl | rfl | rfl | rfl | rfl | rfl | rfl | rfl <;> rfl))
  have hlt9 := hy9.lt
  clear hy9 hst9
  go_wp2_with (first | refine wpList_load_mid rfl 46 _ rfl mb 0 rfl _ _ HRG.out Tryz.underlying46 rfl inf46 ?_ | refine wpList_store_mid rfl 46 _ _ rfl _ _ _ rfl rfl HTH9.out inf46 HONE9.out ?_)
  exact bodyPost_ret (v := .agg #[.int .i64 0, .string v1, .nilIface, .string v2, .nilIface, .string v3, .nilIface, .int .i64 0, .string ⟨#[]⟩, .slice none 0 0, .string ⟨#[]⟩, .string ⟨#[]⟩, .nilIface, .slice none 0 0, .string ⟨#[]⟩, .string ⟨#[]⟩, .slice none 0 0]) (results_cell_row rfl _ _ (w.heap.size + 1) 46 _ (0, 0) _ rfl HST9.out Tryz.underlying46 rfl (by kernel_rfl)) rfl ⟨rfl, HSS9.out, HFF9.out⟩

end Go.Proofs.YtebddgdkndmpjaaGreatDoor
