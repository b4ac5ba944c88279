/- An expression that begins with a term that can not be: walked. -/
import Derived.Test.YtebddgdkndmpjaaGreatDoorFn
import Derived.Deep.CutBlock
import Derived.Deep.RegionLawGrows
import Derived.Deep.Cut
import Derived.Deep.CutRange
import Derived.WalkKit
import Derived.WalkLawsBesides
import Derived.WalkSpells
import Derived.Deep.QuietTactic
import Derived.BigRegion
import Derived.BigQuiet
import Derived.Lib.Hide
import Derived.Outline
import Derived.Deep.AppendLies
import Derived.Deep.RegionLaw
import Derived.Deep.RegionWith
import Derived.Deep.RegionHeld3
import Derived.Deep.LoopGhost
import Derived.Deep.DeepFit
import Derived.Laws.ResultCell
import Derived.Laws.RangeAny
import Derived.Deep.MidRow
import Derived.StillTailTactics
import Derived.OpenShut
namespace Go.Proofs.YtebddgdkndmpjaaGreatDoor
set_option linter.unusedVariables false
open Go.RowKit Go

/-- A sign that begins a term. -/
def Head (r : Int) : Prop := r = 60 ∨ r = 95 ∨ r = 34

set_option maxRecDepth 100000 in
set_option maxHeartbeats 4000000 in
theorem node_bad (b c p : Nat) (A : Option Addr) (rs : List Int) (w : World) (hh : Head (peekOf rs p)) (hl : rs.length ≤ 1000) (hbd : (readR rs p).2 ≠ 0) (h : Sc w b A c rs p) (he : Es w) :
    Calls Tryz.prog 213 #[.agg #[.pointer (some ⟨b, 0, none⟩)]] w fun e w' => Thrown (readR rs p).1 (readR rs p).2 e ∧ Fr (fun j => j = b) w w' := by
  have hq : skip rs [0] p = p := skip_sign (by rcases hh with e | e | e <;> rw [e] <;> decide)
  have hf : Fr (fun _ => False) w ((w.alloc (.cells #[.pointer (some ⟨b, 0, none⟩)] 108)).alloc (.cells #[.string ⟨#[]⟩, .nilIface] 37)) := ((Fr.refl _ _).alloc _).alloc _
  have HN := Lib.hid (fun w1 h1 => nextsign_sc b c p A rs w1 h1)
  rw [hq] at HN
  have HC := Lib.hid (fun w1 => cls_any (peekOf rs p) w1 (peek_ok h p))
  have hcl : clsOf (peekOf rs p) = 3 := by rcases hh with e | e | e <;> rw [e] <;> decide
  rw [hcl] at HC
  have h63 : (peekOf rs p == 63) = false := by rcases hh with e | e | e <;> rw [e] <;> decide
  have HT := Lib.hid (fun w1 h1 h2 => term_bad b c p A rs w1 hq hl hbd h1 h2)
  have HX := Lib.hid ((Blk.new w 108 #[.pointer (some ⟨b, 0, none⟩)]).alloc (.cells #[.string ⟨#[]⟩, .nilIface] 37))
  have HF := Lib.hid hf
  have HS0 := Lib.hid (h.frF hf)
  have HE0 := Lib.hid (he.frF hf)
  have hne := he.ne h
  have hbl := h.blk.lt
  unfold Thrown at *
  generalize readR rs p = rr at *
  generalize peekOf rs p = r at *
  clear h hf hq he hh hcl hbd
  go_enter Tryz.func213, Tryz.ntmps213
  go_wp2_with fail
  refine (HN.out _ HS0.out).mono ?_
  rintro e w1 ⟨rfl, hs1, hf1⟩
  have hx1 := box_keep HX.out hbl hf1
  have x1 : w1.cell? ⟨w.heap.size, 0, none⟩ = some (.pointer (some ⟨b, 0, none⟩)) := hx1.cell 0
  have HTT := Lib.hid (HT.out w1 hs1 (HE0.out.fr hf1 hne))
  have HF1 := Lib.hid ((HF.out.mono (T := fun j => j = b) (fun _ _ h => h.elim)).trans' hf1)
  clear hx1 hs1 hf1
  go_wp2_with fail
  refine (HC.out _).mono ?_
  rintro e w2 ⟨rfl, rfl⟩
  go_wp2_with fail
  refine HTT.out.mono ?_
  rintro e w3 ⟨rfl, hf3⟩
  go_wp2_with fail
  exact ⟨rfl, rfl, HF1.out.trans' hf3⟩

set_option maxRecDepth 100000 in
set_option maxHeartbeats 4000000 in
theorem sign_bad (b c p : Nat) (A : Option Addr) (rs : List Int) (w : World) (hh : Head (peekOf rs p)) (hl : rs.length ≤ 1000) (hbd : (readR rs p).2 ≠ 0) (h : Sc w b A c rs p) (he : Es w) :
    Calls Tryz.prog 157 #[.agg #[.pointer (some ⟨b, 0, none⟩)]] w fun e w' => Thrown (readR rs p).1 (readR rs p).2 e ∧ Fr (fun j => j = b) w w' := by
  have hq : skip rs [0] p = p := skip_sign (by rcases hh with e | e | e <;> rw [e] <;> decide)
  have hf : Fr (fun _ => False) w ((w.alloc (.cells #[.pointer (some ⟨b, 0, none⟩)] 108)).alloc (.cells #[.string ⟨#[]⟩, .string ⟨#[]⟩, .nilIface, .slice none 0 0] 43)) := ((Fr.refl _ _).alloc _).alloc _
  have m1 := mark_no (x := 33) hq (by rcases hh with e | e | e <;> rw [e] <;> decide)
  have m2 := mark_no (x := 45) hq (by rcases hh with e | e | e <;> rw [e] <;> decide)
  have m3 := mark_no (x := 40) hq (by rcases hh with e | e | e <;> rw [e] <;> decide)
  have n1 := word_no (T := ⟨#[84, 82, 85, 69]⟩) hq rfl (by decide) (by rcases hh with e | e | e <;> rw [e] <;> decide)
  have n2 := word_no (T := ⟨#[70, 65, 76, 83, 69]⟩) hq rfl (by decide) (by rcases hh with e | e | e <;> rw [e] <;> decide)
  have n3 := word_no (T := ⟨#[66, 79, 85, 78, 68]⟩) hq rfl (by decide) (by rcases hh with e | e | e <;> rw [e] <;> decide)
  have M1 := Lib.hid (fun w1 h1 => mark_sc ⟨#[33]⟩ b c p A rs w1 (ascii_of (by decide)) (by decide) h1)
  have M2 := Lib.hid (fun w1 h1 => mark_sc ⟨#[45]⟩ b c p A rs w1 (ascii_of (by decide)) (by decide) h1)
  have M3 := Lib.hid (fun w1 h1 => mark_sc ⟨#[40]⟩ b c p A rs w1 (ascii_of (by decide)) (by decide) h1)
  have W1 := Lib.hid (fun w1 h1 => word_sc ⟨#[84, 82, 85, 69]⟩ b c p A rs w1 (ascii_of (by decide)) (by decide) h1)
  have W2 := Lib.hid (fun w1 h1 => word_sc ⟨#[70, 65, 76, 83, 69]⟩ b c p A rs w1 (ascii_of (by decide)) (by decide) h1)
  have W3 := Lib.hid (fun w1 h1 => word_sc ⟨#[66, 79, 85, 78, 68]⟩ b c p A rs w1 (ascii_of (by decide)) (by decide) h1)
  rw [m1.1, m1.2] at M1
  rw [m2.1, m2.2] at M2
  rw [m3.1, m3.2] at M3
  rw [n1.1, n1.2] at W1
  rw [n2.1, n2.2] at W2
  rw [n3.1, n3.2] at W3
  have HND := Lib.hid (fun w1 h1 h2 => node_bad b c p A rs w1 hh hl hbd h1 h2)
  have HX := Lib.hid ((Blk.new w 108 #[.pointer (some ⟨b, 0, none⟩)]).alloc (.cells #[.string ⟨#[]⟩, .string ⟨#[]⟩, .nilIface, .slice none 0 0] 43))
  have HF := Lib.hid hf
  have HS0 := Lib.hid (h.frF hf)
  have HE0 := Lib.hid (he.frF hf)
  have hne := he.ne h
  have hbl := h.blk.lt
  unfold Thrown at *
  generalize readR rs p = rr at *
  clear h hf hq he hh hbd m1 m2 m3 n1 n2 n3
  go_enter Tryz.func157, Tryz.ntmps157
  go_wp2_with fail
  refine (M1.out _ HS0.out).mono ?_
  rintro e w1 ⟨rfl, hs1, hf1⟩
  have hx1 := box_keep HX.out hbl hf1
  have x1 : w1.cell? ⟨w.heap.size, 0, none⟩ = some (.pointer (some ⟨b, 0, none⟩)) := hx1.cell 0
  have HX1 := Lib.hid hx1
  have HS1 := Lib.hid hs1
  have HF1 := Lib.hid ((HF.out.mono (T := fun j => j = b) (fun _ _ h => h.elim)).trans' hf1)
  have HE1 := Lib.hid (HE0.out.fr hf1 hne)
  clear hx1 hs1 hf1
  go_wp2_with fail
  refine (M2.out _ HS1.out).mono ?_
  rintro e w2 ⟨rfl, hs2, hf2⟩
  have hx2 := box_keep HX1.out hbl hf2
  have x2 : w2.cell? ⟨w.heap.size, 0, none⟩ = some (.pointer (some ⟨b, 0, none⟩)) := hx2.cell 0
  have HX2 := Lib.hid hx2
  have HS2 := Lib.hid hs2
  have HF2 := Lib.hid (HF1.out.trans' hf2)
  have HE2 := Lib.hid (HE1.out.fr hf2 hne)
  clear hx2 hs2 hf2 x1
  go_wp2_with fail
  refine (M3.out _ HS2.out).mono ?_
  rintro e w3 ⟨rfl, hs3, hf3⟩
  have hx3 := box_keep HX2.out hbl hf3
  have x3 : w3.cell? ⟨w.heap.size, 0, none⟩ = some (.pointer (some ⟨b, 0, none⟩)) := hx3.cell 0
  have HX3 := Lib.hid hx3
  have HS3 := Lib.hid hs3
  have HF3 := Lib.hid (HF2.out.trans' hf3)
  have HE3 := Lib.hid (HE2.out.fr hf3 hne)
  clear hx3 hs3 hf3 x2
  go_wp2_with fail
  refine (W1.out _ HS3.out).mono ?_
  rintro e w4 ⟨rfl, hs4, hf4⟩
  have hx4 := box_keep HX3.out hbl hf4
  have x4 : w4.cell? ⟨w.heap.size, 0, none⟩ = some (.pointer (some ⟨b, 0, none⟩)) := hx4.cell 0
  have HX4 := Lib.hid hx4
  have HS4 := Lib.hid hs4
  have HF4 := Lib.hid (HF3.out.trans' hf4)
  have HE4 := Lib.hid (HE3.out.fr hf4 hne)
  clear hx4 hs4 hf4 x3
  go_wp2_with fail
  refine (W2.out _ HS4.out).mono ?_
  rintro e w5 ⟨rfl, hs5, hf5⟩
  have hx5 := box_keep HX4.out hbl hf5
  have x5 : w5.cell? ⟨w.heap.size, 0, none⟩ = some (.pointer (some ⟨b, 0, none⟩)) := hx5.cell 0
  have HX5 := Lib.hid hx5
  have HS5 := Lib.hid hs5
  have HF5 := Lib.hid (HF4.out.trans' hf5)
  have HE5 := Lib.hid (HE4.out.fr hf5 hne)
  clear hx5 hs5 hf5 x4
  go_wp2_with fail
  refine (W3.out _ HS5.out).mono ?_
  rintro e w6 ⟨rfl, hs6, hf6⟩
  have hx6 := box_keep HX5.out hbl hf6
  have x6 : w6.cell? ⟨w.heap.size, 0, none⟩ = some (.pointer (some ⟨b, 0, none⟩)) := hx6.cell 0
  have HX6 := Lib.hid hx6
  have HS6 := Lib.hid hs6
  have HF6 := Lib.hid (HF5.out.trans' hf6)
  have HE6 := Lib.hid (HE5.out.fr hf6 hne)
  clear hx6 hs6 hf6 x5
  go_wp2_with fail
  refine (HND.out _ HS6.out HE6.out).mono ?_
  rintro e w7 ⟨rfl, hf7⟩
  go_wp2_with fail
  exact ⟨rfl, rfl, HF6.out.trans' hf7⟩

set_option maxRecDepth 100000 in
set_option maxHeartbeats 4000000 in
theorem level_bad (b c p : Nat) (A : Option Addr) (rs : List Int) (hh : Head (peekOf rs p)) (hl : rs.length ≤ 1000) (hbd : (readR rs p).2 ≠ 0) : ∀ (m n : Nat), n + m = 5 → ∀ w : World, Sc w b A c rs p → Es w →
    Calls Tryz.prog 109 #[.agg #[.pointer (some ⟨b, 0, none⟩)], .int .i64 (n : Int)] w fun e w' => Thrown (readR rs p).1 (readR rs p).2 e ∧ Fr (fun j => j = b) w w'
  | 0, n, hn, w, h, he => by
    obtain rfl : n = 5 := by omega
    have HSG := Lib.hid (fun w1 h1 h2 => sign_bad b c p A rs w1 hh hl hbd h1 h2)
    have HS := Lib.hid h
    have HE := Lib.hid he
    unfold Thrown at *
    generalize readR rs p = rr at *
    have hf : Fr (fun _ => False) w ((w.alloc (.cells #[.pointer (some ⟨b, 0, none⟩)] 108)).alloc (.cells #[.string ⟨#[]⟩, .string ⟨#[]⟩, .nilIface, .slice none 0 0] 43)) := ((Fr.refl _ _).alloc _).alloc _
    have HF := Lib.hid hf
    have HX := Lib.hid (HSG.out _ (HS.out.frF hf) (HE.out.frF hf))
    clear h he hh hbd hf
    go_enter Tryz.func109, Tryz.ntmps109
    go_wp2_with fail
    refine HX.out.mono ?_
    rintro e w1 ⟨rfl, hf1⟩
    go_wp2_with fail
    exact ⟨rfl, rfl, (HF.out.mono (fun _ _ h => h.elim)).trans' hf1⟩
  | m + 1, n, hn, w, h, he => by
    have HSG := Lib.hid (fun w1 h1 h2 => level_bad b c p A rs hh hl hbd m (n + 1) (by omega) w1 h1 h2)
    have HS := Lib.hid h
    have HE := Lib.hid he
    unfold Thrown at *
    generalize readR rs p = rr at *
    have hf : Fr (fun _ => False) w ((w.alloc (.cells #[.pointer (some ⟨b, 0, none⟩)] 108)).alloc (.cells #[.string ⟨#[]⟩, .string ⟨#[]⟩, .nilIface, .slice none 0 0] 43)) := ((Fr.refl _ _).alloc _).alloc _
    have HF := Lib.hid hf
    have HX := Lib.hid (HSG.out _ (HS.out.frF hf) (HE.out.frF hf))
    have hn5 : ((n : Int) == 5) = false := by simp; omega
    clear h he hh hbd hf
    go_enter Tryz.func109, Tryz.ntmps109
    go_wp2_with fail
    refine HX.out.mono ?_
    rintro e w1 ⟨rfl, hf1⟩
    go_wp2_with fail
    exact ⟨rfl, rfl, (HF.out.mono (fun _ _ h => h.elim)).trans' hf1⟩

set_option maxRecDepth 100000 in
set_option maxHeartbeats 4000000 in
theorem expr_bad (b c p : Nat) (A : Option Addr) (rs : List Int) (w : World) (hh : Head (peekOf rs p)) (hl : rs.length ≤ 1000) (hbd : (readR rs p).2 ≠ 0) (h : Sc w b A c rs p) (he : Es w) :
    Calls Tryz.prog 49 #[.agg #[.pointer (some ⟨b, 0, none⟩)]] w fun e w' => Thrown (readR rs p).1 (readR rs p).2 e ∧ Fr (fun j => j = b) w w' := by
  have hq : skip rs [0] p = p := skip_sign (by rcases hh with e | e | e <;> rw [e] <;> decide)
  have HLV := Lib.hid (fun w1 h1 h2 => level_bad b c p A rs hh hl hbd 5 0 rfl w1 h1 h2)
  have hf : Fr (fun _ => False) w ((w.alloc (.cells #[.pointer (some ⟨b, 0, none⟩)] 108)).alloc (.cells #[.string ⟨#[]⟩, .string ⟨#[]⟩, .nilIface, .slice none 0 0] 43)) := ((Fr.refl _ _).alloc _).alloc _
  have HB := Lib.hid (blanks_sc b c p A rs _ (h.frF hf))
  rw [hq] at HB
  have HP := Lib.hid (fun w1 h1 => place_sc b c p A rs w1 h1)
  have HX := Lib.hid ((Blk.new w 108 #[.pointer (some ⟨b, 0, none⟩)]).alloc (.cells #[.string ⟨#[]⟩, .string ⟨#[]⟩, .nilIface, .slice none 0 0] 43))
  have HF := Lib.hid hf
  have HE0 := Lib.hid (he.frF hf)
  have hne := he.ne h
  have hbl := h.blk.lt
  unfold Thrown at *
  generalize readR rs p = rr at *
  clear h hf hq he hh hbd
  go_enter Tryz.func49, Tryz.ntmps49
  go_wp2_with fail
  refine HB.out.mono ?_
  rintro e w1 ⟨⟨k, rfl⟩, hs1, hf1⟩
  have hx1 := box_keep HX.out hbl hf1
  have x1 : w1.cell? ⟨w.heap.size, 0, none⟩ = some (.pointer (some ⟨b, 0, none⟩)) := hx1.cell 0
  have HPP := Lib.hid (HP.out w1 hs1)
  have HLL := Lib.hid (HLV.out w1 hs1 (HE0.out.fr hf1 hne))
  have HF1 := Lib.hid ((HF.out.mono (T := fun j => j = b) (fun _ _ h => h.elim)).trans' hf1)
  clear hx1 hs1 hf1
  go_wp2_with fail
  refine HPP.out.mono ?_
  rintro e w2 ⟨rfl, rfl⟩
  go_wp2_with fail
  refine HLL.out.mono ?_
  rintro e w3 ⟨rfl, hf3⟩
  go_wp2_with fail
  exact ⟨rfl, rfl, HF1.out.trans' hf3⟩

set_option maxRecDepth 100000 in
set_option maxHeartbeats 4000000 in
theorem pexpr1_bad (b c xb : Nat) (A : Option Addr) (rs : List Int) (w : World) (hh : Head (peekOf rs 0)) (hl : rs.length ≤ 1000) (hbd : (readR rs 0).2 ≠ 0) (h : Sc w b A c rs 0) (he : Es w) :
    Calls Tryz.prog 48 #[.agg #[.pointer (some ⟨b, 0, none⟩)], .pointer (some ⟨xb, 0, none⟩)] w fun e w' => Thrown (readR rs 0).1 (readR rs 0).2 e ∧ Fr (fun j => j = b) w w' := by
  have hf : Fr (fun _ => False) w (w.alloc (.cells #[.pointer (some ⟨b, 0, none⟩)] 108)) := (Fr.refl _ _).alloc _
  have HX := Lib.hid (expr_bad b c 0 A rs _ hh hl hbd (h.frF hf) (he.frF hf))
  have HF := Lib.hid hf
  unfold Thrown at *
  generalize readR rs 0 = rr at *
  clear h hf he hh hbd
  go_enter Tryz.func48, Tryz.ntmps48
  go_wp2_with fail
  refine HX.out.mono ?_
  rintro e w1 ⟨rfl, hf1⟩
  go_wp2_with fail
  exact ⟨rfl, rfl, (HF.out.mono (fun _ _ h => h.elim)).trans' hf1⟩

end Go.Proofs.YtebddgdkndmpjaaGreatDoor
