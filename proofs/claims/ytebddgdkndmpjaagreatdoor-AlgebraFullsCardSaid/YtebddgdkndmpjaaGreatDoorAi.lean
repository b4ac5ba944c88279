/- A literal's value; BIND of a literal: walked. -/
import Derived.Test.YtebddgdkndmpjaaGreatDoorAd
import Derived.Deep.CutBlock
import Derived.Deep.RegionLawGrows
import Derived.Deep.Cut
import Derived.Deep.CutRange
import Derived.WalkKit
import Derived.WalkLawsBesides
import Derived.WalkSpells
import Derived.Deep.QuietTactic
import Derived.BigRegion
import Derived.BigQuiet
import Derived.Lib.Hide
import Derived.Outline
import Derived.Deep.AppendLies
import Derived.Deep.RegionLaw
import Derived.Deep.RegionWith
import Derived.Deep.RegionHeld3
import Derived.Deep.LoopGhost
import Derived.Deep.DeepFit
import Derived.Laws.ResultCell
import Derived.Laws.RangeAny
import Derived.Deep.MidRow
import Derived.StillTailTactics
import Derived.OpenShut
namespace Go.Proofs.YtebddgdkndmpjaaGreatDoor
set_option linter.unusedVariables false
open Go.RowKit Go

/-- A literal as an expression. -/
def litE (t : Tm) : Value := .agg #[.string ⟨#[]⟩, .string ⟨#[]⟩, t.val, .slice none 0 0]

set_option maxRecDepth 100000 in
set_option maxHeartbeats 4000000 in
theorem evalLit_any (t : Tm) (env : Value) (w : World) : Calls Tryz.prog 198 #[litE t, env] w fun e w' => e = .returned (.tuple #[t.val, .int .i64 0]) ∧ Fr (fun _ => False) w w' := by
  obtain ⟨d0, x0, hsh⟩ := Tm.shape t
  have hne : ∀ w, (binOp .neq 35 (.iface d0 x0) .nilIface).run Tryz.prog w = .ok (.bool true) w := fun w => rfl
  unfold litE
  rw [hsh]
  clear hsh
  go_enter Tryz.func198, Tryz.ntmps198
  go_wp2_with fail
  go_ret2
  exact ⟨rfl, (Fr.refl _ _).alloc _⟩

/-- The evaluation's data: a dictionary, a store; the error so far. -/
def EvBlk (w : World) (vb b : Nat) (sp : Option Addr) (e : Int) : Prop := Blk w vb 163 #[.pointer (some ⟨b, 0, none⟩), .pointer sp, .map none, .int .i64 e]

set_option maxRecDepth 100000 in
set_option maxHeartbeats 4000000 in
theorem fail_any (vb b : Nat) (sp : Option Addr) (e : Int) (w : World) (hb : EvBlk w vb b sp 0) :
    Calls Tryz.prog 194 #[.pointer (some ⟨vb, 0, none⟩), .int .i64 e] w fun x w' => x = .returned (.tuple #[]) ∧ EvBlk w' vb b sp e ∧ Fr (fun j => j = vb) w w' := by
  have c3 : w.cell? ⟨vb, 3, none⟩ = some (.int .i64 0) := hb.cell 3
  have f3 := Blk.frozen hb 3
  have hlt := Blk.lt hb
  have HB := Lib.hid (Blk.set_ hb 3 (.int .i64 e))
  have HF := Lib.hid ((Fr.refl (fun j => j = vb) w).setCell ⟨vb, 3, none⟩ (fun _ => rfl) (.int .i64 e))
  clear hb
  go_enter Tryz.func194, Tryz.ntmps194
  go_wp2_with fail
  go_end0
  exact ⟨rfl, HB.out, HF.out⟩

/-- What BIND of the k-th literal does. -/
def BindPost (w : World) (vb b r B : Nat) (sp : Option Addr) (vt : Value) (k : Nat) (room : Int) (x : Ending) (w' : World) : Prop :=
  ∃ (vt' : Value) (n e : Int) (l : List Tm), x = .returned (.int .i64 n) ∧ EvBlk w' vb b sp e ∧ IsDict w' B b r vt' l room ∧ Fr (fun j => j = vb ∨ j = b ∨ j = r ∨ vt.ownBlock = some j) w w' ∧
    (((k : Int) < room ∧ n = k ∧ e = 0 ∧ l = smalls (k + 1)) ∨ (room ≤ (k : Int) ∧ n = -1 ∧ e = 6 ∧ l = smalls k))

theorem ev_ne {w : World} {vb b r B : Nat} {sp : Option Addr} {e : Int} {vt : Value} {ts : List Tm} {room : Int} (h : EvBlk w vb b sp e) (hd : IsDict w B b r vt ts room) : ¬ (vb = b ∨ vb = r ∨ vt.ownBlock = some vb) := by
  intro h1
  rcases h1 with h1 | h1 | h1
  · exact Blk.ne_ h hd.blk (by decide) h1
  · exact hd.map.ne_blk h h1
  · exact own_blk_ne hd.row h (by decide) h1

set_option maxRecDepth 100000 in
set_option maxHeartbeats 4000000 in
theorem bind_any (vb b r B k m vc n c q rc : Nat) (sp V A R : Option Addr) (vt : Value) (room : Int) (w : World) (hk : k < 10) (hb : EvBlk w vb b sp 0) (hd : IsDict w B b r vt (smalls k) room) (hB : B ≤ w.heap.size) :
    Calls Tryz.prog 192 #[.pointer (some ⟨vb, 0, none⟩), litE (smallTm k), .agg #[.slice V m vc, .slice A n c], .slice R q rc] w (BindPost w vb b r B sp vt k room) := by
  have HEV := Lib.hid (fun env w => evalLit_any (smallTm k) env w)
  have HEN := Lib.hid (fun d w => env_any d V A R m vc n c q rc w)
  have HPU := Lib.hid (fun wy (hf : Fr (fun _ => False) w wy) => put_any wy B b r vt (smalls k) room (smallTm k) (hd.frF hf) (small_short k hk) (by rw [smalls_len]; omega) (Nat.le_trans hB hf.size))
  have HNE := Lib.hid (ev_ne hb hd)
  have HB := Lib.hid hb
  have HD := Lib.hid hd
  have c0 : w.cell? ⟨vb, 0, none⟩ = some (.pointer (some ⟨b, 0, none⟩)) := hb.cell 0
  have hlt := Blk.lt hb
  clear hb hd
  have F0 : Fr (fun _ => False) w (((w.alloc (.cells #[.string ⟨#[]⟩, .string ⟨#[]⟩, (smallTm k).val, .slice none 0 0] 43)).alloc (.cells #[.slice V m vc, .slice A n c] 63)).drew) := (((Fr.refl _ w).alloc _).alloc _).drew
  unfold litE at HEV ⊢
  obtain ⟨d0, x0, hsh⟩ := Tm.shape (smallTm k)
  rw [hsh] at HEV HPU F0 ⊢
  have B43 := ((Blk.new w 43 #[.string ⟨#[]⟩, .string ⟨#[]⟩, .iface d0 x0, .slice none 0 0]).alloc (.cells #[.slice V m vc, .slice A n c] 63)).drew
  have B63 := (Blk.new (w.alloc (.cells #[.string ⟨#[]⟩, .string ⟨#[]⟩, .iface d0 x0, .slice none 0 0] 43)) 63 #[.slice V m vc, .slice A n c]).drew
  rw [show (w.alloc (.cells #[.string ⟨#[]⟩, .string ⟨#[]⟩, .iface d0 x0, .slice none 0 0] 43)).heap.size = w.heap.size + 1 by simp] at B63
  have HCK := Lib.hid (fun wy (hf : Fr (fun _ => False) w wy) (h1 : Blk wy w.heap.size 43 #[.string ⟨#[]⟩, .string ⟨#[]⟩, .iface d0 x0, .slice none 0 0]) (h2 : Blk wy (w.heap.size + 1) 63 #[.slice V m vc, .slice A n c]) => show (wy.cell? ⟨w.heap.size, 0, none⟩ = some (.string ⟨#[]⟩) ∧ wy.cell? ⟨w.heap.size, 1, none⟩ = some (.string ⟨#[]⟩) ∧ wy.cell? ⟨w.heap.size, 2, none⟩ = some (.iface d0 x0) ∧ wy.cell? ⟨w.heap.size, 3, none⟩ = some (.slice none 0 0) ∧ wy.cell? ⟨w.heap.size + 1, 0, none⟩ = some (.slice V m vc) ∧ wy.cell? ⟨w.heap.size + 1, 1, none⟩ = some (.slice A n c) ∧ wy.cell? ⟨vb, 0, none⟩ = some (.pointer (some ⟨b, 0, none⟩))) from ⟨h1.cell 0, h1.cell 1, h1.cell 2, h1.cell 3, h2.cell 0, h2.cell 1, cell_fr hf c0⟩)
  go_enter Tryz.func192, Tryz.ntmps192
  go_wp2_with fail
  go_region_held3 (fun wy => wy.cell? ⟨w.heap.size, 0, none⟩ = some (.string ⟨#[]⟩) ∧ wy.cell? ⟨w.heap.size, 1, none⟩ = some (.string ⟨#[]⟩) ∧ wy.cell? ⟨w.heap.size, 2, none⟩ = some (.iface d0 x0) ∧ wy.cell? ⟨w.heap.size, 3, none⟩ = some (.slice none 0 0) ∧ wy.cell? ⟨w.heap.size + 1, 0, none⟩ = some (.slice V m vc) ∧ wy.cell? ⟨w.heap.size + 1, 1, none⟩ = some (.slice A n c) ∧ wy.cell? ⟨vb, 0, none⟩ = some (.pointer (some ⟨b, 0, none⟩)))
    (first | exact HCK.out _ F2 P2 Q2 | exact HCK.out _ F1 P1 Q1 | exact HCK.out _ F0 B43 B63)
    (first
      | (go_at_call 37; refine (HEN.out _ _).mono ?_; rintro e w1 ⟨rfl, rfl⟩; have F1 := (((F0.alloc (.cells #[.pointer (some ⟨b, 0, none⟩)] 60)).alloc (.cells #[.slice V m vc, .slice A n c] 63)).alloc (.cells #[.slice R q rc] 48)); have P1 := (((B43.alloc (.cells #[.pointer (some ⟨b, 0, none⟩)] 60)).alloc (.cells #[.slice V m vc, .slice A n c] 63)).alloc (.cells #[.slice R q rc] 48)); have Q1 := (((B63.alloc (.cells #[.pointer (some ⟨b, 0, none⟩)] 60)).alloc (.cells #[.slice V m vc, .slice A n c] 63)).alloc (.cells #[.slice R q rc] 48)))
      | (go_at_call 198; refine (HEV.out _ _).mono ?_; rintro e w2 ⟨rfl, hf2⟩; have F2 := F1.trans' hf2; have P2 := P1.fr hf2 (fun h => h); have Q2 := Q1.fr hf2 (fun h => h)))
  all_goals
    have c2 := cell_fr F2 c0
    have hlt2 : vb < w2.heap.size := Nat.lt_of_lt_of_le hlt F2.size
    have HF2 := Lib.hid F2
    have HP2 := Lib.hid (HPU.out w2 F2)
    clear F2 P2 Q2 F1 P1 Q1 hf2
    by_cases hr : room ≤ (k : Int)
    · obtain ⟨e1, e2, e3⟩ := smalls_full k room hk hr
      rw [e1, e2, e3] at HP2
      go_wp2_with fail
      refine HP2.out.mono ?_
      rintro e w3 ⟨vt3, rfl, hd3, hf3, _⟩
      have hev3 : EvBlk w3 vb b sp 0 := (Blk.fr HB.out HF2.out (fun h => h)).fr hf3 (fun h => HNE.out (by rcases h with h | h | h; exact .inl h; exact .inr (.inl h); exact .inr (.inr h)))
      have HFA := Lib.hid (fun e => fail_any vb b sp e w3 hev3)
      have hne3 := ev_ne hev3 hd3
      have HD3 := Lib.hid hd3
      have HF3 := Lib.hid (show Fr (fun j => j = vb ∨ j = b ∨ j = r ∨ vt.ownBlock = some j) w w3 from (HF2.out.mono (fun _ _ h => h.elim)).trans hf3 (fun _ _ h => .inr h))
      have HN3 := Lib.hid hne3
      clear hd3 hf3 hev3 hne3
      go_wp2_with fail
      refine (HFA.out _).mono ?_
      rintro e w4 ⟨rfl, hev4, hf4⟩
      have HEV4 := Lib.hid hev4
      have HD4 := Lib.hid (HD3.out.fr hf4 (fun h => HN3.out (.inl h.symm)) (fun h => HN3.out (.inr (.inl h.symm))) (fun j hj h => HN3.out (.inr (.inr (by rw [hj, h])))))
      have HF4 := Lib.hid (HF3.out.trans hf4 (fun _ _ h => .inl h))
      clear hev4 hf4
      go_wp2_with fail
      go_ret
      exact ⟨vt3, -1, 6, _, rfl, HEV4.out, HD4.out, HF4.out, .inr ⟨hr, rfl, rfl, rfl⟩⟩
    · obtain ⟨e1, e2, e3⟩ := smalls_put k room hk (by omega)
      rw [e1, e2, e3] at HP2
      go_wp2_with fail
      refine HP2.out.mono ?_
      rintro e w3 ⟨vt3, rfl, hd3, hf3, _⟩
      have hev3 : EvBlk w3 vb b sp 0 := (Blk.fr HB.out HF2.out (fun h => h)).fr hf3 (fun h => HNE.out (by rcases h with h | h | h; exact .inl h; exact .inr (.inl h); exact .inr (.inr h)))
      have HEV3 := Lib.hid hev3
      have HD3 := Lib.hid hd3
      have HF3 := Lib.hid (show Fr (fun j => j = vb ∨ j = b ∨ j = r ∨ vt.ownBlock = some j) w w3 from (HF2.out.mono (fun _ _ h => h.elim)).trans hf3 (fun _ _ h => .inr h))
      clear hd3 hf3 hev3
      go_wp2_with fail
      go_ret
      exact ⟨vt3, k, 0, _, rfl, HEV3.out, HD3.out, HF3.out, .inl ⟨by omega, rfl, rfl, rfl⟩⟩

/-- The k-th item, cell by cell. -/
def litItem (k : Nat) : Array Value := #[.int .i64 2, .string ⟨#[]⟩, .nilIface, .string ⟨#[]⟩, .nilIface, .string ⟨#[]⟩, .nilIface, .int .i64 0, .string ⟨#[]⟩, .slice none 0 0, .string ⟨#[]⟩, .string ⟨#[]⟩, (smallTm k).val, .slice none 0 0, .string (letters.getD k ByteArray.empty), .string ⟨#[]⟩, .slice none 0 0]

theorem BindPost.back {w w1 : World} {vb b r B k : Nat} {sp : Option Addr} {vt : Value} {room : Int} {x : Ending} {w' : World} (hf : Fr (fun _ => False) w w1) (h : BindPost w1 vb b r B sp vt k room x w') : BindPost w vb b r B sp vt k room x w' := by
  obtain ⟨vt', n, e, l, h1, h2, h3, h4, h5⟩ := h
  exact ⟨vt', n, e, l, h1, h2, h3, (hf.mono (fun _ _ h => h.elim)).trans h4 (fun _ _ h => h), h5⟩

set_option maxRecDepth 100000 in
set_option maxHeartbeats 4000000 in
theorem item1_any (vx xb vb b r B k m vc n c q rc : Nat) (sp V A R : Option Addr) (vt : Value) (room : Int) (w : World) (hk : k < 10) (hb : EvBlk w vb b sp 0) (hd : IsDict w B b r vt (smalls k) room) (hB : B ≤ w.heap.size)
    (hvx : Blk w vx 161 #[.pointer (some ⟨vb, 0, none⟩)]) (hxb : Blk w xb 46 (litItem k)) :
    Calls Tryz.prog 191 #[.agg #[.slice V m vc, .slice A n c], .slice R q rc, .pointer (some ⟨vx, 0, none⟩), .pointer (some ⟨xb, 0, none⟩)] w (BindPost w vb b r B sp vt k room) := by
  have hF : Fr (fun _ => False) w (w.alloc (.cells #[.slice V m vc, .slice A n c] 63)) := (Fr.refl _ w).alloc _
  have HBI := Lib.hid (bind_any vb b r B k m vc n c q rc sp V A R vt room _ hk (hb.fr hF (fun h => h)) (hd.frF hF) (Nat.le_trans hB hF.size))
  have v0 : w.cell? ⟨vx, 0, none⟩ = some (.pointer (some ⟨vb, 0, none⟩)) := hvx.cell 0
  have x0 : w.cell? ⟨xb, 10, none⟩ = some (.string ⟨#[]⟩) := hxb.cell 10
  have x1 : w.cell? ⟨xb, 11, none⟩ = some (.string ⟨#[]⟩) := hxb.cell 11
  have x2 : w.cell? ⟨xb, 12, none⟩ = some (smallTm k).val := hxb.cell 12
  have x3 : w.cell? ⟨xb, 13, none⟩ = some (.slice none 0 0) := hxb.cell 13
  have hl1 := hvx.lt
  have hl2 := hxb.lt
  clear hb hd hvx hxb
  unfold litE at HBI
  obtain ⟨d0, x9, hsh⟩ := Tm.shape (smallTm k)
  rw [hsh] at HBI x2
  go_enter Tryz.func191, Tryz.ntmps191
  go_wp2_with fail
  refine HBI.out.mono ?_
  intro e w1 hp
  have HP := Lib.hid (hp.back hF)
  obtain ⟨vt', nn, ee, l, rfl, _⟩ := hp
  go_wp2_with fail
  go_ret
  exact HP.out

end Go.Proofs.YtebddgdkndmpjaaGreatDoor
