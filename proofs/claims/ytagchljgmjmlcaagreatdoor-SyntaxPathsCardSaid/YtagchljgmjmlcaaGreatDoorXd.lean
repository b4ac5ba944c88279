/- Literals, terms, maps of terms, the dictionary: walked. -/
import Derived.Test.YtagchljgmjmlcaaGreatDoorXc
import Derived.Deep.CutBlock
import Derived.Deep.RegionLawGrows
import Derived.Deep.Cut
import Derived.Deep.CutRange
import Derived.WalkKit
import Derived.WalkLawsBesides
import Derived.WalkSpells
import Derived.Deep.QuietTactic
import Derived.BigRegion
import Derived.BigQuiet
import Derived.Lib.Hide
import Derived.Outline
import Derived.Deep.AppendLies
import Derived.Deep.RegionLaw
import Derived.Deep.RegionWith
import Derived.Deep.RegionHeld3
import Derived.Deep.LoopGhost
import Derived.Deep.DeepFit
import Derived.Laws.ResultCell
import Derived.Laws.RangeAny
import Derived.Deep.MidRow
import Derived.StillTailTactics
import Derived.OpenShut
import Derived.Laws.StructEq
namespace Go.Proofs.YtagchljgmjmlcaaGreatDoor
set_option linter.unusedVariables false
open Go.RowKit Go

/-- Whether a literal may be. (Of texts that aren't too long.) -/
def litGood (a b c : ByteArray) : Bool := textFrom a 0 && (((b.toList == [104, 116, 116, 112, 58, 47, 47, 119, 119, 119, 46, 119, 51, 46, 111, 114, 103, 47, 49, 57, 57, 57, 47, 48, 50, 47, 50, 50, 45, 114, 100, 102, 45, 115, 121, 110, 116, 97, 120, 45, 110, 115, 35, 108, 97, 110, 103, 83, 116, 114, 105, 110, 103]) == !c.toList.isEmpty) && (iriGood b && (c.toList.isEmpty || langOf c)))

set_option maxRecDepth 100000 in
set_option maxHeartbeats 4000000 in
theorem literal_any (a b c : ByteArray) (w : World) (ha : a.size ≤ 4096) (hb : b.size ≤ 4096) (hc : c.size ≤ 4096) : Calls Tryz.prog 271 #[.agg #[.string a, .string b, .string c]] w (IsB (litGood a b c) w) := by
 have HLG := Lib.hid (show litGood a b c = (textFrom a 0 && (((b.toList == [104, 116, 116, 112, 58, 47, 47, 119, 119, 119, 46, 119, 51, 46, 111, 114, 103, 47, 49, 57, 57, 57, 47, 48, 50, 47, 50, 50, 45, 114, 100, 102, 45, 115, 121, 110, 116, 97, 120, 45, 110, 115, 35, 108, 97, 110, 103, 83, 116, 114, 105, 110, 103]) == !c.toList.isEmpty) && (iriGood b && (c.toList.isEmpty || langOf c)))) from rfl)
 generalize litGood a b c = lg at *
 have ha' : decide ((4096 : Int) < (a.size : Int)) = false := decide_eq_false (by omega)
 have HG := Lib.hid (fun w => good_any a w ha)
 have HI := Lib.hid (fun w => iri_any b w hb)
 have HL := Lib.hid (fun w => lang_any c w hc)
 generalize textFrom a 0 = tf at *
 generalize iriGood b = ig at *
 generalize langOf c = lo at *
 have F0 : Fr (fun _ => False) w (w.alloc (.cells #[.string a, .string b, .string c] 254)) := (Fr.refl _ _).alloc _
 have hbl := Blk.new w 254 #[.string a, .string b, .string c]
 have hq : ∃ q : Bool, (b.toList == [104, 116, 116, 112, 58, 47, 47, 119, 119, 119, 46, 119, 51, 46, 111, 114, 103, 47, 49, 57, 57, 57, 47, 48, 50, 47, 50, 50, 45, 114, 100, 102, 45, 115, 121, 110, 116, 97, 120, 45, 110, 115, 35, 108, 97, 110, 103, 83, 116, 114, 105, 110, 103]) = q := ⟨_, rfl⟩
 obtain ⟨q, hq⟩ := hq
 have he : ∃ e : Bool, c.toList.isEmpty = e := ⟨_, rfl⟩
 obtain ⟨e, he⟩ := he
 have HQ := Lib.hid hq
 have HE := Lib.hid he
 cases q with
 | false => cases e with
  | false =>
   go_enter Tryz.func271, Tryz.ntmps271
   go_wp2_with fail
   refine (HG.out _).mono ?_
   rintro e w1 ⟨rfl, hf1⟩
   have hb1 := hbl.fr hf1 (fun h => h)
   have c0 : w1.cell? ⟨w.heap.size, 0, none⟩ = some (.string a) := hb1.cell 0
   have c1 : w1.cell? ⟨w.heap.size, 1, none⟩ = some (.string b) := hb1.cell 1
   have c2 : w1.cell? ⟨w.heap.size, 2, none⟩ = some (.string c) := hb1.cell 2
   have HF1 := Lib.hid (F0.trans' hf1)
   have HB1 := Lib.hid hb1
   clear hf1 hb1 hbl F0
   cases tf with
   | false =>
    go_wp2_with fail
    go_ret
    exact IsB.of HF1.out (by rw [HLG.out]; rfl)
   | true =>
    go_wp2_with fail
    go_ret
    exact IsB.of HF1.out (by rw [HLG.out, HQ.out, HE.out]; rfl)
  | true =>
   go_enter Tryz.func271, Tryz.ntmps271
   go_wp2_with fail
   refine (HG.out _).mono ?_
   rintro e w1 ⟨rfl, hf1⟩
   have hb1 := hbl.fr hf1 (fun h => h)
   have c0 : w1.cell? ⟨w.heap.size, 0, none⟩ = some (.string a) := hb1.cell 0
   have c1 : w1.cell? ⟨w.heap.size, 1, none⟩ = some (.string b) := hb1.cell 1
   have c2 : w1.cell? ⟨w.heap.size, 2, none⟩ = some (.string c) := hb1.cell 2
   have HF1 := Lib.hid (F0.trans' hf1)
   have HB1 := Lib.hid hb1
   clear hf1 hb1 hbl F0
   cases tf with
   | false =>
    go_wp2_with fail
    go_ret
    exact IsB.of HF1.out (by rw [HLG.out]; rfl)
   | true =>
    go_wp2_with fail
    refine (HI.out _).mono ?_
    rintro e w2 ⟨rfl, hf2⟩
    have hb2 := HB1.out.fr hf2 (fun h => h)
    have c1' : w2.cell? ⟨w.heap.size, 1, none⟩ = some (.string b) := hb2.cell 1
    have c2' : w2.cell? ⟨w.heap.size, 2, none⟩ = some (.string c) := hb2.cell 2
    have HF2 := Lib.hid (HF1.out.trans' hf2)
    clear c0 c1 c2 hf2 hb2 HB1
    cases ig with
    | false =>
     go_wp2_with fail
     go_ret
     exact IsB.of HF2.out (by rw [HLG.out, HQ.out, HE.out]; rfl)
    | true =>
     go_wp2_with fail
     first
      | (go_ret
         exact IsB.of HF2.out (by rw [HLG.out, HQ.out, HE.out]; rfl))
      | (refine (HL.out _).mono ?_
         rintro e w3 ⟨rfl, hf3⟩
         have HF3 := Lib.hid (HF2.out.trans' hf3)
         clear hf3
         go_wp2_with fail
         go_ret
         exact IsB.of HF3.out (by rw [HLG.out, HQ.out, HE.out]; simp))
 | true => cases e with
  | false =>
   go_enter Tryz.func271, Tryz.ntmps271
   go_wp2_with fail
   refine (HG.out _).mono ?_
   rintro e w1 ⟨rfl, hf1⟩
   have hb1 := hbl.fr hf1 (fun h => h)
   have c0 : w1.cell? ⟨w.heap.size, 0, none⟩ = some (.string a) := hb1.cell 0
   have c1 : w1.cell? ⟨w.heap.size, 1, none⟩ = some (.string b) := hb1.cell 1
   have c2 : w1.cell? ⟨w.heap.size, 2, none⟩ = some (.string c) := hb1.cell 2
   have HF1 := Lib.hid (F0.trans' hf1)
   have HB1 := Lib.hid hb1
   clear hf1 hb1 hbl F0
   cases tf with
   | false =>
    go_wp2_with fail
    go_ret
    exact IsB.of HF1.out (by rw [HLG.out]; rfl)
   | true =>
    go_wp2_with fail
    refine (HI.out _).mono ?_
    rintro e w2 ⟨rfl, hf2⟩
    have hb2 := HB1.out.fr hf2 (fun h => h)
    have c1' : w2.cell? ⟨w.heap.size, 1, none⟩ = some (.string b) := hb2.cell 1
    have c2' : w2.cell? ⟨w.heap.size, 2, none⟩ = some (.string c) := hb2.cell 2
    have HF2 := Lib.hid (HF1.out.trans' hf2)
    clear c0 c1 c2 hf2 hb2 HB1
    cases ig with
    | false =>
     go_wp2_with fail
     go_ret
     exact IsB.of HF2.out (by rw [HLG.out, HQ.out, HE.out]; rfl)
    | true =>
     go_wp2_with fail
     first
      | (go_ret
         exact IsB.of HF2.out (by rw [HLG.out, HQ.out, HE.out]; rfl))
      | (refine (HL.out _).mono ?_
         rintro e w3 ⟨rfl, hf3⟩
         have HF3 := Lib.hid (HF2.out.trans' hf3)
         clear hf3
         go_wp2_with fail
         go_ret
         exact IsB.of HF3.out (by rw [HLG.out, HQ.out, HE.out]; simp))
  | true =>
   go_enter Tryz.func271, Tryz.ntmps271
   go_wp2_with fail
   refine (HG.out _).mono ?_
   rintro e w1 ⟨rfl, hf1⟩
   have hb1 := hbl.fr hf1 (fun h => h)
   have c0 : w1.cell? ⟨w.heap.size, 0, none⟩ = some (.string a) := hb1.cell 0
   have c1 : w1.cell? ⟨w.heap.size, 1, none⟩ = some (.string b) := hb1.cell 1
   have c2 : w1.cell? ⟨w.heap.size, 2, none⟩ = some (.string c) := hb1.cell 2
   have HF1 := Lib.hid (F0.trans' hf1)
   have HB1 := Lib.hid hb1
   clear hf1 hb1 hbl F0
   cases tf with
   | false =>
    go_wp2_with fail
    go_ret
    exact IsB.of HF1.out (by rw [HLG.out]; rfl)
   | true =>
    go_wp2_with fail
    go_ret
    exact IsB.of HF1.out (by rw [HLG.out, HQ.out, HE.out]; rfl)

/-- A term. -/
inductive Tm where
 | bla (a : ByteArray)
 | iri (a : ByteArray)
 | lit (a b c : ByteArray)
def Tm.val : Tm → Value
 | .bla a => .iface 248 (.agg #[.string a])
 | .iri a => .iface 164 (.agg #[.string a])
 | .lit a b c => .iface 254 (.agg #[.string a, .string b, .string c])
def Tm.kind : Tm → Int
 | .bla _ => 0
 | .iri _ => 1
 | .lit _ _ _ => 2
/-- Its texts aren't long. -/
def Tm.short : Tm → Prop
 | .bla a => a.size ≤ 4096
 | .iri a => a.size ≤ 4096
 | .lit a b c => a.size ≤ 4096 ∧ b.size ≤ 4096 ∧ c.size ≤ 4096

theorem as_bb (x : Value) (w : World) : (Instr.typeAssert (.iface 248 x) 57 248 true).run Tryz.prog w = .ok (.tuple #[x, .bool true]) w := by kernel_rfl
theorem as_ib (x : Value) (w : World) : (Instr.typeAssert (.iface 164 x) 57 248 true).run Tryz.prog w = .ok (.tuple #[.agg #[.string ⟨#[]⟩], .bool false]) w := by kernel_rfl
theorem as_lb (x : Value) (w : World) : (Instr.typeAssert (.iface 254 x) 57 248 true).run Tryz.prog w = .ok (.tuple #[.agg #[.string ⟨#[]⟩], .bool false]) w := by kernel_rfl
theorem as_ii (x : Value) (w : World) : (Instr.typeAssert (.iface 164 x) 57 164 true).run Tryz.prog w = .ok (.tuple #[x, .bool true]) w := by kernel_rfl
theorem as_li (x : Value) (w : World) : (Instr.typeAssert (.iface 254 x) 57 164 true).run Tryz.prog w = .ok (.tuple #[.agg #[.string ⟨#[]⟩], .bool false]) w := by kernel_rfl
theorem as_ll (x : Value) (w : World) : (Instr.typeAssert (.iface 254 x) 57 254 true).run Tryz.prog w = .ok (.tuple #[x, .bool true]) w := by kernel_rfl
theorem mt_b (x : Value) (w : World) : (method 457 248 x "Good").run Tryz.prog w = .ok (269, x) w := by kernel_rfl
theorem mt_i (x : Value) (w : World) : (method 457 164 x "Good").run Tryz.prog w = .ok (259, x) w := by kernel_rfl
theorem mt_l (x : Value) (w : World) : (method 457 254 x "Good").run Tryz.prog w = .ok (271, x) w := by kernel_rfl
attribute [local go_sem] as_bb as_ib as_lb as_ii as_li as_ll mt_b mt_i mt_l

theorem kind_any (t : Tm) (w : World) : Calls Tryz.prog 139 #[t.val] w fun e w' => e = .returned (.int .i64 t.kind) ∧ w = w' := by
 cases t with
 | bla a =>
  unfold Tm.val Tm.kind
  go_enter Tryz.func139, Tryz.ntmps139
  go_wp2_with fail
  go_ret
  exact ⟨rfl, rfl⟩
 | iri a =>
  unfold Tm.val Tm.kind
  go_enter Tryz.func139, Tryz.ntmps139
  go_wp2_with fail
  go_ret
  exact ⟨rfl, rfl⟩
 | lit a b c =>
  unfold Tm.val Tm.kind
  go_enter Tryz.func139, Tryz.ntmps139
  go_wp2_with fail
  go_ret
  exact ⟨rfl, rfl⟩

/-- Is a term good? (Of texts that aren't too long.) -/
def Tm.good : Tm → Bool
 | .bla a => blankGood a
 | .iri a => iriGood a
 | .lit a b c => litGood a b c

set_option maxRecDepth 100000 in
set_option maxHeartbeats 4000000 in
theorem tgood_any (t : Tm) (w : World) (hs : t.short) : Calls Tryz.prog 129 #[t.val] w (IsB t.good w) := by
 have HK := Lib.hid (fun w => kind_any t w)
 cases t with
 | bla a =>
  unfold Tm.val Tm.kind at HK
  unfold Tm.val Tm.good
  have HB := Lib.hid (fun w => blank_any a w hs)
  clear hs
  go_enter Tryz.func129, Tryz.ntmps129
  go_wp2_with fail
  refine (HK.out _).mono ?_
  rintro e w1 ⟨rfl, rfl⟩
  go_wp2_with fail
  refine (HB.out _).mono ?_
  rintro e w1 ⟨rfl, hf⟩
  go_wp2_with fail
  go_ret
  exact IsB.mk hf
 | iri a =>
  unfold Tm.val Tm.kind at HK
  unfold Tm.val Tm.good
  have HB := Lib.hid (fun w => iri_any a w hs)
  clear hs
  go_enter Tryz.func129, Tryz.ntmps129
  go_wp2_with fail
  refine (HK.out _).mono ?_
  rintro e w1 ⟨rfl, rfl⟩
  go_wp2_with fail
  refine (HB.out _).mono ?_
  rintro e w1 ⟨rfl, hf⟩
  go_wp2_with fail
  go_ret
  exact IsB.mk hf
 | lit a b c =>
  unfold Tm.val Tm.kind at HK
  unfold Tm.val Tm.good
  obtain ⟨h1, h2, h3⟩ := hs
  have HB := Lib.hid (fun w => literal_any a b c w h1 h2 h3)
  clear h1 h2 h3
  go_enter Tryz.func129, Tryz.ntmps129
  go_wp2_with fail
  refine (HK.out _).mono ?_
  rintro e w1 ⟨rfl, rfl⟩
  go_wp2_with fail
  refine (HB.out _).mono ?_
  rintro e w1 ⟨rfl, hf⟩
  go_wp2_with fail
  go_ret
  exact IsB.mk hf

theorem bytes_inj {a b : ByteArray} : a.toList = b.toList ↔ a = b := by
 constructor
 · intro h
   have := beq_toListBytes a b
   rw [h] at this
   have h2 : (a.data == b.data) = true := by
    have h3 : (a == b) = true := by rw [this]; simp
    exact h3
   exact ByteArray.ext (eq_of_beq h2)
 · rintro rfl; rfl

open Classical in
theorem row_shape {w : World} {B : Nat} {e : TypeId} {size n : Nat} {v : Value} {xs : List Value} (h : w.ownsRow B e size v n xs) : ∃ A c, v = .slice A n c := by
 rcases h.2 with ⟨h1, h2⟩ | ⟨g, cap, cur, h1, _⟩
 · exact ⟨none, 0, by rw [h1, h2]⟩
 · exact ⟨_, _, h1⟩

end Go.Proofs.YtagchljgmjmlcaaGreatDoor
