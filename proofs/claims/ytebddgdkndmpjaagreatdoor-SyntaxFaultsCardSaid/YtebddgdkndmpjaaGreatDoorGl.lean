/- Literals, terms, maps of terms, the dictionary: walked. -/
import Derived.Test.YtebddgdkndmpjaaGreatDoorGg
import Derived.Deep.CutBlock
import Derived.Deep.RegionLawGrows
import Derived.Deep.Cut
import Derived.Deep.CutRange
import Derived.WalkKit
import Derived.WalkLawsBesides
import Derived.WalkSpells
import Derived.Deep.QuietTactic
import Derived.BigRegion
import Derived.BigQuiet
import Derived.Lib.Hide
import Derived.Outline
import Derived.Deep.AppendLies
import Derived.Deep.RegionLaw
import Derived.Deep.RegionWith
import Derived.Deep.RegionHeld3
import Derived.Deep.LoopGhost
import Derived.Deep.DeepFit
import Derived.Laws.ResultCell
import Derived.Laws.RangeAny
import Derived.Deep.MidRow
import Derived.StillTailTactics
import Derived.OpenShut
import Derived.Laws.StructEq
namespace Go.Proofs.YtebddgdkndmpjaaGreatDoor
set_option linter.unusedVariables false
open Go.RowKit Go

/-- Whether a literal may be. (Of texts that aren't too long.) -/
def litGood (a b c : ByteArray) : Bool := textFrom a 0 && (((b.toList == [104, 116, 116, 112, 58, 47, 47, 119, 119, 119, 46, 119, 51, 46, 111, 114, 103, 47, 49, 57, 57, 57, 47, 48, 50, 47, 50, 50, 45, 114, 100, 102, 45, 115, 121, 110, 116, 97, 120, 45, 110, 115, 35, 108, 97, 110, 103, 83, 116, 114, 105, 110, 103]) == !c.toList.isEmpty) && (iriGood b && (c.toList.isEmpty || langOf c)))

set_option maxRecDepth 100000 in
set_option maxHeartbeats 4000000 in
theorem literal_any (a b c : ByteArray) (w : World) (ha : a.size ≤ 4096) (hb : b.size ≤ 4096) (hc : c.size ≤ 4096) : Calls Tryz.prog 414 #[.agg #[.string a, .string b, .string c]] w (IsB (litGood a b c) w) := by
  have HLG := Lib.hid (show litGood a b c = (textFrom a 0 && (((b.toList == [104, 116, 116, 112, 58, 47, 47, 119, 119, 119, 46, 119, 51, 46, 111, 114, 103, 47, 49, 57, 57, 57, 47, 48, 50, 47, 50, 50, 45, 114, 100, 102, 45, 115, 121, 110, 116, 97, 120, 45, 110, 115, 35, 108, 97, 110, 103, 83, 116, 114, 105, 110, 103]) == !c.toList.isEmpty) && (iriGood b && (c.toList.isEmpty || langOf c)))) from rfl)
  generalize litGood a b c = lg at *
  have ha' : decide ((4096 : Int) < (a.size : Int)) = false := decide_eq_false (by omega)
  have HG := Lib.hid (fun w => good_any a w ha)
  have HI := Lib.hid (fun w => iri_any b w hb)
  have HL := Lib.hid (fun w => lang_any c w hc)
  generalize textFrom a 0 = tf at *
  generalize iriGood b = ig at *
  generalize langOf c = lo at *
  have F0 : Fr (fun _ => False) w (w.alloc (.cells #[.string a, .string b, .string c] 78)) := (Fr.refl _ _).alloc _
  have hbl := Blk.new w 78 #[.string a, .string b, .string c]
  have hq : ∃ q : Bool, (b.toList == [104, 116, 116, 112, 58, 47, 47, 119, 119, 119, 46, 119, 51, 46, 111, 114, 103, 47, 49, 57, 57, 57, 47, 48, 50, 47, 50, 50, 45, 114, 100, 102, 45, 115, 121, 110, 116, 97, 120, 45, 110, 115, 35, 108, 97, 110, 103, 83, 116, 114, 105, 110, 103]) = q := ⟨_, rfl⟩
  obtain ⟨q, hq⟩ := hq
  have he : ∃ e : Bool, c.toList.isEmpty = e := ⟨_, rfl⟩
  obtain ⟨e, he⟩ := he
  have HQ := Lib.hid hq
  have HE := Lib.hid he
  cases q with
  | false => cases e with
    | false =>
      go_enter Tryz.func414, Tryz.ntmps414
      go_wp2_with fail
      refine (HG.out _).mono ?_
      rintro e w1 ⟨rfl, hf1⟩
      have hb1 := hbl.fr hf1 (fun h => h)
      have c0 : w1.cell? ⟨w.heap.size, 0, none⟩ = some (.string a) := hb1.cell 0
      have c1 : w1.cell? ⟨w.heap.size, 1, none⟩ = some (.string b) := hb1.cell 1
      have c2 : w1.cell? ⟨w.heap.size, 2, none⟩ = some (.string c) := hb1.cell 2
      have HF1 := Lib.hid (F0.trans' hf1)
      have HB1 := Lib.hid hb1
      clear hf1 hb1 hbl F0
      cases tf with
      | false =>
        go_wp2_with fail
        go_ret
        exact IsB.of HF1.out (by rw [HLG.out]; rfl)
      | true =>
        go_wp2_with fail
        go_ret
        exact IsB.of HF1.out (by rw [HLG.out, HQ.out, HE.out]; rfl)
    | true =>
      go_enter Tryz.func414, Tryz.ntmps414
      go_wp2_with fail
      refine (HG.out _).mono ?_
      rintro e w1 ⟨rfl, hf1⟩
      have hb1 := hbl.fr hf1 (fun h => h)
      have c0 : w1.cell? ⟨w.heap.size, 0, none⟩ = some (.string a) := hb1.cell 0
      have c1 : w1.cell? ⟨w.heap.size, 1, none⟩ = some (.string b) := hb1.cell 1
      have c2 : w1.cell? ⟨w.heap.size, 2, none⟩ = some (.string c) := hb1.cell 2
      have HF1 := Lib.hid (F0.trans' hf1)
      have HB1 := Lib.hid hb1
      clear hf1 hb1 hbl F0
      cases tf with
      | false =>
        go_wp2_with fail
        go_ret
        exact IsB.of HF1.out (by rw [HLG.out]; rfl)
      | true =>
        go_wp2_with fail
        refine (HI.out _).mono ?_
        rintro e w2 ⟨rfl, hf2⟩
        have hb2 := HB1.out.fr hf2 (fun h => h)
        have c1' : w2.cell? ⟨w.heap.size, 1, none⟩ = some (.string b) := hb2.cell 1
        have c2' : w2.cell? ⟨w.heap.size, 2, none⟩ = some (.string c) := hb2.cell 2
        have HF2 := Lib.hid (HF1.out.trans' hf2)
        clear c0 c1 c2 hf2 hb2 HB1
        cases ig with
        | false =>
          go_wp2_with fail
          go_ret
          exact IsB.of HF2.out (by rw [HLG.out, HQ.out, HE.out]; rfl)
        | true =>
          go_wp2_with fail
          first
            | (go_ret
               exact IsB.of HF2.out (by rw [HLG.out, HQ.out, HE.out]; rfl))
            | (refine (HL.out _).mono ?_
               rintro e w3 ⟨rfl, hf3⟩
               have HF3 := Lib.hid (HF2.out.trans' hf3)
               clear hf3
               go_wp2_with fail
               go_ret
               exact IsB.of HF3.out (by rw [HLG.out, HQ.out, HE.out]; simp))
  | true => cases e with
    | false =>
      go_enter Tryz.func414, Tryz.ntmps414
      go_wp2_with fail
      refine (HG.out _).mono ?_
      rintro e w1 ⟨rfl, hf1⟩
      have hb1 := hbl.fr hf1 (fun h => h)
      have c0 : w1.cell? ⟨w.heap.size, 0, none⟩ = some (.string a) := hb1.cell 0
      have c1 : w1.cell? ⟨w.heap.size, 1, none⟩ = some (.string b) := hb1.cell 1
      have c2 : w1.cell? ⟨w.heap.size, 2, none⟩ = some (.string c) := hb1.cell 2
      have HF1 := Lib.hid (F0.trans' hf1)
      have HB1 := Lib.hid hb1
      clear hf1 hb1 hbl F0
      cases tf with
      | false =>
        go_wp2_with fail
        go_ret
        exact IsB.of HF1.out (by rw [HLG.out]; rfl)
      | true =>
        go_wp2_with fail
        refine (HI.out _).mono ?_
        rintro e w2 ⟨rfl, hf2⟩
        have hb2 := HB1.out.fr hf2 (fun h => h)
        have c1' : w2.cell? ⟨w.heap.size, 1, none⟩ = some (.string b) := hb2.cell 1
        have c2' : w2.cell? ⟨w.heap.size, 2, none⟩ = some (.string c) := hb2.cell 2
        have HF2 := Lib.hid (HF1.out.trans' hf2)
        clear c0 c1 c2 hf2 hb2 HB1
        cases ig with
        | false =>
          go_wp2_with fail
          go_ret
          exact IsB.of HF2.out (by rw [HLG.out, HQ.out, HE.out]; rfl)
        | true =>
          go_wp2_with fail
          first
            | (go_ret
               exact IsB.of HF2.out (by rw [HLG.out, HQ.out, HE.out]; rfl))
            | (refine (HL.out _).mono ?_
               rintro e w3 ⟨rfl, hf3⟩
               have HF3 := Lib.hid (HF2.out.trans' hf3)
               clear hf3
               go_wp2_with fail
               go_ret
               exact IsB.of HF3.out (by rw [HLG.out, HQ.out, HE.out]; simp))
    | true =>
      go_enter Tryz.func414, Tryz.ntmps414
      go_wp2_with fail
      refine (HG.out _).mono ?_
      rintro e w1 ⟨rfl, hf1⟩
      have hb1 := hbl.fr hf1 (fun h => h)
      have c0 : w1.cell? ⟨w.heap.size, 0, none⟩ = some (.string a) := hb1.cell 0
      have c1 : w1.cell? ⟨w.heap.size, 1, none⟩ = some (.string b) := hb1.cell 1
      have c2 : w1.cell? ⟨w.heap.size, 2, none⟩ = some (.string c) := hb1.cell 2
      have HF1 := Lib.hid (F0.trans' hf1)
      have HB1 := Lib.hid hb1
      clear hf1 hb1 hbl F0
      cases tf with
      | false =>
        go_wp2_with fail
        go_ret
        exact IsB.of HF1.out (by rw [HLG.out]; rfl)
      | true =>
        go_wp2_with fail
        go_ret
        exact IsB.of HF1.out (by rw [HLG.out, HQ.out, HE.out]; rfl)

/-- A term. -/
inductive Tm where
  | bla (a : ByteArray)
  | iri (a : ByteArray)
  | lit (a b c : ByteArray)
def Tm.val : Tm → Value
  | .bla a => .iface 196 (.agg #[.string a])
  | .iri a => .iface 198 (.agg #[.string a])
  | .lit a b c => .iface 78 (.agg #[.string a, .string b, .string c])
def Tm.kind : Tm → Int
  | .bla _ => 0
  | .iri _ => 1
  | .lit _ _ _ => 2
/-- Its texts aren't long. -/
def Tm.short : Tm → Prop
  | .bla a => a.size ≤ 4096
  | .iri a => a.size ≤ 4096
  | .lit a b c => a.size ≤ 4096 ∧ b.size ≤ 4096 ∧ c.size ≤ 4096

theorem as_bb (x : Value) (w : World) : (Instr.typeAssert (.iface 196 x) 35 196 true).run Tryz.prog w = .ok (.tuple #[x, .bool true]) w := by kernel_rfl
theorem as_ib (x : Value) (w : World) : (Instr.typeAssert (.iface 198 x) 35 196 true).run Tryz.prog w = .ok (.tuple #[.agg #[.string ⟨#[]⟩], .bool false]) w := by kernel_rfl
theorem as_lb (x : Value) (w : World) : (Instr.typeAssert (.iface 78 x) 35 196 true).run Tryz.prog w = .ok (.tuple #[.agg #[.string ⟨#[]⟩], .bool false]) w := by kernel_rfl
theorem as_ii (x : Value) (w : World) : (Instr.typeAssert (.iface 198 x) 35 198 true).run Tryz.prog w = .ok (.tuple #[x, .bool true]) w := by kernel_rfl
theorem as_li (x : Value) (w : World) : (Instr.typeAssert (.iface 78 x) 35 198 true).run Tryz.prog w = .ok (.tuple #[.agg #[.string ⟨#[]⟩], .bool false]) w := by kernel_rfl
theorem as_ll (x : Value) (w : World) : (Instr.typeAssert (.iface 78 x) 35 78 true).run Tryz.prog w = .ok (.tuple #[x, .bool true]) w := by kernel_rfl
theorem mt_b (x : Value) (w : World) : (method 609 196 x "Good").run Tryz.prog w = .ok (433, x) w := by kernel_rfl
theorem mt_i (x : Value) (w : World) : (method 609 198 x "Good").run Tryz.prog w = .ok (416, x) w := by kernel_rfl
theorem mt_l (x : Value) (w : World) : (method 609 78 x "Good").run Tryz.prog w = .ok (414, x) w := by kernel_rfl
attribute [local go_sem] as_bb as_ib as_lb as_ii as_li as_ll mt_b mt_i mt_l

theorem kind_any (t : Tm) (w : World) : Calls Tryz.prog 84 #[t.val] w fun e w' => e = .returned (.int .i64 t.kind) ∧ w = w' := by
  cases t with
  | bla a =>
    unfold Tm.val Tm.kind
    go_enter Tryz.func84, Tryz.ntmps84
    go_wp2_with fail
    go_ret
    exact ⟨rfl, rfl⟩
  | iri a =>
    unfold Tm.val Tm.kind
    go_enter Tryz.func84, Tryz.ntmps84
    go_wp2_with fail
    go_ret
    exact ⟨rfl, rfl⟩
  | lit a b c =>
    unfold Tm.val Tm.kind
    go_enter Tryz.func84, Tryz.ntmps84
    go_wp2_with fail
    go_ret
    exact ⟨rfl, rfl⟩

/-- Is a term good? (Of texts that aren't too long.) -/
def Tm.good : Tm → Bool
  | .bla a => blankGood a
  | .iri a => iriGood a
  | .lit a b c => litGood a b c

set_option maxRecDepth 100000 in
set_option maxHeartbeats 4000000 in
theorem tgood_any (t : Tm) (w : World) (hs : t.short) : Calls Tryz.prog 72 #[t.val] w (IsB t.good w) := by
  have HK := Lib.hid (fun w => kind_any t w)
  cases t with
  | bla a =>
    unfold Tm.val Tm.kind at HK
    unfold Tm.val Tm.good
    have HB := Lib.hid (fun w => blank_any a w hs)
    clear hs
    go_enter Tryz.func72, Tryz.ntmps72
    go_wp2_with fail
    refine (HK.out _).mono ?_
    rintro e w1 ⟨rfl, rfl⟩
    go_wp2_with fail
    refine (HB.out _).mono ?_
    rintro e w1 ⟨rfl, hf⟩
    go_wp2_with fail
    go_ret
    exact IsB.mk hf
  | iri a =>
    unfold Tm.val Tm.kind at HK
    unfold Tm.val Tm.good
    have HB := Lib.hid (fun w => iri_any a w hs)
    clear hs
    go_enter Tryz.func72, Tryz.ntmps72
    go_wp2_with fail
    refine (HK.out _).mono ?_
    rintro e w1 ⟨rfl, rfl⟩
    go_wp2_with fail
    refine (HB.out _).mono ?_
    rintro e w1 ⟨rfl, hf⟩
    go_wp2_with fail
    go_ret
    exact IsB.mk hf
  | lit a b c =>
    unfold Tm.val Tm.kind at HK
    unfold Tm.val Tm.good
    obtain ⟨h1, h2, h3⟩ := hs
    have HB := Lib.hid (fun w => literal_any a b c w h1 h2 h3)
    clear h1 h2 h3
    go_enter Tryz.func72, Tryz.ntmps72
    go_wp2_with fail
    refine (HK.out _).mono ?_
    rintro e w1 ⟨rfl, rfl⟩
    go_wp2_with fail
    refine (HB.out _).mono ?_
    rintro e w1 ⟨rfl, hf⟩
    go_wp2_with fail
    go_ret
    exact IsB.mk hf

theorem eq_if_l (x y : Value) (w : World) : (Op.equal 35 (.iface 78 x) (.iface 78 y)).run Tryz.prog w = (Op.equalIn 9999 78 x y).run Tryz.prog w := by kernel_rfl
theorem eq_if_i (x y : Value) (w : World) : (Op.equal 35 (.iface 198 x) (.iface 198 y)).run Tryz.prog w = (Op.equalIn 9999 198 x y).run Tryz.prog w := by kernel_rfl
theorem eq_if_b (x y : Value) (w : World) : (Op.equal 35 (.iface 196 x) (.iface 196 y)).run Tryz.prog w = (Op.equalIn 9999 196 x y).run Tryz.prog w := by kernel_rfl
theorem eq_no1 (x y : Value) (w : World) : (Op.equal 35 (.iface 78 x) (.iface 198 y)).run Tryz.prog w = .ok false w := by kernel_rfl
theorem eq_no2 (x y : Value) (w : World) : (Op.equal 35 (.iface 78 x) (.iface 196 y)).run Tryz.prog w = .ok false w := by kernel_rfl
theorem eq_no3 (x y : Value) (w : World) : (Op.equal 35 (.iface 198 x) (.iface 78 y)).run Tryz.prog w = .ok false w := by kernel_rfl
theorem eq_no4 (x y : Value) (w : World) : (Op.equal 35 (.iface 198 x) (.iface 196 y)).run Tryz.prog w = .ok false w := by kernel_rfl
theorem eq_no5 (x y : Value) (w : World) : (Op.equal 35 (.iface 196 x) (.iface 78 y)).run Tryz.prog w = .ok false w := by kernel_rfl
theorem eq_no6 (x y : Value) (w : World) : (Op.equal 35 (.iface 196 x) (.iface 198 y)).run Tryz.prog w = .ok false w := by kernel_rfl

theorem eq_lit (a b c a' b' c' : ByteArray) (w : World) : (Op.equalIn 9999 78 (.agg #[.string a, .string b, .string c]) (.agg #[.string a', .string b', .string c'])).run Tryz.prog w = .ok ((a.toList == a'.toList) && ((b.toList == b'.toList) && (c.toList == c'.toList))) w := by
  rw [show (9999 : Nat) = 9998 + 1 from rfl]
  rw [run_equalIn_agg w 9998 78 _ _ (by kernel_rfl) (by kernel_rfl)]
  have u9 := Tryz.underlying9
  have a9 := Tryz.isAgg9
  simp only [Program.fieldsOf, Tryz.underlying78]
  go_simp
  by_cases h1 : a.toList = a'.toList <;> by_cases h2 : b.toList = b'.toList <;> by_cases h3 : c.toList = c'.toList <;> simp [h1, h2, h3]
theorem eq_iri (a a' : ByteArray) (w : World) : (Op.equalIn 9999 198 (.agg #[.string a]) (.agg #[.string a'])).run Tryz.prog w = .ok (a.toList == a'.toList) w := by
  rw [show (9999 : Nat) = 9998 + 1 from rfl]
  rw [run_equalIn_agg w 9998 198 _ _ (by kernel_rfl) (by kernel_rfl)]
  have u9 := Tryz.underlying9
  have a9 := Tryz.isAgg9
  simp only [Program.fieldsOf, Tryz.underlying198]
  go_simp
  by_cases h1 : a.toList = a'.toList <;> simp [h1]
theorem eq_bla (a a' : ByteArray) (w : World) : (Op.equalIn 9999 196 (.agg #[.string a]) (.agg #[.string a'])).run Tryz.prog w = .ok (a.toList == a'.toList) w := by
  rw [show (9999 : Nat) = 9998 + 1 from rfl]
  rw [run_equalIn_agg w 9998 196 _ _ (by kernel_rfl) (by kernel_rfl)]
  have u9 := Tryz.underlying9
  have a9 := Tryz.isAgg9
  simp only [Program.fieldsOf, Tryz.underlying196]
  go_simp
  by_cases h1 : a.toList = a'.toList <;> simp [h1]

theorem bytes_inj {a b : ByteArray} : a.toList = b.toList ↔ a = b := by
  constructor
  · intro h
    have := beq_toListBytes a b
    rw [h] at this
    have h2 : (a.data == b.data) = true := by
      have h3 : (a == b) = true := by rw [this]; simp
      exact h3
    exact ByteArray.ext (eq_of_beq h2)
  · rintro rfl; rfl

theorem eq_tm (t u : Tm) (w : World) : ∃ b : Bool, (Op.equal 35 t.val u.val).run Tryz.prog w = .ok b w ∧ (b = true ↔ t = u) := by
  cases t with
  | bla a => cases u with
    | bla a' => exact ⟨_, (eq_if_b _ _ w).trans (eq_bla a a' w), by simp [bytes_inj]⟩
    | iri a' => exact ⟨_, eq_no6 _ _ w, by simp⟩
    | lit a' b' c' => exact ⟨_, eq_no5 _ _ w, by simp⟩
  | iri a => cases u with
    | bla a' => exact ⟨_, eq_no4 _ _ w, by simp⟩
    | iri a' => exact ⟨_, (eq_if_i _ _ w).trans (eq_iri a a' w), by simp [bytes_inj]⟩
    | lit a' b' c' => exact ⟨_, eq_no3 _ _ w, by simp⟩
  | lit a b c => cases u with
    | bla a' => exact ⟨_, eq_no2 _ _ w, by simp⟩
    | iri a' => exact ⟨_, eq_no1 _ _ w, by simp⟩
    | lit a' b' c' => exact ⟨_, (eq_if_l _ _ w).trans (eq_lit a b c a' b' c' w), by simp [bytes_inj]⟩

theorem key_bla (e : Bool) (a : ByteArray) (w : World) : (Instr.checkKey e 10000 35 (Tm.bla a).val).run Tryz.prog w = .ok () w := by kernel_rfl
theorem key_iri (e : Bool) (a : ByteArray) (w : World) : (Instr.checkKey e 10000 35 (Tm.iri a).val).run Tryz.prog w = .ok () w := by kernel_rfl
theorem key_lit (e : Bool) (a b c : ByteArray) (w : World) : (Instr.checkKey e 10000 35 (Tm.lit a b c).val).run Tryz.prog w = .ok () w := by kernel_rfl
theorem key_tm (e : Bool) (t : Tm) (w : World) : (Instr.checkKey e 10000 35 t.val).run Tryz.prog w = .ok () w := by
  cases t with
  | bla a => exact key_bla e a w
  | iri a => exact key_iri e a w
  | lit a b c => exact key_lit e a b c w

/-- A map's entries: the terms of a list, each with its place. -/
def EsIs : Nat → List MapEntry → List Tm → Prop
  | _, [], [] => True
  | n, e :: es, t :: ts => e.key = t.val ∧ e.val = .int .i64 (n : Int) ∧ EsIs (n + 1) es ts
  | _, _, _ => False

open Classical in
noncomputable def idxT : List Tm → Tm → Option Nat
  | [], _ => none
  | u :: us, t => if t = u then some 0 else (idxT us t).map (· + 1)

theorem find_tm (t : Tm) (w : World) : ∀ (n i : Nat) (es : List MapEntry) (ts : List Tm), EsIs n es ts →
    (Instr.findAsking 35 t.val es i).run Tryz.prog w = .ok ((idxT ts t).map fun j => (i + j, Value.int .i64 ((n + j : Nat) : Int))) w
  | n, i, [], [], _ => by simp [Instr.findAsking, idxT]
  | n, i, [], _ :: _, h => by cases h
  | n, i, _ :: _, [], h => by cases h
  | n, i, e :: es, u :: us, h => by
    obtain ⟨h1, h2, h3⟩ := h
    obtain ⟨b, hb, hiff⟩ := eq_tm t u w
    have ih := find_tm t w (n + 1) (i + 1) es us h3
    rw [← h1] at hb
    unfold Instr.findAsking idxT
    cases b with
    | true =>
      rw [if_pos (hiff.1 rfl)]
      simp [hb, h2]
    | false =>
      have hne : ¬ t = u := fun e => by have := hiff.2 e; cases this
      rw [if_neg hne]
      simp only [Sem.run_bind, hb, Result.andThen_ok, Bool.false_eq_true, if_false, ih]
      cases idxT us t with
      | none => rfl
      | some j =>
        simp only [Option.map_some]
        rw [show i + 1 + j = i + (j + 1) by omega, show n + 1 + j = n + (j + 1) by omega]

theorem findKey_tm (t : Tm) (w : World) (es : List MapEntry) (ts : List Tm) (h : EsIs 0 es ts) :
    (Instr.findKey 35 t.val es).run Tryz.prog w = .ok ((idxT ts t).map fun j => (j, Value.int .i64 (j : Int))) w := by
  have h2 := find_tm t w 0 0 es ts h
  simp only [Nat.zero_add] at h2
  rw [← h2]
  cases es with
  | nil => simp [Instr.findKey, run_underlying Tryz.underlying35, Instr.findNow, Instr.findAsking]
  | cons e es => simp [Instr.findKey, run_underlying Tryz.underlying35, Instr.findNow, Instr.sameNow]

/-- A map of terms. -/
def MapAt (w : World) (r : Nat) (ts : List Tm) : Prop := ∃ (es : Array MapEntry) (clock : Nat), w.heap[r]? = some (.map es clock) ∧ EsIs 0 es.toList ts
def World.mapSet (w : World) (r : Nat) (o : Obj) : World := { w with heap := w.heap.setIfInBounds r o }

theorem run_lookup_tm {w : World} {r : Nat} {ts : List Tm} (h : MapAt w r ts) (t : Tm) :
    (Instr.lookup 147 (.map (some r)) t.val true).run Tryz.prog w = .ok (.tuple #[.int .i64 (((idxT ts t).getD 0 : Nat) : Int), .bool (idxT ts t).isSome]) w := by
  obtain ⟨es, clock, hg, he⟩ := h
  have hf := findKey_tm t w es.toList ts he
  have hz : (zeroValue 3).run Tryz.prog w = .ok (.int .i64 0) w := by kernel_rfl
  have hget : (getObj r).run Tryz.prog w = .ok (.map es clock) w := by simp [getObj, Sem.run, hg]
  simp only [Instr.lookup, Sem.run_bind, run_underlying Tryz.underlying147, Result.andThen_ok, hget, Sem.run_pure, key_tm, hf]
  cases idxT ts t with
  | none => simp [hz]
  | some j => simp

theorem EsIs.push {t : Tm} : ∀ (n : Nat) (es : List MapEntry) (ts : List Tm) (c : Nat), EsIs n es ts → EsIs n (es ++ [{ key := t.val, val := .int .i64 ((n + ts.length : Nat) : Int), born := c }]) (ts ++ [t])
  | n, [], [], c, _ => ⟨rfl, rfl, trivial⟩
  | n, [], _ :: _, c, h => by cases h
  | n, _ :: _, [], c, h => by cases h
  | n, e :: es, u :: us, c, h => by
    obtain ⟨h1, h2, h3⟩ := h
    have ih := EsIs.push (t := t) (n + 1) es us c h3
    refine ⟨h1, h2, ?_⟩
    rw [show n + (u :: us).length = n + 1 + us.length by simp; omega]
    exact ih

theorem run_mapUpdate_tm {w : World} {r : Nat} {ts : List Tm} (h : MapAt w r ts) (t : Tm) (hn : idxT ts t = none) :
    ∃ w', (Instr.mapUpdate 147 (.map (some r)) t.val (.int .i64 (ts.length : Int))).run Tryz.prog w = .ok () w' ∧ MapAt w' r (ts ++ [t]) ∧ Fr (fun j => j = r) w w' := by
  obtain ⟨es, clock, hg, he⟩ := h
  have hf := findKey_tm t w es.toList ts he
  rw [hn] at hf
  have hget : (getObj r).run Tryz.prog w = .ok (.map es clock) w := by simp [getObj, Sem.run, hg]
  have hlt : r < w.heap.size := (Array.getElem?_eq_some_iff.1 hg).1
  refine ⟨World.mapSet w r (.map (es.push { key := t.val, val := .int .i64 (ts.length : Int), born := clock }) (clock + 1)), ?_, ⟨es.push { key := t.val, val := .int .i64 (ts.length : Int), born := clock }, clock + 1, by simp [World.mapSet, hlt], ?_⟩, ⟨rfl, rfl, rfl, by simp [World.mapSet], fun k hk hne => ?_⟩⟩
  · simp only [Instr.mapUpdate, Sem.run_bind, run_underlying Tryz.underlying147, Result.andThen_ok, hget, key_tm, hf, Option.map_none]
    have hg2 : w.heap[r] = Obj.map es clock := by
      rw [Array.getElem?_eq_getElem hlt] at hg
      exact Option.some.inj hg
    simp [setObj, Sem.run, hlt, World.mapSet, hg2]
  · have := EsIs.push (t := t) 0 es.toList ts clock he
    simpa using this
  · show (w.heap.setIfInBounds r _)[k]? = _
    rw [Array.getElem?_setIfInBounds_ne (fun e => hne e.symm)]

theorem MapAt.lt {w : World} {r : Nat} {ts : List Tm} (h : MapAt w r ts) : r < w.heap.size := by
  obtain ⟨es, clock, hg, _⟩ := h
  exact (Array.getElem?_eq_some_iff.1 hg).1
theorem MapAt.fr {S : Nat → Prop} {w w' : World} {r : Nat} {ts : List Tm} (h : MapAt w r ts) (hf : Fr S w w') (hn : ¬ S r) : MapAt w' r ts := by
  have hl := h.lt
  obtain ⟨es, clock, hg, he⟩ := h
  exact ⟨es, clock, (hf.block r hl hn).trans hg, he⟩

theorem row_shape {w : World} {B : Nat} {e : TypeId} {size n : Nat} {v : Value} {xs : List Value} (h : w.ownsRow B e size v n xs) : ∃ A c, v = .slice A n c := by
  rcases h.2 with ⟨h1, h2⟩ | ⟨g, cap, cur, h1, _⟩
  · exact ⟨none, 0, by rw [h1, h2]⟩
  · exact ⟨_, _, h1⟩
theorem info37 : (Tryz.prog.info? 35).map (fun i => (i.zero, i.size, i.bytes)) = some (some .nilIface, 1, 16) := by kernel_rfl
theorem Tm.one (t : Tm) : t.val.oneCell' = true := by cases t <;> rfl

/-- A dictionary in memory. -/
structure IsDict (w : World) (B b r : Nat) (vt : Value) (ts : List Tm) (room : Int) : Prop where
  blk : Blk w b 150 #[vt, .map (some r), .int .i64 room]
  row : w.ownsRow B 35 1 vt ts.length (ts.map Tm.val)
  map : MapAt w r ts
  leb : B ≤ b
  ler : B ≤ r

theorem MapAt.ne_blk {w : World} {r g : Nat} {ts : List Tm} {t : TypeId} {cs : Array Value} (h : MapAt w r ts) (hb : Blk w g t cs) : g ≠ r := by
  rintro rfl
  obtain ⟨es, clock, hg, _⟩ := h
  unfold Blk at hb
  rw [hb] at hg
  cases hg
theorem MapAt.ne_row {w : World} {r B e size n : Nat} {ts : List Tm} {v : Value} {xs : List Value} (h : MapAt w r ts) (hr : w.ownsRow B e size v n xs) : v.ownBlock ≠ some r := by
  rcases hr.2 with ⟨rfl, _⟩ | ⟨g, cap, cur, rfl, _, hh, _⟩
  · simp [Value.ownBlock]
  · intro he
    have : g = r := by simpa [Value.ownBlock] using he
    exact h.ne_blk (show Blk w g e cur from hh) this
theorem IsDict.fr {S : Nat → Prop} {w w' : World} {B b r : Nat} {vt : Value} {ts : List Tm} {room : Int} (h : IsDict w B b r vt ts room) (hf : Fr S w w') (h1 : ¬ S b) (h2 : ¬ S r) (h3 : ∀ k, vt.ownBlock = some k → ¬ S k) : IsDict w' B b r vt ts room :=
  ⟨h.blk.fr hf h1, ownsRow_fr h.row hf h3, h.map.fr hf h2, h.leb, h.ler⟩
theorem IsDict.frF {w w' : World} {B b r : Nat} {vt : Value} {ts : List Tm} {room : Int} (h : IsDict w B b r vt ts room) (hf : Fr (fun _ => False) w w') : IsDict w' B b r vt ts room := h.fr hf (fun h => h) (fun h => h) (fun _ _ h => h)

theorem mk_map (w : World) : (Instr.makeMap 147 none).run Tryz.prog w = .ok (.map (some w.heap.size)) (w.alloc (.map #[] 0)) := rfl

set_option maxRecDepth 100000 in
set_option maxHeartbeats 4000000 in
theorem dnew_any (room : Int) (w : World) (h1 : 1 ≤ room) (h2 : room ≤ 65536) :
    Calls Tryz.prog 22 #[.int .i64 room] w fun e w' => e = .returned (.tuple #[.pointer (some ⟨w.heap.size + 1, 0, none⟩), .int .i64 0]) ∧ IsDict w' w.heap.size (w.heap.size + 1) w.heap.size (.slice none 0 0) [] room ∧ Fr (fun _ => False) w w' := by
  have hmk := mk_map
  have hm : MapAt (w.alloc (.map #[] 0)) w.heap.size [] := ⟨#[], 0, heap_alloc_new w _, trivial⟩
  have hsz : (w.alloc (.map #[] 0)).heap.size = w.heap.size + 1 := by simp
  have hb := Blk.new (w.alloc (.map #[] 0)) 150 #[.slice none 0 0, .map (some w.heap.size), .int .i64 room]
  rw [hsz] at hb
  have F : Fr (fun _ => False) w ((w.alloc (.map #[] 0)).alloc (.cells #[.slice none 0 0, .map (some w.heap.size), .int .i64 room] 150)) := ((Fr.refl _ _).alloc _).alloc _
  have hm2 := hm.fr ((Fr.refl (fun _ => False) _).alloc (.cells #[.slice none 0 0, .map (some w.heap.size), .int .i64 room] 150)) (fun h => h)
  have FIN := Lib.hid (show IsDict ((w.alloc (.map #[] 0)).alloc (.cells #[.slice none 0 0, .map (some w.heap.size), .int .i64 room] 150)) w.heap.size (w.heap.size + 1) w.heap.size (.slice none 0 0) [] room from
    ⟨hb, World.ownsRow_nil _ _ _ _, hm2, by omega, Nat.le_refl _⟩)
  have HF := Lib.hid F
  clear hm hsz hb F hm2
  go_enter Tryz.func22, Tryz.ntmps22
  go_wp2_with fail
  go_ret2
  exact ⟨rfl, FIN.out, HF.out⟩

/-- What Find answers. -/
noncomputable def findN (ts : List Tm) (t : Tm) : Int := if t.good = true then (((idxT ts t).getD 0 : Nat) : Int) else 0
noncomputable def findE (ts : List Tm) (t : Tm) : Int := if t.good = true ∧ (idxT ts t).isSome = true then 0 else 4

set_option maxRecDepth 100000 in
set_option maxHeartbeats 4000000 in
theorem find_any (w : World) (B b r : Nat) (vt : Value) (ts : List Tm) (room : Int) (t : Tm) (hd : IsDict w B b r vt ts room) (hs : t.short) :
    Calls Tryz.prog 71 #[.pointer (some ⟨b, 0, none⟩), t.val] w fun e w' => e = .returned (.tuple #[.int .i64 (findN ts t), .int .i64 (findE ts t)]) ∧ Fr (fun _ => False) w w' := by
  have HG := Lib.hid (fun w => tgood_any t w hs)
  have HN := Lib.hid (show findN ts t = if t.good = true then (((idxT ts t).getD 0 : Nat) : Int) else 0 from rfl)
  have HE := Lib.hid (show findE ts t = if t.good = true ∧ (idxT ts t).isSome = true then 0 else 4 from rfl)
  generalize findN ts t = fn at *
  generalize findE ts t = fe at *
  have HD := Lib.hid hd
  generalize hg : t.good = g at *
  clear hd hg
  cases g with
  | false =>
    go_enter Tryz.func71, Tryz.ntmps71
    go_wp2_with fail
    refine (HG.out _).mono ?_
    rintro e w1 ⟨rfl, hf⟩
    have HF := Lib.hid hf
    clear hf
    go_wp2_with fail
    go_ret2
    exact ⟨by rw [HN.out, HE.out]; simp, HF.out⟩
  | true =>
    go_enter Tryz.func71, Tryz.ntmps71
    go_wp2_with fail
    refine (HG.out _).mono ?_
    rintro e w1 ⟨rfl, hf⟩
    have hd1 := HD.out.frF hf
    have c1 : w1.cell? ⟨b, 1, none⟩ = some (.map (some r)) := hd1.blk.cell 1
    have hlk := run_lookup_tm hd1.map t
    have HF := Lib.hid hf
    clear hf hd1
    generalize idxT ts t = ix at *
    cases ix with
    | none =>
      simp only [Option.getD_none, Option.isSome_none] at hlk
      go_wp2_with fail
      go_ret2
      exact ⟨by rw [HN.out, HE.out]; simp, HF.out⟩
    | some j =>
      simp only [Option.getD_some, Option.isSome_some] at hlk
      go_wp2_with fail
      go_ret2
      exact ⟨by rw [HN.out, HE.out]; simp, HF.out⟩

noncomputable def putN (ts : List Tm) (t : Tm) (room : Int) : Int := if t.good = true then (match idxT ts t with | some j => (j : Int) | none => if room ≤ (ts.length : Int) then 0 else (ts.length : Int)) else 0
noncomputable def putE (ts : List Tm) (t : Tm) (room : Int) : Int := if t.good = true then (match idxT ts t with | some _ => 0 | none => if room ≤ (ts.length : Int) then 6 else 0) else 3
noncomputable def putL (ts : List Tm) (t : Tm) (room : Int) : List Tm := if t.good = true then (match idxT ts t with | some _ => ts | none => if room ≤ (ts.length : Int) then ts else ts ++ [t]) else ts

theorem Tm.shape (t : Tm) : ∃ d x, t.val = .iface d x := by cases t <;> exact ⟨_, _, rfl⟩

def PutPost (w : World) (B b r : Nat) (vt : Value) (n e : Int) (l : List Tm) (room : Int) (x : Ending) (w' : World) : Prop :=
  ∃ vt', x = .returned (.tuple #[.int .i64 n, .int .i64 e]) ∧ IsDict w' B b r vt' l room ∧ Fr (fun j => j = b ∨ j = r ∨ vt.ownBlock = some j) w w' ∧ ∀ k, vt'.ownBlock = some k → vt.ownBlock = some k ∨ w.heap.size ≤ k

set_option maxRecDepth 100000 in
set_option maxHeartbeats 4000000 in
theorem put_any (w : World) (B b r : Nat) (vt : Value) (ts : List Tm) (room : Int) (t : Tm) (hd : IsDict w B b r vt ts room) (hs : t.short) (hlen : ts.length ≤ 100000) (hB : B ≤ w.heap.size) :
    Calls Tryz.prog 23 #[.pointer (some ⟨b, 0, none⟩), t.val] w (PutPost w B b r vt (putN ts t room) (putE ts t room) (putL ts t room) room) := by
  obtain ⟨i37, hi37, hz370, hz371, hz372⟩ := info_parts info37
  have HFI := Lib.hid (find_any w B b r vt ts room t hd hs)
  have HG := Lib.hid (fun w => tgood_any t w hs)
  unfold putN putE putL
  unfold findN findE at HFI
  have HD := Lib.hid hd
  obtain ⟨A, c, hvt⟩ := row_shape hd.row
  subst hvt
  generalize hg : t.good = g at *
  clear hd hg
  cases g with
  | false =>
    simp only [Bool.false_eq_true, if_false, false_and] at HFI ⊢
    go_enter Tryz.func23, Tryz.ntmps23
    go_wp2_with fail
    refine HFI.out.mono ?_
    rintro e w1 ⟨rfl, hf1⟩
    have HF1 := Lib.hid hf1
    clear hf1
    go_wp2_with fail
    refine (HG.out _).mono ?_
    rintro e w2 ⟨rfl, hf2⟩
    have HF2 := Lib.hid (HF1.out.trans' hf2)
    clear hf2
    go_wp2_with fail
    go_ret2
    exact ⟨_, rfl, HD.out.frF HF2.out, HF2.out.mono (fun _ _ h => h.elim), fun k hk => .inl hk⟩
  | true =>
    simp only [if_true, true_and] at HFI ⊢
    generalize hix : idxT ts t = ix at *
    have HIX := Lib.hid hix
    clear hix
    cases ix with
    | some j =>
      simp only [Option.isSome_some, if_true, Option.getD_some] at HFI ⊢
      go_enter Tryz.func23, Tryz.ntmps23
      go_wp2_with fail
      refine HFI.out.mono ?_
      rintro e w1 ⟨rfl, hf1⟩
      have HF1 := Lib.hid hf1
      clear hf1
      go_wp2_with fail
      refine (HG.out _).mono ?_
      rintro e w2 ⟨rfl, hf2⟩
      have HF2 := Lib.hid (HF1.out.trans' hf2)
      clear hf2
      go_wp2_with fail
      go_ret2
      exact ⟨_, rfl, HD.out.frF HF2.out, HF2.out.mono (fun _ _ h => h.elim), fun k hk => .inl hk⟩
    | none =>
      simp only [Option.isSome_none, Bool.false_eq_true, if_false, Option.getD_none] at HFI ⊢
      by_cases hr : room ≤ (ts.length : Int)
      · have hr' : decide (room ≤ (ts.length : Int)) = true := decide_eq_true hr
        rw [if_pos hr, if_pos hr, if_pos hr]
        go_enter Tryz.func23, Tryz.ntmps23
        go_wp2_with fail
        refine HFI.out.mono ?_
        rintro e w1 ⟨rfl, hf1⟩
        have HF1 := Lib.hid hf1
        clear hf1
        go_wp2_with fail
        refine (HG.out _).mono ?_
        rintro e w2 ⟨rfl, hf2⟩
        have hd2 := HD.out.frF (HF1.out.trans' hf2)
        have c0 : w2.cell? ⟨b, 0, none⟩ = some (.slice A ts.length c) := hd2.blk.cell 0
        have c2 : w2.cell? ⟨b, 2, none⟩ = some (.int .i64 room) := hd2.blk.cell 2
        have HD2 := Lib.hid hd2
        have HF2 := Lib.hid (HF1.out.trans' hf2)
        clear hf2 hd2
        go_wp2_with fail
        go_quiet (fail)
        go_wp2_with fail
        go_ret2
        exact ⟨_, rfl, HD2.out.frF ((Fr.refl _ _).drewN _), (HF2.out.drewN _).mono (fun _ _ h => h.elim), fun k hk => .inl hk⟩
      · have hr' : decide (room ≤ (ts.length : Int)) = false := decide_eq_false hr
        rw [if_neg hr, if_neg hr, if_neg hr]
        obtain ⟨d, x, htv⟩ := t.shape
        have h1 := t.one
        rw [htv] at h1 ⊢
        have HFI := Lib.hid (htv ▸ HFI.out)
        have HG := Lib.hid (fun w => htv ▸ HG.out w)
        have HTV := Lib.hid htv
        have H1 := Lib.hid h1
        clear htv h1
        go_enter Tryz.func23, Tryz.ntmps23
        go_wp2_with fail
        refine HFI.out.mono ?_
        rintro e w1 ⟨rfl, hf1⟩
        have HF1 := Lib.hid hf1
        clear hf1
        go_wp2_with fail
        refine (HG.out _).mono ?_
        rintro e w2 ⟨rfl, hf2⟩
        have hd2 := HD.out.frF (HF1.out.trans' hf2)
        have c0 : w2.cell? ⟨b, 0, none⟩ = some (.slice A ts.length c) := hd2.blk.cell 0
        have c2 : w2.cell? ⟨b, 2, none⟩ = some (.int .i64 room) := hd2.blk.cell 2
        have HD2 := Lib.hid hd2
        have HF2 := Lib.hid (HF1.out.trans' hf2)
        clear hf2 hd2
        go_wp2_with fail
        go_quiet (fail)
        have hd3 := HD2.out.frF ((Fr.refl (fun _ => False) w2).drewN nq)
        have HF3 := Lib.hid (HF2.out.drewN nq)
        generalize w2.drewN nq = w3 at *
        have HD3 := Lib.hid hd3
        clear c0 c2 hd3
        have c0 : w3.cell? ⟨b, 0, none⟩ = some (.slice A ts.length c) := HD3.out.blk.cell 0
        have c1 : w3.cell? ⟨b, 1, none⟩ = some (.map (some r)) := HD3.out.blk.cell 1
        go_wp2_with fail
        go_still_tail 10, (by kernel_rfl)
        change wpList _ _ _ _ _ w3.drew
        have hd4 := HD3.out.frF ((Fr.refl (fun _ => False) w3).drew)
        have HF4 := Lib.hid (HF3.out.drew)
        generalize w3.drew = w4 at *
        obtain ⟨w5, hup, hm5, hf5⟩ := run_mapUpdate_tm hd4.map t HIX.out
        rw [HTV.out] at hup
        have hb5 := hd4.blk.fr hf5 (fun h => hd4.map.ne_blk hd4.blk h)
        have hr5 := ownsRow_fr hd4.row hf5 (fun k hk h => hd4.map.ne_row hd4.row (by rw [hk, h]))
        have HF5 := Lib.hid hf5
        have HM5 := Lib.hid hm5
        have HD4 := Lib.hid hd4
        have HB5 := Lib.hid hb5
        have hnr := Lib.hid (hm5.ne_row hr5)
        have hnb := Lib.hid (hm5.ne_blk hb5)
        clear c0 c1 hd4 hf5 hm5
        have c0 : w5.cell? ⟨b, 0, none⟩ = some (.slice A ts.length c) := hb5.cell 0
        have g0 : w5.frozen? ⟨b, 0, none⟩ = false := hb5.frozen 0
        clear hb5
        go_wp2_with (at_builtin; refine wpList_append_own_at _ rfl _ _ 148 rfl B 35 i37 _ 1 16 Tryz.underlying148 hi37 hz370 hz371 hz372 rfl (by decide) _ ts.length (ts.map Tm.val) (by rfl) (hr5.alloc _) ⟨w5.heap.size, 0, none⟩ 1 1 [.iface d x] (by rfl) rfl (World.news_of_block (heap_alloc_new w5 _)) (by intro u hu; rw [List.mem_singleton] at hu; rw [hu]; exact H1.out) (by unfold maxLen; omega) (by omega) (by simp; have := HF4.out.size; have := HF5.out.size; omega) ?_; intro v6 w6 hown6 hgr6 _ hat6; obtain ⟨A6, c6, hv6⟩ := row_shape hown6; subst hv6; have hb6 := (HB5.out.alloc (.cells #[.iface d x] 35)).fr (Fr.of_grown hgr6) (fun h => own_blk_ne hr5 HB5.out (by decide) h); have c06 : w6.cell? ⟨b, 0, none⟩ = some (.slice A ts.length c) := hb6.cell 0; have g06 : w6.frozen? ⟨b, 0, none⟩ = false := hb6.frozen 0; have hbl6 := hb6.lt; have HB6 := Lib.hid hb6; clear c0 g0 hb6)
        have hb7 := HB6.out.set_ 0 (.slice A6 (ts.length + 1) c6)
        have F6 : Fr (fun j => j = r ∨ (Value.slice A ts.length c).ownBlock = some j) w4 w6 := ((HF5.out.mono (fun _ _ h => .inl h)).alloc _).trans (Fr.of_grown hgr6) (fun i hi e => .inr e)
        have F7 : Fr (fun j => j = b ∨ j = r ∨ (Value.slice A ts.length c).ownBlock = some j) w (w6.setCell ⟨b, 0, none⟩ (.slice A6 (ts.length + 1) c6)) :=
          ((HF4.out.mono (fun _ _ h => h.elim)).trans (F6.mono (fun _ _ h => .inr h)) (fun _ _ h => h)).setCell ⟨b, 0, none⟩ (fun _ => .inl rfl) _
        have hs45 := HF5.out.size
        have hs4 := HF4.out.size
        have hm6 : MapAt w6 r (ts ++ [t]) := (HM5.out.fr ((Fr.refl (fun _ => False) w5).alloc (.cells #[.iface d x] 35)) (fun h => h)).fr (Fr.of_grown hgr6) (fun h => hnr.out h)
        have hm7 : MapAt (w6.setCell ⟨b, 0, none⟩ (.slice A6 (ts.length + 1) c6)) r (ts ++ [t]) := hm6.fr ((Fr.refl (fun j => j = b) w6).setCell ⟨b, 0, none⟩ (fun _ => rfl) _) (fun h => hnb.out h.symm)
        have hr7 : (w6.setCell ⟨b, 0, none⟩ (.slice A6 (ts.length + 1) c6)).ownsRow B 35 1 (.slice A6 (ts.length + 1) c6) (ts ++ [t]).length ((ts ++ [t]).map Tm.val) := by
          have e1 : (ts ++ [t]).length = ts.length + 1 := by simp
          have e2 : (ts ++ [t]).map Tm.val = ts.map Tm.val ++ [.iface d x] := by rw [List.map_append, ← HTV.out]; rfl
          rw [e1, e2]
          exact ownsRow_fr hown6 ((Fr.refl (fun j => j = b) w6).setCell ⟨b, 0, none⟩ (fun _ => rfl) _) (fun k hk h => own_blk_ne hown6 HB6.out (by decide) (by rw [hk, h]))
        have hown : ∀ k, (Value.slice A6 (ts.length + 1) c6).ownBlock = some k → (Value.slice A ts.length c).ownBlock = some k ∨ w.heap.size ≤ k := fun k hk => by
          rcases hat6 with h | h
          · left; rw [← h]; exact hk
          · right
            rw [h] at hk
            injection hk with hk
            simp at hk
            omega
        have FIN := Lib.hid (show IsDict (w6.setCell ⟨b, 0, none⟩ (.slice A6 (ts.length + 1) c6)) B b r (.slice A6 (ts.length + 1) c6) (ts ++ [t]) room from ⟨hb7, hr7, hm7, HD4.out.leb, HD4.out.ler⟩)
        have HF7 := Lib.hid F7
        have HOWN := Lib.hid hown
        go_wp2_with fail
        go_ret2
        exact ⟨_, rfl, FIN.out, HF7.out, HOWN.out⟩

end Go.Proofs.YtebddgdkndmpjaaGreatDoor
