/- A query, parsed: walked. -/
import Derived.Test.YtebddgdkndmpjaaGreatDoorBl
import Derived.Deep.CutBlock
import Derived.Deep.RegionLawGrows
import Derived.Deep.Cut
import Derived.Deep.CutRange
import Derived.WalkKit
import Derived.WalkLawsBesides
import Derived.WalkSpells
import Derived.Deep.QuietTactic
import Derived.BigRegion
import Derived.BigQuiet
import Derived.Lib.Hide
import Derived.Outline
import Derived.Deep.AppendLies
import Derived.Deep.RegionLaw
import Derived.Deep.RegionWith
import Derived.Deep.RegionHeld3
import Derived.Deep.LoopGhost
import Derived.Deep.DeepFit
import Derived.Laws.ResultCell
import Derived.Laws.RangeAny
import Derived.Deep.MidRow
import Derived.StillTailTactics
import Derived.OpenShut
namespace Go.Proofs.YtebddgdkndmpjaaGreatDoor
set_option linter.unusedVariables false
open Go.RowKit Go

theorem info30 : (Tryz.prog.info? 30).map (·.size) = some 7 := by kernel_rfl
def tREG : ByteArray := ⟨#[82, 69, 71, 73, 83, 84, 69, 82]⟩
def tRS : ByteArray := ⟨#[82, 83, 84, 82, 69, 65, 77]⟩
def tIS : ByteArray := ⟨#[73, 83, 84, 82, 69, 65, 77]⟩
def tDS : ByteArray := ⟨#[68, 83, 84, 82, 69, 65, 77]⟩
def tAS : ByteArray := ⟨#[65, 83]⟩
def tSEL : ByteArray := ⟨#[83, 69, 76, 69, 67, 84]⟩
def tDIS : ByteArray := ⟨#[68, 73, 83, 84, 73, 78, 67, 84]⟩
def tFROM : ByteArray := ⟨#[70, 82, 79, 77]⟩
def tWH : ByteArray := ⟨#[87, 72, 69, 82, 69]⟩
def tGR : ByteArray := ⟨#[71, 82, 79, 85, 80]⟩

/-- A query of one selected thing, up to its group. -/
structure QText (rs : List Int) (l : List UInt8) (dis : Bool) (sv : Value) (p1 p2 s2 p4 p5 p6 p7 s7 p8 : Nat) : Prop where
  reg : wordAt rs 0 tREG = true ∧ wordTo rs 0 tREG = p1
  kind : wordAt rs p1 tRS = true ∧ wordTo rs p1 tRS = p2 ∧ skip rs [0] (skip rs [0] p1) = skip rs [0] p1 ∧ wordAt rs (skip rs [0] p1) tRS = true ∧ wordTo rs (skip rs [0] p1) tRS = p2
  iri : skip rs [0] p2 = s2 ∧ skip rs [0] s2 = s2 ∧ Body rs s2 l ∧ l ≠ [] ∧ l.length ≤ 1000 ∧ (Tm.iri ⟨l.toArray⟩).good = true
  asx : wordAt rs (s2 + l.length + 2) tAS = true ∧ wordTo rs (s2 + l.length + 2) tAS = p4
  sel : wordAt rs p4 tSEL = true ∧ wordTo rs p4 tSEL = p5
  dis : wordAt rs p5 tDIS = dis ∧ wordTo rs p5 tDIS = p6
  one : ∀ (b c : Nat) (A : Option Addr) (w : World), Sc w b A c rs p6 → Calls Tryz.prog 96 #[.agg #[.pointer (some ⟨b, 0, none⟩)]] w (ScPost w b A c rs p7 sv)
  nxt : skip rs [0] p7 = s7 ∧ skip rs [0] s7 = s7 ∧ peekOf rs s7 ≠ 63 ∧ peekOf rs s7 ≠ 40
  frm : wordAt rs s7 tFROM = false
  whr : wordAt rs s7 tWH = true ∧ wordTo rs s7 tWH = p8

/-- What a group has made, told by a predicate that stays where the scanner's own blocks turn. -/
structure GLaw (G : World → Nat → Value → Prop) : Prop where
  slice : ∀ {w : World} {B : Nat} {v : Value}, G w B v → ∃ A n c, v = .slice A n c
  base : ∀ {w : World} {B B' : Nat} {v : Value}, B' ≤ B → G w B v → G w B' v
  frF : ∀ {w w' : World} {B : Nat} {v : Value}, G w B v → Fr (fun _ => False) w w' → G w' B v
  frB : ∀ {w w' : World} {B x t : Nat} {cs : Array Value} {v : Value}, G w B v → Blk w x t cs → t ≠ 46 → t ≠ 27 → Fr (fun j => j = x) w w' → G w' B v
theorem glaw_at (d : Nat) : GLaw (fun w B v => GroupAt w B d v) := ⟨fun h => h.slice, fun h g => g.base h, fun h hf => h.frF hf, fun h hx h1 h2 hf => h.frB hx h1 h2 hf⟩
/-- A group of one item, whatever it is. -/
def Flat (_ : World) (_ : Nat) (v : Value) : Prop := ∃ A c, v = .slice A 1 c
theorem glaw_flat : GLaw Flat := ⟨fun ⟨A, c, h⟩ => ⟨A, 1, c, h⟩, fun _ h => h, fun h _ => h, fun h _ _ _ _ => h⟩
/-- The tree of a query of one selected thing; or an error thrown. -/
def QueryPost (G : World → Nat → Value → Prop) (w : World) (b : Nat) (A : Option Addr) (c : Nat) (rs : List Int) (q : Nat) (deep : Bool) (pl : Int) (kind t : ByteArray) (dis : Bool) (sv : Value) (e : Ending) (w' : World) : Prop :=
  if deep = true then Thrown pl 15 e ∧ Fr (fun j => j = b) w w'
  else ∃ g v, e = .returned (.agg #[.string kind, .string t, .bool dis, .slice (some ⟨g, 0, none⟩) 1 1, .slice none 0 0, v, .slice none 0 0]) ∧ Blk w' g 176 sv.cells ∧ G w' w.heap.size v ∧ Sc w' b A c rs q ∧ Fr (fun j => j = b) w w'
def GrpPostG (G : World → Nat → Value → Prop) (w : World) (b : Nat) (A : Option Addr) (c : Nat) (rs : List Int) (q : Nat) (e : Ending) (w' : World) : Prop :=
  ∃ v, e = .returned (.agg #[v]) ∧ G w' w.heap.size v ∧ Sc w' b A c rs q ∧ Fr (fun j => j = b) w w'
def GrpAny (G : World → Nat → Value → Prop) (w : World) (b : Nat) (A : Option Addr) (c : Nat) (rs : List Int) (q : Nat) (deep : Bool) (pl : Int) (e : Ending) (w' : World) : Prop :=
  if deep = true then Thrown pl 15 e ∧ Fr (fun j => j = b) w w' else GrpPostG G w b A c rs q e w'

set_option maxRecDepth 100000 in
set_option maxHeartbeats 40000000 in
theorem query_sc (G : World → Nat → Value → Prop) (HGL : GLaw G) (rs : List Int) (l : List UInt8) (dis : Bool) (s0 s1 s2' : ByteArray) (p1 p2 s2 p4 p5 p6 p7 s7 p8 q : Nat) (deep : Bool) (pl : Int) (QT : QText rs l dis (.agg #[.string s0, .string s1, .string s2']) p1 p2 s2 p4 p5 p6 p7 s7 p8)
    (hgr : wordAt rs q tGR = false) (b c : Nat) (A : Option Addr) (w : World)
    (HG : ∀ w1, Fr (fun j => j = b) w w1 → Sc w1 b A c rs p8 → Calls Tryz.prog 99 #[.agg #[.pointer (some ⟨b, 0, none⟩)], .int .i64 40] w1 (GrpAny G w1 b A c rs q deep pl)) (h : Sc w b A c rs 0) :
    Calls Tryz.prog 40 #[.agg #[.pointer (some ⟨b, 0, none⟩)]] w (QueryPost G w b A c rs (skip rs [0] q) deep pl tRS ⟨l.toArray⟩ dis (.agg #[.string s0, .string s1, .string s2'])) := by
  have hbl := h.blk.lt
  have N1 := Lib.hid (fun w1 h1 => need_sc tREG b c 0 p1 A rs w1 (ascii_of (by decide)) (by decide) QT.reg.1 QT.reg.2 h1)
  have N2 := Lib.hid (fun B N nc w1 h1 hr => one_sc [tRS, tIS, tDS] 0 b c p1 B A N nc rs w1 (by intro T hT; simp only [List.mem_cons, List.not_mem_nil, or_false] at hT; rcases hT with rfl | rfl | rfl <;> exact ⟨ascii_of (by decide), by decide⟩) (by decide) (by decide) QT.kind.2.2.1 (fun j hj => absurd hj (by omega)) ⟨QT.kind.1, QT.kind.2.2.2.1⟩ p2 ⟨QT.kind.2.1, QT.kind.2.2.2.2⟩ h1 hr)
  have N3 := Lib.hid (fun w1 h1 => iri_sc l b c p2 s2 A rs w1 QT.iri.2.2.2.1 QT.iri.2.2.2.2.1 QT.iri.2.2.2.2.2 QT.iri.1 QT.iri.2.1 QT.iri.2.2.1 h1)
  have N4 := Lib.hid (fun w1 h1 => need_sc tAS b c _ p4 A rs w1 (ascii_of (by decide)) (by decide) QT.asx.1 QT.asx.2 h1)
  have N5 := Lib.hid (fun w1 h1 => need_sc tSEL b c p4 p5 A rs w1 (ascii_of (by decide)) (by decide) QT.sel.1 QT.sel.2 h1)
  have N6 := Lib.hid (fun w1 h1 => word_sc tDIS b c p5 A rs w1 (ascii_of (by decide)) (by decide) h1)
  rw [QT.dis.1, QT.dis.2] at N6
  have N7 := Lib.hid (fun w1 h1 => QT.one b c A w1 h1)
  have N8 := Lib.hid (fun w1 h1 => nextsign_sc b c p7 A rs w1 h1)
  have N9 := Lib.hid (fun w1 h1 => nextsign_sc b c s7 A rs w1 h1)
  rw [QT.nxt.1] at N8
  rw [QT.nxt.2.1] at N9
  have e63 : (peekOf rs s7 == 63) = false := by simpa using QT.nxt.2.2.1
  have e40 : (peekOf rs s7 == 40) = false := by simpa using QT.nxt.2.2.2
  have N10 := Lib.hid (fun w1 h1 => word_sc tFROM b c s7 A rs w1 (ascii_of (by decide)) (by decide) h1)
  rw [QT.frm, one_stay QT.frm QT.nxt.2.1] at N10
  have N11 := Lib.hid (fun w1 h1 => need_sc tWH b c s7 p8 A rs w1 (ascii_of (by decide)) (by decide) QT.whr.1 QT.whr.2 h1)
  have N12 := Lib.hid HG
  have N13 := Lib.hid (fun w1 h1 => word_sc tGR b c q A rs w1 (ascii_of (by decide)) (by decide) h1)
  rw [hgr, one_stay hgr rfl] at N13
  clear HG hgr QT
  generalize peekOf rs s7 = pk at *
  generalize skip rs [0] q = q9 at *
  generalize (⟨l.toArray⟩ : ByteArray) = it at *
  generalize s2 + l.length + 2 = p3 at *
  simp only [show ([tRS, tIS, tDS] : List ByteArray).length = 3 from rfl, show ([tRS, tIS, tDS] : List ByteArray).getD 0 ByteArray.empty = tRS from rfl, show ([tRS, tIS, tDS] : List ByteArray).map Value.string = [.string tRS, .string tIS, .string tDS] from rfl] at N2
  unfold tREG tRS tIS tDS tAS tSEL tDIS tFROM tWH tGR at *
  have hf : Fr (fun _ => False) w ((w.alloc (.cells #[.pointer (some ⟨b, 0, none⟩)] 108)).alloc (.cells #[.string ⟨#[]⟩, .string ⟨#[]⟩, .bool false, .slice none 0 0, .slice none 0 0, .slice none 0 0, .slice none 0 0] 30)) := ((Fr.refl _ _).alloc _).alloc _
  have hz : (w.alloc (.cells #[.pointer (some ⟨b, 0, none⟩)] 108)).heap.size = w.heap.size + 1 := by simp
  have hy := Blk.new (w.alloc (.cells #[.pointer (some ⟨b, 0, none⟩)] 108)) 30 #[.string ⟨#[]⟩, .string ⟨#[]⟩, .bool false, .slice none 0 0, .slice none 0 0, .slice none 0 0, .slice none 0 0]
  rw [hz] at hy
  have HX := Lib.hid ((Blk.new w 108 #[.pointer (some ⟨b, 0, none⟩)]).alloc (.cells #[.string ⟨#[]⟩, .string ⟨#[]⟩, .bool false, .slice none 0 0, .slice none 0 0, .slice none 0 0, .slice none 0 0] 30))
  have HY := Lib.hid hy
  have HF := Lib.hid hf
  have HS0 := Lib.hid (h.frF hf)
  clear h hf hy hz
  go_enter Tryz.func40, Tryz.ntmps40
  go_wp2_with fail
  generalize ((w.alloc (.cells #[.pointer (some ⟨b, 0, none⟩)] 108)).alloc (.cells #[.string ⟨#[]⟩, .string ⟨#[]⟩, .bool false, .slice none 0 0, .slice none 0 0, .slice none 0 0, .slice none 0 0] 30)) = w0 at *
  refine (N1.out _ HS0.out).mono ?_
  rintro e w1 ⟨rfl, hs1, hf1⟩
  have hx1 := box_keep HX.out hbl hf1
  have x1 : w1.cell? ⟨w.heap.size, 0, none⟩ = some (.pointer (some ⟨b, 0, none⟩)) := hx1.cell 0
  have HX1 := Lib.hid hx1
  have HY1 := Lib.hid (old_keep HY.out (Nat.le_succ _) hbl hf1)
  have HS1 := Lib.hid hs1
  have HF1 := Lib.hid ((HF.out.mono (T := fun j => j = b) (fun _ _ h => h.elim)).trans' hf1)
  have hf2 : Fr (fun _ => False) w1 (w1.alloc (.cells #[.string ⟨#[82, 83, 84, 82, 69, 65, 77]⟩, .string ⟨#[73, 83, 84, 82, 69, 65, 77]⟩, .string ⟨#[68, 83, 84, 82, 69, 65, 77]⟩] 9)) := (Fr.refl _ _).alloc _
  have N2' := Lib.hid (N2.out 0 (some ⟨w1.heap.size, 0, none⟩) 3 _ (hs1.frF hf2) (World.ownsRow_lit (base := 0) (e := 9) (size := 1) w1 #[.string ⟨#[82, 83, 84, 82, 69, 65, 77]⟩, .string ⟨#[73, 83, 84, 82, 69, 65, 77]⟩, .string ⟨#[68, 83, 84, 82, 69, 65, 77]⟩] 3 (Nat.zero_le _) (by decide) rfl))
  have HX2 := Lib.hid (hx1.fr hf2 (fun h => h))
  have HY2 := Lib.hid (HY1.out.fr hf2 (fun h => h))
  have HF2 := Lib.hid (HF1.out.trans hf2 (fun _ _ h => h.elim))
  clear hx1 hs1 hf1 hf2
  go_wp2_with fail
  refine N2'.out.mono ?_
  rintro e w3 ⟨rfl, hs3, hf3⟩
  have hlo : w.heap.size + 1 < w3.heap.size := Nat.lt_of_lt_of_le HY2.out.lt hf3.size
  have hlo2 : w.heap.size < w3.heap.size := by omega
  have hf4 : Fr (fun _ => False) w3 (w3.alloc (.cells #[.string ⟨#[82, 83, 84, 82, 69, 65, 77]⟩, .string ⟨#[]⟩, .bool false, .slice none 0 0, .slice none 0 0, .slice none 0 0, .slice none 0 0] 30)) := (Fr.refl _ _).alloc _
  obtain ⟨ob, hob⟩ : ∃ ob, ob = w3.heap.size := ⟨_, rfl⟩
  have HO4 := Lib.hid (show Blk (w3.alloc (.cells #[.string ⟨#[82, 83, 84, 82, 69, 65, 77]⟩, .string ⟨#[]⟩, .bool false, .slice none 0 0, .slice none 0 0, .slice none 0 0, .slice none 0 0] 30)) ob 30 #[.string ⟨#[82, 83, 84, 82, 69, 65, 77]⟩, .string ⟨#[]⟩, .bool false, .slice none 0 0, .slice none 0 0, .slice none 0 0, .slice none 0 0] by rw [hob]; exact Blk.new _ _ _)
  have x3 : w3.cell? ⟨w.heap.size, 0, none⟩ = some (.pointer (some ⟨b, 0, none⟩)) := (box_keep HX2.out hbl hf3).cell 0
  have HX4 := Lib.hid ((box_keep HX2.out hbl hf3).fr hf4 (fun h => h))
  have HY4 := Lib.hid ((old_keep HY2.out (Nat.le_succ _) hbl hf3).fr hf4 (fun h => h))
  have HS4 := Lib.hid (hs3.frF hf4)
  have HF4 := Lib.hid ((HF2.out.trans' hf3).trans hf4 (fun _ _ h => h.elim))
  have hlob : b < ob := by omega
  have hlob2 : w.heap.size + 1 < ob := by omega
  have HOB := Lib.hid hob
  clear hs3 hf3 hf4 x1 hob
  go_wp2_with fail
  rw [← HOB.out]
  clear HOB
  generalize w3.alloc (.cells #[.string ⟨#[82, 83, 84, 82, 69, 65, 77]⟩, .string ⟨#[]⟩, .bool false, .slice none 0 0, .slice none 0 0, .slice none 0 0, .slice none 0 0] 30) = w4 at *
  refine (N3.out _ HS4.out).mono ?_
  rintro e w5 ⟨rfl, hs5, hf5⟩
  have hx5 := box_keep HX4.out hbl hf5
  have hy5 := old_keep HY4.out (Nat.le_succ _) hbl hf5
  have ho5 := HO4.out.fr hf5 (fun e => by omega)
  have oc5 : w5.cell? ⟨ob, 1, none⟩ = some (.string ⟨#[]⟩) := ho5.cell 1
  have of5 := ho5.frozen 1
  have ol5 := ho5.lt
  have FS5 : Fr (fun j => j = ob) w5 (w5.setCell ⟨ob, 1, none⟩ (.string it)) := (Fr.refl (fun j => j = ob) w5).setCell ⟨ob, 1, none⟩ (fun _ => rfl) _
  have hx5c : w5.cell? ⟨w.heap.size, 0, none⟩ = some (.pointer (some ⟨b, 0, none⟩)) := hx5.cell 0
  have hne5 : ¬ ob = w.heap.size := by omega
  have HX5 := Lib.hid (hx5.fr FS5 (fun e => by omega))
  have HY5 := Lib.hid (hy5.fr FS5 (fun e => by omega))
  have HO5 := Lib.hid (show Blk (w5.setCell ⟨ob, 1, none⟩ (.string it)) ob 30 #[.string ⟨#[82, 83, 84, 82, 69, 65, 77]⟩, .string it, .bool false, .slice none 0 0, .slice none 0 0, .slice none 0 0, .slice none 0 0] from ho5.set_ 1 (.string it))
  have HS5 := Lib.hid (hs5.fr FS5 (fun e => by omega) (fun j hj e => own_blk_ne hs5.row ho5 (by decide) (by rw [hj, e])))
  have HF5 := Lib.hid ((HF4.out.trans' hf5).trans (T := fun j => j = b ∨ j = ob) (FS5.mono (fun _ _ h => .inr h)) (fun j hj h => h.elim id (fun h => absurd hj (by omega))))
  clear hs5 hf5 hx5 hy5 ho5 FS5
  go_wp2_with fail
  clear oc5 of5 hx5c
  generalize (w5.setCell ⟨ob, 1, none⟩ (.string it)) = w5' at *
  refine (N4.out _ HS5.out).mono ?_
  rintro e w6 ⟨rfl, hs6, hf6⟩
  have hx6 := box_keep HX5.out hbl hf6
  have hy6 := old_keep HY5.out (Nat.le_succ _) hbl hf6
  have ho6 := HO5.out.fr hf6 (fun e => by omega)
  have x6 : w6.cell? ⟨w.heap.size, 0, none⟩ = some (.pointer (some ⟨b, 0, none⟩)) := hx6.cell 0
  have HX6 := Lib.hid hx6
  have HY6 := Lib.hid hy6
  have HO6 := Lib.hid ho6
  have HS6 := Lib.hid hs6
  have HF6 := Lib.hid (HF5.out.trans' hf6)
  clear hs6 hf6 hx6 hy6 ho6
  go_wp2_with fail
  refine (N5.out _ HS6.out).mono ?_
  rintro e w7 ⟨rfl, hs7, hf7⟩
  have hx7 := box_keep HX6.out hbl hf7
  have hy7 := old_keep HY6.out (Nat.le_succ _) hbl hf7
  have ho7 := HO6.out.fr hf7 (fun e => by omega)
  have x7 : w7.cell? ⟨w.heap.size, 0, none⟩ = some (.pointer (some ⟨b, 0, none⟩)) := hx7.cell 0
  have HX7 := Lib.hid hx7
  have HY7 := Lib.hid hy7
  have HO7 := Lib.hid ho7
  have HS7 := Lib.hid hs7
  have HF7 := Lib.hid (HF6.out.trans' hf7)
  clear hs7 hf7 hx7 hy7 ho7
  go_wp2_with fail
  refine (N6.out _ HS7.out).mono ?_
  rintro e w8 ⟨rfl, hs8, hf8⟩
  have hx8 := box_keep HX7.out hbl hf8
  have hy8 := old_keep HY7.out (Nat.le_succ _) hbl hf8
  have ho8 := HO7.out.fr hf8 (fun e => by omega)
  have oc8 : w8.cell? ⟨ob, 2, none⟩ = some (.bool false) := ho8.cell 2
  have of8 := ho8.frozen 2
  have ol8 := ho8.lt
  have FS8 : Fr (fun j => j = ob) w8 (w8.setCell ⟨ob, 2, none⟩ (.bool dis)) := (Fr.refl (fun j => j = ob) w8).setCell ⟨ob, 2, none⟩ (fun _ => rfl) _
  have hx8c : w8.cell? ⟨w.heap.size, 0, none⟩ = some (.pointer (some ⟨b, 0, none⟩)) := hx8.cell 0
  have hne8 : ¬ ob = w.heap.size := by omega
  have HX8 := Lib.hid (hx8.fr FS8 (fun e => by omega))
  have HY8 := Lib.hid (hy8.fr FS8 (fun e => by omega))
  have HO8 := Lib.hid (show Blk (w8.setCell ⟨ob, 2, none⟩ (.bool dis)) ob 30 #[.string ⟨#[82, 83, 84, 82, 69, 65, 77]⟩, .string it, .bool dis, .slice none 0 0, .slice none 0 0, .slice none 0 0, .slice none 0 0] from ho8.set_ 2 (.bool dis))
  have HS8 := Lib.hid (hs8.fr FS8 (fun e => by omega) (fun j hj e => own_blk_ne hs8.row ho8 (by decide) (by rw [hj, e])))
  have HF8 := Lib.hid ((HF7.out.trans' hf8).trans (T := fun j => j = b ∨ j = ob) (FS8.mono (fun _ _ h => .inr h)) (fun j hj h => h.elim id (fun h => absurd hj (by omega))))
  clear hs8 hf8 hx8 hy8 ho8 FS8
  go_wp2_with fail
  clear oc8 of8 hx8c
  generalize (w8.setCell ⟨ob, 2, none⟩ (.bool dis)) = w8' at *
  refine (N7.out _ HS8.out).mono ?_
  rintro e w9 ⟨rfl, hs9, hf9⟩
  have hx9 := box_keep HX8.out hbl hf9
  have hy9 := old_keep HY8.out (Nat.le_succ _) hbl hf9
  have ho8 := HO8.out.fr hf9 (fun e => by omega)
  have oc8 : w9.cell? ⟨ob, 3, none⟩ = some (.slice none 0 0) := ho8.cell 3
  have of8 := ho8.frozen 3
  have ol8 := ho8.lt
  have FS9 : Fr (fun j => j = ob) w9 (w9.setCell ⟨ob, 3, none⟩ (.slice (some ⟨w9.heap.size, 0, none⟩) 1 1)) := (Fr.refl (fun j => j = ob) _).setCell ⟨ob, 3, none⟩ (fun _ => rfl) _
  have hfa : Fr (fun _ => False) (w9.setCell ⟨ob, 3, none⟩ (.slice (some ⟨w9.heap.size, 0, none⟩) 1 1)) ((w9.setCell ⟨ob, 3, none⟩ (.slice (some ⟨w9.heap.size, 0, none⟩) 1 1)).alloc (.cells #[.string s0, .string s1, .string s2'] 176)) := (Fr.refl _ _).alloc _
  have hx9c : w9.cell? ⟨w.heap.size, 0, none⟩ = some (.pointer (some ⟨b, 0, none⟩)) := hx9.cell 0
  have hne9 : ¬ ob = w.heap.size := by omega
  obtain ⟨sb, hsb⟩ : ∃ sb, sb = w9.heap.size := ⟨_, rfl⟩
  have hsl := Blk.new (w9.setCell ⟨ob, 3, none⟩ (.slice (some ⟨w9.heap.size, 0, none⟩) 1 1)) 176 #[.string s0, .string s1, .string s2']
  rw [show ((w9.setCell ⟨ob, 3, none⟩ (.slice (some ⟨w9.heap.size, 0, none⟩) 1 1))).heap.size = w9.heap.size by simp, ← hsb] at hsl
  rw [← hsb] at FS9 hfa
  have HSL9 := Lib.hid hsl
  have HX9 := Lib.hid ((hx9.fr FS9 (fun e => by omega)).fr hfa (fun h => h))
  have HY9 := Lib.hid ((hy9.fr FS9 (fun e => by omega)).fr hfa (fun h => h))
  have HO9 := Lib.hid ((show Blk (w9.setCell ⟨ob, 3, none⟩ (.slice (some ⟨sb, 0, none⟩) 1 1)) ob 30 #[.string ⟨#[82, 83, 84, 82, 69, 65, 77]⟩, .string it, .bool dis, .slice (some ⟨sb, 0, none⟩) 1 1, .slice none 0 0, .slice none 0 0, .slice none 0 0] from ho8.set_ 3 _).fr hfa (fun h => h))
  have HS9 := Lib.hid ((hs9.fr FS9 (fun e => by omega) (fun j hj e => own_blk_ne hs9.row ho8 (by decide) (by rw [hj, e]))).frF hfa)
  have HF9 := Lib.hid (((HF8.out.trans' hf9).trans (T := fun j => j = b ∨ j = ob) (FS9.mono (fun _ _ h => .inr h)) (fun j hj h => h.elim id (fun h => absurd hj (by omega)))).trans hfa (fun _ _ h => h.elim))
  have hsbb : b < sb := by omega
  have hsbo : ob < sb := by omega
  clear hs9 hf9 hx9 hy9 ho8 FS9 hfa hsl
  go_wp2_with fail
  clear hx9c oc8 of8
  rw [← hsb]
  clear hsb
  generalize ((w9.setCell ⟨ob, 3, none⟩ (.slice (some ⟨sb, 0, none⟩) 1 1)).alloc (.cells #[.string s0, .string s1, .string s2'] 176)) = w10 at *
  have x10 : w10.cell? ⟨w.heap.size, 0, none⟩ = some (.pointer (some ⟨b, 0, none⟩)) := HX9.out.cell 0
  go_loopw [33] (fun _ wr => w10 = wr) (fun _ _ => 0)
  case atStart => exact rfl
  case round =>
    subst hrel
    have HX10 := HX9
    have HY10 := HY9
    have HO10 := HO9
    have HSL10 := HSL9
    have HS10 := HS9
    have HF10 := HF9
    clear HX9 HY9 HO9 HSL9 HS9 HF9
    go_wp2_with fail
    refine (N8.out _ HS10.out).mono ?_
    rintro e w11 ⟨rfl, hs11, hf11⟩
    have hx11 := box_keep HX10.out hbl hf11
    have HY11 := Lib.hid (old_keep HY10.out (Nat.le_succ _) hbl hf11)
    have HO11 := Lib.hid (HO10.out.fr hf11 (fun e => by omega))
    have HSL11 := Lib.hid (HSL10.out.fr hf11 (fun e => by omega))
    have x11 : w11.cell? ⟨w.heap.size, 0, none⟩ = some (.pointer (some ⟨b, 0, none⟩)) := hx11.cell 0
    have HX11 := Lib.hid hx11
    have HS11 := Lib.hid hs11
    have HF11 := Lib.hid (HF10.out.trans' hf11)
    clear hs11 hf11 hx11
    go_wp2_with fail
    refine (N9.out _ HS11.out).mono ?_
    rintro e w12 ⟨rfl, hs12, hf12⟩
    have hx12 := box_keep HX11.out hbl hf12
    have HY12 := Lib.hid (old_keep HY11.out (Nat.le_succ _) hbl hf12)
    have HO12 := Lib.hid (HO11.out.fr hf12 (fun e => by omega))
    have HSL12 := Lib.hid (HSL11.out.fr hf12 (fun e => by omega))
    have x12 : w12.cell? ⟨w.heap.size, 0, none⟩ = some (.pointer (some ⟨b, 0, none⟩)) := hx12.cell 0
    have HX12 := Lib.hid hx12
    have HS12 := Lib.hid hs12
    have HF12 := Lib.hid (HF11.out.trans' hf12)
    clear hs12 hf12 hx12
    go_wp2_with fail
    go_loopw [48] (fun _ wr => w12 = wr) (fun _ _ => 0)
    case atStart => exact rfl
    case round =>
      subst hrel
      go_wp2_with fail
      refine (N10.out _ HS12.out).mono ?_
      rintro e w13 ⟨rfl, hs13, hf13⟩
      have hx13 := box_keep HX12.out hbl hf13
      have HY13 := Lib.hid (old_keep HY12.out (Nat.le_succ _) hbl hf13)
      have HO13 := Lib.hid (HO12.out.fr hf13 (fun e => by omega))
      have HSL13 := Lib.hid (HSL12.out.fr hf13 (fun e => by omega))
      have x13 : w13.cell? ⟨w.heap.size, 0, none⟩ = some (.pointer (some ⟨b, 0, none⟩)) := hx13.cell 0
      have HX13 := Lib.hid hx13
      have HS13 := Lib.hid hs13
      have HF13 := Lib.hid (HF12.out.trans' hf13)
      clear hs13 hf13 hx13
      go_wp2_with fail
      refine (N11.out _ HS13.out).mono ?_
      rintro e w14 ⟨rfl, hs14, hf14⟩
      have hx14 := box_keep HX13.out hbl hf14
      have HY14 := Lib.hid (old_keep HY13.out (Nat.le_succ _) hbl hf14)
      have HO14 := Lib.hid (HO13.out.fr hf14 (fun e => by omega))
      have HSL14 := Lib.hid (HSL13.out.fr hf14 (fun e => by omega))
      have x14 : w14.cell? ⟨w.heap.size, 0, none⟩ = some (.pointer (some ⟨b, 0, none⟩)) := hx14.cell 0
      have HX14 := Lib.hid hx14
      have HS14 := Lib.hid hs14
      have HF14 := Lib.hid (HF13.out.trans' hf14)
      clear hs14 hf14 hx14
      go_wp2_with fail
      have N12' := Lib.hid (N12.out _ HF14.out HS14.out)
      cases deep with
      | true =>
        unfold GrpAny at N12'
        simp only [if_true] at N12'
        refine N12'.out.mono ?_
        rintro e w15 ⟨hT, hf15⟩
        unfold Thrown at hT
        subst hT
        have HP := Lib.hid (show QueryPost G w b A c rs q9 true pl ⟨#[82, 83, 84, 82, 69, 65, 77]⟩ it dis (.agg #[.string s0, .string s1, .string s2']) (.panicked [{ v := failV pl 15, recovered := false }]) w15 from by
          unfold QueryPost
          rw [if_pos rfl]
          exact ⟨rfl, HF14.out.trans' hf15⟩)
        clear hf15
        go_wp2_with fail
        exact ⟨rfl, HP.out⟩
      | false =>
        unfold GrpAny at N12'
        simp only [Bool.false_eq_true, if_false] at N12'
        refine N12'.out.mono ?_
        rintro e w15 ⟨v, rfl, hg15, hs15, hf15⟩
        obtain ⟨A5, n5, c5, rfl⟩ := HGL.slice hg15
        have hx15 := box_keep HX14.out hbl hf15
        have hy15 := old_keep HY14.out (Nat.le_succ _) hbl hf15
        have ho15 := HO14.out.fr hf15 (fun e => by omega)
        have hl15 := HSL14.out.fr hf15 (fun e => by omega)
        have oc : w15.cell? ⟨ob, 5, none⟩ = some (.slice none 0 0) := ho15.cell 5
        have of_ := ho15.frozen 5
        have ol := ho15.lt
        have FS : Fr (fun j => j = ob) w15 (w15.setCell ⟨ob, 5, none⟩ (.slice A5 n5 c5)) := (Fr.refl (fun j => j = ob) w15).setCell ⟨ob, 5, none⟩ (fun _ => rfl) _
        have xc : w15.cell? ⟨w.heap.size, 0, none⟩ = some (.pointer (some ⟨b, 0, none⟩)) := hx15.cell 0
        have hne : ¬ ob = w.heap.size := by omega
        have HX16 := Lib.hid (hx15.fr FS (fun e => by omega))
        have HY16 := Lib.hid (hy15.fr FS (fun e => by omega))
        have HO16 := Lib.hid (show Blk (w15.setCell ⟨ob, 5, none⟩ (.slice A5 n5 c5)) ob 30 #[.string ⟨#[82, 83, 84, 82, 69, 65, 77]⟩, .string it, .bool dis, .slice (some ⟨sb, 0, none⟩) 1 1, .slice none 0 0, .slice A5 n5 c5, .slice none 0 0] from ho15.set_ 5 (.slice A5 n5 c5))
        have HSL16 := Lib.hid (hl15.fr FS (fun e => by omega))
        have HS16 := Lib.hid (hs15.fr FS (fun e => by omega) (fun j hj e => own_blk_ne hs15.row ho15 (by decide) (by rw [hj, e])))
        have HG16 := Lib.hid (HGL.frB (HGL.base HF14.out.size hg15) ho15 (by decide) (by decide) FS)
        have HF16 := Lib.hid ((HF14.out.trans' hf15).trans (T := fun j => j = b ∨ j = ob) (FS.mono (fun _ _ h => .inr h)) (fun j hj h => h.elim id (fun h => absurd hj (by omega))))
        clear hx15 hy15 ho15 hl15 FS hs15 hg15 hf15
        go_wp2_with fail
        clear oc of_ xc
        generalize w15.setCell ⟨ob, 5, none⟩ (.slice A5 n5 c5) = w16 at *
        refine (N13.out _ HS16.out).mono ?_
        rintro e w17 ⟨rfl, hs17, hf17⟩
        have hy17 := old_keep HY16.out (Nat.le_succ _) hbl hf17
        have ho17 := HO16.out.fr hf17 (fun e => by omega)
        have hl17 := HSL16.out.fr hf17 (fun e => by omega)
        have HRG := Lib.hid (blkRange (cs := [.string ⟨#[82, 83, 84, 82, 69, 65, 77]⟩, .string it, .bool dis, .slice (some ⟨sb, 0, none⟩) 1 1, .slice none 0 0, .slice A5 n5 c5, .slice none 0 0]) ho17)
        have HTH := Lib.hid (Blk.there (cs := [.string ⟨#[]⟩, .string ⟨#[]⟩, .bool false, .slice none 0 0, .slice none 0 0, .slice none 0 0, .slice none 0 0]) hy17 (n := 7) rfl)
        have hst := Blk.setAll (vs := [.string ⟨#[82, 83, 84, 82, 69, 65, 77]⟩, .string it, .bool dis, .slice (some ⟨sb, 0, none⟩) 1 1, .slice none 0 0, .slice A5 n5 c5, .slice none 0 0]) (old := [.string ⟨#[]⟩, .string ⟨#[]⟩, .bool false, .slice none 0 0, .slice none 0 0, .slice none 0 0, .slice none 0 0]) hy17 rfl
        have HONE := Lib.hid (show (#[.string ⟨#[82, 83, 84, 82, 69, 65, 77]⟩, .string it, .bool dis, .slice (some ⟨sb, 0, none⟩) 1 1, .slice none 0 0, .slice A5 n5 c5, .slice none 0 0] : Array Value).all (·.oneCell') = true from all_oneCell_toArray (by
          intro v hv
          simp only [List.mem_cons, List.not_mem_nil, or_false] at hv
          rcases hv with rfl | rfl | rfl | rfl | rfl | rfl | rfl <;> rfl))
        have HY18 := Lib.hid hst.1
        have HG17 := HGL.frB HG16.out HS16.out.blk (by decide) (by decide) hf17
        have HP := Lib.hid (show QueryPost G w b A c rs q9 false pl ⟨#[82, 83, 84, 82, 69, 65, 77]⟩ it dis (.agg #[.string s0, .string s1, .string s2']) (.returned (.agg #[.string ⟨#[82, 83, 84, 82, 69, 65, 77]⟩, .string it, .bool dis, .slice (some ⟨sb, 0, none⟩) 1 1, .slice none 0 0, .slice A5 n5 c5, .slice none 0 0])) (w17.setCells (w.heap.size + 1) 0 [.string ⟨#[82, 83, 84, 82, 69, 65, 77]⟩, .string it, .bool dis, .slice (some ⟨sb, 0, none⟩) 1 1, .slice none 0 0, .slice A5 n5 c5, .slice none 0 0]) from by
          unfold QueryPost
          rw [if_neg (by decide)]
          exact ⟨sb, _, rfl, hl17.fr hst.2 (fun e => by omega), HGL.frB HG17 hy17 (by decide) (by decide) hst.2, hs17.fr hst.2 (fun e => by omega) (fun j hj e => own_blk_ne hs17.row hy17 (by decide) (by rw [hj, e])), (HF16.out.trans' hf17).trans (T := fun j => j = b ∨ j = w.heap.size + 1) (hst.2.mono (fun _ _ h => .inr h)) (fun j hj h => h.elim id (fun h => absurd hj (by omega)))⟩)
        clear hy17 ho17 hl17 hst hs17 hf17 HG17
        go_wp2_with (first | refine wpList_load_mid rfl 30 _ rfl ob 0 rfl _ _ HRG.out Tryz.underlying30 rfl info30 ?_ | refine wpList_store_mid rfl 30 _ _ rfl _ _ _ rfl rfl HTH.out info30 HONE.out ?_)
        exact bodyPost_ret (v := .agg #[.string ⟨#[82, 83, 84, 82, 69, 65, 77]⟩, .string it, .bool dis, .slice (some ⟨sb, 0, none⟩) 1 1, .slice none 0 0, .slice A5 n5 c5, .slice none 0 0]) (results_cell_row rfl _ _ (w.heap.size + 1) 30 _ (0, 0) _ rfl HY18.out Tryz.underlying30 rfl (by kernel_rfl)) rfl HP.out

end Go.Proofs.YtebddgdkndmpjaaGreatDoor
