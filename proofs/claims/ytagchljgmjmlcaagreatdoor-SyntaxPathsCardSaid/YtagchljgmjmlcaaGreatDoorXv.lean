/- Texts of the proof, one behind the other: Sd, Se. -/
import Derived.Test.YtagchljgmjmlcaaGreatDoorXu
import Derived.Deep.CutBlock
import Derived.Deep.RegionLawGrows
import Derived.Deep.Cut
import Derived.Deep.CutRange
import Derived.WalkKit
import Derived.WalkLawsBesides
import Derived.WalkSpells
import Derived.Deep.QuietTactic
import Derived.BigRegion
import Derived.BigQuiet
import Derived.Lib.Hide
import Derived.Outline
import Derived.Deep.AppendLies
import Derived.Deep.RegionLaw
import Derived.Deep.RegionWith
import Derived.Deep.RegionHeld3
import Derived.Deep.LoopGhost
import Derived.Deep.DeepFit
import Derived.Laws.ResultCell
import Derived.Laws.RangeAny
import Derived.Deep.MidRow
import Derived.StillTailTactics
import Derived.OpenShut
namespace Go.Proofs.YtagchljgmjmlcaaGreatDoor
set_option linter.unusedVariables false
open Go.RowKit Go
set_option maxRecDepth 100000
set_option maxHeartbeats 40000000

theorem same_any (k : Int) (i : ByteArray) (ts : List PT) (hlen : ts.length ≤ 9000) (w : World) (B1 B2 : Nat) (A1 A2 : Option Addr) (c1 c2 : Nat) (L1 L2 : List (List Value)) (h1 : TParts39 w B1 A1 c1 ts L1) (h2 : TParts39 w B2 A2 c2 ts L2)
    (HN : ∀ (w1 : World) (t : PT) (l1 l2 : List Value), t ∈ ts → PAt 39 w1 B1 t l1 → PAt 39 w1 B2 t l2 → Calls Tryz.prog 8 #[.agg l1.toArray, .agg l2.toArray] w1 (IsB true w1)) :
    Calls Tryz.prog 8 #[.agg #[.int .i64 k, .string i, .slice A1 ts.length c1], .agg #[.int .i64 k, .string i, .slice A2 ts.length c2]] w (IsB true w) := by
 have hcap1 : (ts.length : Int) ≤ (c1 : Int) := row_cap h1.2.2
 have hcap2 : (ts.length : Int) ≤ (c2 : Int) := row_cap h2.2.2
 obtain ⟨n, hn⟩ : ∃ n, n = ts.length := ⟨_, rfl⟩
 have HP1 := Lib.hid h1
 have HP2 := Lib.hid h2
 have HNN := Lib.hid HN
 rw [← hn] at hlen hcap1 hcap2 ⊢
 have HN' := Lib.hid hn
 have hf0 : Fr (fun _ => False) w ((w.alloc (.cells #[.int .i64 k, .string i, .slice A1 n c1] 39)).alloc (.cells #[.int .i64 k, .string i, .slice A2 n c2] 39)) := ((Fr.refl _ _).alloc _).alloc _
 have hx := (Blk.new w 39 #[.int .i64 k, .string i, .slice A1 n c1]).alloc (.cells #[.int .i64 k, .string i, .slice A2 n c2] 39)
 have hy := Blk.new (w.alloc (.cells #[.int .i64 k, .string i, .slice A1 n c1] 39)) 39 #[.int .i64 k, .string i, .slice A2 n c2]
 rw [show (w.alloc (.cells #[.int .i64 k, .string i, .slice A1 n c1] 39)).heap.size = w.heap.size + 1 by simp] at hy
 have HF := Lib.hid hf0
 have HX := Lib.hid hx
 have HY := Lib.hid hy
 have x0 : ((w.alloc (.cells #[.int .i64 k, .string i, .slice A1 n c1] 39)).alloc (.cells #[.int .i64 k, .string i, .slice A2 n c2] 39)).cell? ⟨w.heap.size, 0, none⟩ = some (.int .i64 k) := hx.cell 0
 have x2 : ((w.alloc (.cells #[.int .i64 k, .string i, .slice A1 n c1] 39)).alloc (.cells #[.int .i64 k, .string i, .slice A2 n c2] 39)).cell? ⟨w.heap.size, 2, none⟩ = some (.slice A1 n c1) := hx.cell 2
 have y0 : ((w.alloc (.cells #[.int .i64 k, .string i, .slice A1 n c1] 39)).alloc (.cells #[.int .i64 k, .string i, .slice A2 n c2] 39)).cell? ⟨w.heap.size + 1, 0, none⟩ = some (.int .i64 k) := hy.cell 0
 have y1 : ((w.alloc (.cells #[.int .i64 k, .string i, .slice A1 n c1] 39)).alloc (.cells #[.int .i64 k, .string i, .slice A2 n c2] 39)).cell? ⟨w.heap.size + 1, 1, none⟩ = some (.string i) := hy.cell 1
 have x1 : ((w.alloc (.cells #[.int .i64 k, .string i, .slice A1 n c1] 39)).alloc (.cells #[.int .i64 k, .string i, .slice A2 n c2] 39)).cell? ⟨w.heap.size, 1, none⟩ = some (.string i) := hx.cell 1
 have y2 : ((w.alloc (.cells #[.int .i64 k, .string i, .slice A1 n c1] 39)).alloc (.cells #[.int .i64 k, .string i, .slice A2 n c2] 39)).cell? ⟨w.heap.size + 1, 2, none⟩ = some (.slice A2 n c2) := hy.cell 2
 clear hx hy hf0 h1 h2 HN hn
 go_enter Tryz.func8, Tryz.ntmps8
 go_wp2_with fail
 generalize ((w.alloc (.cells #[.int .i64 k, .string i, .slice A1 n c1] 39)).alloc (.cells #[.int .i64 k, .string i, .slice A2 n c2] 39)) = w3 at *
 clear x0 x1 x2 y0 y1 y2
 go_loopg [30] (n) (fun gk a wr => ∃ j : Nat, a = .int .i64 (j : Int) ∧ n ≤ j + gk ∧ j ≤ n ∧ Fr (fun _ => False) w wr ∧ Blk wr w.heap.size 39 #[.int .i64 k, .string i, .slice A1 n c1] ∧ Blk wr (w.heap.size + 1) 39 #[.int .i64 k, .string i, .slice A2 n c2])
 case atStart => exact ⟨0, rfl, by omega, by omega, HF.out, HX.out, HY.out⟩
 case round =>
  clear HF HX HY
  obtain ⟨j, rfl, hgk, hj, hf, hx, hy⟩ := hrel
  have HF := Lib.hid hf
  have HX := Lib.hid hx
  have HY := Lib.hid hy
  by_cases hjn : j < n
  · have hp := HP1.out.frF hf
    have hq := HP2.out.frF hf
    have hjt : j < ts.length := by rw [← HN'.out]; exact hjn
    have hjL : j < L1.length := by rw [hp.1]; exact hjt
    have hjM : j < L2.length := by rw [hq.1]; exact hjt
    have e1 := List.getElem?_eq_getElem hjL
    have e2 := List.getElem?_eq_getElem hjM
    have et := List.getElem?_eq_getElem hjt
    have hpa := hp.2.1 j _ _ et e1
    have hqa := hq.2.1 j _ _ et e2
    obtain ⟨g1, hA⟩ := row_addr hp.2.2 (by omega)
    subst hA
    obtain ⟨g2, hA⟩ := row_addr hq.2.2 (by omega)
    subst hA
    have hr1 := row_range hp.2.2 hp.three e1
    have hr2 := row_range hq.2.2 hq.three e2
    have HC := Lib.hid (fun w1 (hfw : Fr (fun _ => False) wr w1) => HNN.out w1 ts[j] _ _ (List.getElem_mem _) (hpa.frF hfw) (hqa.frF hfw))
    obtain ⟨k3, i3, A3, n3, c3, hl1⟩ := hpa.cells
    obtain ⟨k4, v4, A4, n4, c4, hl2⟩ := hqa.cells
    rw [hl1, hl2] at HC
    rw [hl1, Nat.mul_comm] at hr1
    rw [hl2, Nat.mul_comm] at hr2
    have HC2 := Lib.hid (HC.out _ (Fr.refl _ _).drew)
    have p0 : wr.cell? ⟨g1, j * 3, none⟩ = some (.int .i64 k3) := hr1 0 _ rfl
    have p1 : wr.cell? ⟨g1, j * 3 + 1, none⟩ = some (.string i3) := hr1 1 _ rfl
    have p2 : wr.cell? ⟨g1, j * 3 + 2, none⟩ = some (.slice A3 n3 c3) := hr1 2 _ rfl
    have q0 : wr.cell? ⟨g2, j * 3, none⟩ = some (.int .i64 k4) := hr2 0 _ rfl
    have q1 : wr.cell? ⟨g2, j * 3 + 1, none⟩ = some (.string v4) := hr2 1 _ rfl
    have q2 : wr.cell? ⟨g2, j * 3 + 2, none⟩ = some (.slice A4 n4 c4) := hr2 2 _ rfl
    have x2 : wr.cell? ⟨w.heap.size, 2, none⟩ = some (.slice (some ⟨g1, 0, none⟩) n c1) := hx.cell 2
    have y2 : wr.cell? ⟨w.heap.size + 1, 2, none⟩ = some (.slice (some ⟨g2, 0, none⟩) n c2) := hy.cell 2
    have hj0 : (0 : Int) ≤ (j : Int) := by omega
    have hjn2 : (j : Int) < (n : Int) := by omega
    clear hp hq hjt hjL hjM e1 e2 et hpa hqa hr1 hr2 hl1 hl2 hf hx hy HC HP1 HP2 HNN
    go_wp2_with fail
    go_region_law (go_simp; go_at_call 8; refine HC2.out.mono ?_; rintro e w6 ⟨rfl, hf6⟩)
    all_goals
     have hf7 : Fr (fun _ => False) wr w6 := Fr.trans' (Fr.refl _ _).drew hf6
     have HF7 := Lib.hid (HF.out.trans' hf7)
     have HX7 := Lib.hid (HX.out.fr hf7 (fun h => h))
     have HY7 := Lib.hid (HY.out.fr hf7 (fun h => h))
     clear hf6 hf7 HF HX HY HC2 p0 p1 p2 q0 q1 q2 x2 y2
     go_wp2_with fail
     go_roundg (n - (j + 1))
     case measure => omega
     exact ⟨j + 1, by push_cast; rfl, by omega, by omega, HF7.out, HX7.out, HY7.out⟩
  · obtain rfl : j = n := by omega
    go_wp2_with fail
    go_ret
    exact IsB.mk HF.out
theorem same_ok (t : PT) (hw : Wide t) : ∀ (w : World) (B1 B2 : Nat) (l1 l2 : List Value), PAt 39 w B1 t l1 → PAt 39 w B2 t l2 → Calls Tryz.prog 8 #[.agg l1.toArray, .agg l2.toArray] w (IsB true w) := by
 induction hw with
 | leaf k i =>
  intro w B1 B2 l1 l2 h1 h2
  cases h1
  cases h2
  exact same_any k i [] (by decide) w 0 0 none none 0 0 [] [] ⟨rfl, fun i t l h _ => by simp at h, World.ownsRow_nil _ _ _ _⟩ ⟨rfl, fun i t l h _ => by simp at h, World.ownsRow_nil _ _ _ _⟩ (fun _ t _ _ h => by cases h)
 | node k ts hn hw ih =>
  intro w B1 B2 l1 l2 h1 h2
  cases h1 with
  | node _ _ A c L hL hpp hr =>
   cases h2 with
   | node _ _ A' c' L' hL' hpp' hr' => exact same_any k _ ts (by omega) w B1 B2 A A' c c' L L' ⟨hL, hpp, hr⟩ ⟨hL', hpp', hr'⟩ (fun w1 t l1 l2 ht h1 h2 => ih t ht w1 B1 B2 l1 l2 h1 h2)

theorem parts_frX {w w' : World} {B x : Nat} {v : Value} {ts : List PT} {L : List (List Value)} (h : Parts w B v ts L) (hxB : x < B) (hf : Fr (fun j => j = x) w w') : Parts w' B v ts L :=
 ⟨h.len, fun i t l h1 h2 => (h.each i t l h1 h2).fr hf (fun j hj e => by have := hj.1; omega), ownsRow_fr h.row hf (fun k hk e => by have := own_ge h.row hk; omega)⟩
/-- A path as the document has it. -/
def CPost (t : PT) (w : World) (e : Ending) (w' : World) : Prop :=
 ∃ (k : Int) (i : ByteArray) (A : Option Addr) (n c : Nat), e = .returned (.agg #[.int .i64 k, .string i, .slice A n c]) ∧ PAt 39 w' w.heap.size t [.int .i64 k, .string i, .slice A n c] ∧ Fr (fun _ => False) w w'
theorem conv_any (k : Int) (i : ByteArray) (ts : List PT) (hlen : ts.length ≤ 9000) (w : World) (B : Nat) (A : Option Addr) (c : Nat) (L : List (List Value)) (h : PartAt w B A c ts L)
    (HN : ∀ (w1 : World) (t : PT) (l : List Value), t ∈ ts → PAt 62 w1 B t l → Calls Tryz.prog 9 #[.agg l.toArray] w1 (CPost t w1)) :
    Calls Tryz.prog 9 #[.agg #[.int .i64 k, .string i, .slice A ts.length c]] w (fun e w' => ∃ (A3 : Option Addr) (c3 : Nat) (L3 : List (List Value)), e = .returned (.agg #[.int .i64 k, .string i, .slice A3 ts.length c3]) ∧ Parts w' (w.heap.size + 3) (.slice A3 ts.length c3) ts L3 ∧ (ts.length = 0 → A3 = none ∧ c3 = 0) ∧ Fr (fun _ => False) w w') := by
 obtain ⟨i39, hi39, hz390, hz391, hz392⟩ := info_parts infZ39
 have hf0 : Fr (fun _ => False) w (((w.alloc (.cells #[.int .i64 k, .string i, .slice A ts.length c] 62)).alloc (.cells #[.int .i64 0, .string ⟨#[]⟩, .slice none 0 0] 39)).alloc (.cells #[.int .i64 k, .string i, .slice none 0 0] 39)) := (((Fr.refl _ _).alloc _).alloc _).alloc _
 have hz : (w.alloc (.cells #[.int .i64 k, .string i, .slice A ts.length c] 62)).heap.size = w.heap.size + 1 := by simp
 have hz2 : ((w.alloc (.cells #[.int .i64 k, .string i, .slice A ts.length c] 62)).alloc (.cells #[.int .i64 0, .string ⟨#[]⟩, .slice none 0 0] 39)).heap.size = w.heap.size + 2 := by simp
 have hz3 : (((w.alloc (.cells #[.int .i64 k, .string i, .slice A ts.length c] 62)).alloc (.cells #[.int .i64 0, .string ⟨#[]⟩, .slice none 0 0] 39)).alloc (.cells #[.int .i64 k, .string i, .slice none 0 0] 39)).heap.size = w.heap.size + 3 := by simp
 have hy := Blk.new (w.alloc (.cells #[.int .i64 k, .string i, .slice A ts.length c] 62)) 39 #[.int .i64 0, .string ⟨#[]⟩, .slice none 0 0]
 rw [hz] at hy
 have ho := Blk.new ((w.alloc (.cells #[.int .i64 k, .string i, .slice A ts.length c] 62)).alloc (.cells #[.int .i64 0, .string ⟨#[]⟩, .slice none 0 0] 39)) 39 #[.int .i64 k, .string i, .slice none 0 0]
 rw [hz2] at ho
 have hx := ((Blk.new w 62 #[.int .i64 k, .string i, .slice A ts.length c]).alloc (.cells #[.int .i64 0, .string ⟨#[]⟩, .slice none 0 0] 39)).alloc (.cells #[.int .i64 k, .string i, .slice none 0 0] 39)
 have HX := Lib.hid hx
 have HY := Lib.hid (hy.alloc (.cells #[.int .i64 k, .string i, .slice none 0 0] 39))
 have HO := Lib.hid ho
 have HFr := Lib.hid hf0.up
 have HPA := Lib.hid h
 have HNN := Lib.hid HN
 have c0 : (((w.alloc (.cells #[.int .i64 k, .string i, .slice A ts.length c] 62)).alloc (.cells #[.int .i64 0, .string ⟨#[]⟩, .slice none 0 0] 39)).alloc (.cells #[.int .i64 k, .string i, .slice none 0 0] 39)).cell? ⟨w.heap.size, 0, none⟩ = some (.int .i64 k) := hx.cell 0
 have c1 : (((w.alloc (.cells #[.int .i64 k, .string i, .slice A ts.length c] 62)).alloc (.cells #[.int .i64 0, .string ⟨#[]⟩, .slice none 0 0] 39)).alloc (.cells #[.int .i64 k, .string i, .slice none 0 0] 39)).cell? ⟨w.heap.size, 1, none⟩ = some (.string i) := hx.cell 1
 have c2 : (((w.alloc (.cells #[.int .i64 k, .string i, .slice A ts.length c] 62)).alloc (.cells #[.int .i64 0, .string ⟨#[]⟩, .slice none 0 0] 39)).alloc (.cells #[.int .i64 k, .string i, .slice none 0 0] 39)).cell? ⟨w.heap.size, 2, none⟩ = some (.slice A ts.length c) := hx.cell 2
 have hcap : (ts.length : Int) ≤ (c : Int) := by
  rcases h.2.2.2 with ⟨h0, h1⟩ | ⟨gg, cap, cur, h0, _, _, hc, _⟩
  · omega
  · injection h0 with _ _ h0
    omega
 obtain ⟨n, hn⟩ : ∃ n, n = ts.length := ⟨_, rfl⟩
 rw [← hn] at hlen hcap HX HY HO HFr c0 c1 c2 hz3 ⊢
 have HN' := Lib.hid hn
 clear hf0 hx hy ho h HN hz hz2 hn
 go_enter Tryz.func9, Tryz.ntmps9
 go_wp2_with fail
 generalize (((w.alloc (.cells #[.int .i64 k, .string i, .slice A n c] 62)).alloc (.cells #[.int .i64 0, .string ⟨#[]⟩, .slice none 0 0] 39)).alloc (.cells #[.int .i64 k, .string i, .slice none 0 0] 39)) = w3 at *
 go_loopg [14] (n) (fun gk a wr => ∃ (j : Nat) (A3 : Option Addr) (c3 : Nat) (done : List PT) (L3 : List (List Value)), a = .int .i64 (j : Int) ∧ n ≤ j + gk ∧ j ≤ n ∧ done = ts.take j ∧ Parts wr (w.heap.size + 3) (.slice A3 j c3) done L3 ∧ (j = 0 → A3 = none ∧ c3 = 0) ∧ Blk wr (w.heap.size + 2) 39 #[.int .i64 k, .string i, .slice A3 j c3] ∧ Blk wr (w.heap.size + 1) 39 #[.int .i64 0, .string ⟨#[]⟩, .slice none 0 0] ∧ Fr (fun j => w.heap.size ≤ j) w wr)
 case atStart => exact ⟨0, none, 0, [], [], rfl, by omega, by omega, by simp, ⟨rfl, fun i t l h _ => by simp at h, World.ownsRow_nil _ _ _ _⟩, fun _ => ⟨rfl, rfl⟩, HO.out, HY.out, HFr.out⟩
 case round =>
  clear HX HY HO HFr c0 c1 c2
  obtain ⟨j, A3, c3, done, L3, rfl, hgk, hj, hdone, htp, hnil, hob, hrb, hfr⟩ := hrel
  have HTP := Lib.hid htp
  have HOB := Lib.hid hob
  have HRB := Lib.hid hrb
  have HFR := Lib.hid hfr
  have HD := Lib.hid hdone
  have hol := hob.lt
  clear htp hob hrb hfr hdone
  by_cases hjn : j < n
  · have hp := HPA.out.frF (HFR.out.shut (Nat.le_refl _))
    have hjt : j < ts.length := by rw [← HN'.out]; exact hjn
    have hjL : j < L.length := by rw [hp.1]; exact hjt
    have h1 := List.getElem?_eq_getElem hjL
    have h2 := List.getElem?_eq_getElem hjt
    have hpa := hp.2.1 j _ _ h2 h1
    obtain ⟨g, hA⟩ : ∃ g, A = some ⟨g, 0, none⟩ := by
     rcases hp.2.2.2 with ⟨h0, h1⟩ | ⟨gg, cap, cur, h0, _⟩
     · omega
     · injection h0 with h0 _ _
       exact ⟨gg, h0⟩
    subst hA
    have HRA := Lib.hid (row_range hp.2.2 hp.three h1)
    obtain ⟨k2, i2, A2, n2, c2, hl⟩ := hpa.cells
    rw [hl, Nat.mul_comm] at HRA
    rw [hl] at hpa
    have HC := Lib.hid (fun w1 (hf : Fr (fun _ => False) wr w1) => HNN.out w1 ts[j] _ (List.getElem_mem _) (hpa.frF hf))
    have HDN := Lib.hid (show done ++ [ts[j]] = ts.take (j + 1) by rw [HD.out, List.take_succ_eq_append_getElem hjt])
    have HDL := Lib.hid (show done.length = j by rw [HD.out, List.length_take]; omega)
    generalize ts[j] = tj at *
    clear h1 h2 hpa hp hl hjL hjt HNN HPA
    have hj0 : (0 : Int) ≤ (j : Int) := by omega
    have hjn2 : (j : Int) < (n : Int) := by omega
    have hf4 : Fr (fun _ => False) wr (wr.alloc (.cells #[.int .i64 k2, .string i2, .slice A2 n2 c2] 62)) := (Fr.refl _ _).alloc _
    have hx4 := Blk.new wr 62 #[.int .i64 k2, .string i2, .slice A2 n2 c2]
    have p0 : (wr.alloc (.cells #[.int .i64 k2, .string i2, .slice A2 n2 c2] 62)).cell? ⟨wr.heap.size, 0, none⟩ = some (.int .i64 k2) := hx4.cell 0
    have p1 : (wr.alloc (.cells #[.int .i64 k2, .string i2, .slice A2 n2 c2] 62)).cell? ⟨wr.heap.size, 1, none⟩ = some (.string i2) := hx4.cell 1
    have p2 : (wr.alloc (.cells #[.int .i64 k2, .string i2, .slice A2 n2 c2] 62)).cell? ⟨wr.heap.size, 2, none⟩ = some (.slice A2 n2 c2) := hx4.cell 2
    have o4 : (wr.alloc (.cells #[.int .i64 k2, .string i2, .slice A2 n2 c2] 62)).cell? ⟨w.heap.size + 1 + 1, 2, none⟩ = some (.slice A3 j c3) := (HOB.out.fr hf4 (fun h => h)).cell 2
    have HOB4 := Lib.hid (HOB.out.fr hf4 (fun h => h))
    have HRB4 := Lib.hid (HRB.out.fr hf4 (fun h => h))
    have HTP4 := Lib.hid (HTP.out.frF hf4)
    have HFR4 := Lib.hid (HFR.out.andF hf4)
    have HC4 := Lib.hid (fun w1 (hf : Fr (fun _ => False) (wr.alloc (.cells #[.int .i64 k2, .string i2, .slice A2 n2 c2] 62)) w1) => HC.out w1 (hf4.trans' hf))
    unfold CPost at HC4
    have hw34 : w.heap.size + 3 ≤ wr.heap.size := by omega
    clear hx4 hf4 HC
    go_wp2_with ((with_reducible change wpList _ _ _ (Oper.mk _ (.load 62 _) _ _ _ _ :: _) _ _); refine wpList_load_mid rfl 62 _ rfl _ _ rfl _ _ HRA.out Tryz.underlying62 rfl inf62 ?_)
    go_region_law (first
     | (go_simp; go_at_call 9; refine (HC4.out _ (by repeat' (first | exact Fr.refl _ _ | refine Fr.drew ?_))).mono ?_; rintro e w6 ⟨k5, N5, A5, n5, c5, rfl, hna, hf6⟩; have F6 : Fr (fun _ => False) (wr.alloc (.cells #[.int .i64 k2, .string i2, .slice A2 n2 c2] 62)) w6 := Fr.trans' (by repeat' (first | exact Fr.refl _ _ | refine Fr.drew ?_)) hf6; have ho6 := HOB4.out.fr F6 (fun h => h); have o6 : w6.cell? ⟨w.heap.size + 1 + 1, 2, none⟩ = some (.slice A3 j c3) := ho6.cell 2; have l6 : w.heap.size + 1 + 1 < w6.heap.size := ho6.lt; have htp6 := HTP4.out.frF F6; have hlr6 := htp6.row)
     | (refine step_append_lies _ (by rfl) _ _ 37 (by rfl) (w.heap.size + 3) 39 i39 _ 3 48 Tryz.underlying37 hi39 hz390 hz391 hz392 rfl (by decide) (.slice A3 j c3) j L3.flatten (by rfl) (by have h := hlr6.alloc (.cells #[.int .i64 k5, .string N5, .slice A5 n5 c5] 39); rw [HDL.out] at h; exact h) _ 1 1 [.int .i64 k5, .string N5, .slice A5 n5 c5] (by rfl) rfl (World.news_of_block (heap_alloc_new w6 _)) (by intro u hu; simp only [List.mem_cons, List.not_mem_nil, or_false] at hu; rcases hu with rfl | rfl | rfl <;> rfl) (by decide) (by unfold maxLen; omega) (by omega) (by have := F6.size; have h9 : wr.heap.size ≤ (wr.alloc (.cells #[.int .i64 k2, .string i2, .slice A2 n2 c2] 62)).heap.size := (by simp); simp; omega) _ rfl ?_; intro g8 cap8 w8 hown8 hgr8 hor8 hlt8; have ho8 := (ho6.fr ((Fr.refl (fun _ => False) w6).alloc _) (fun h => h)).fr (Fr.of_grown hgr8) (fun e => by have := own_ge hlr6 e; omega); have o8 : w8.cell? ⟨w.heap.size + 1 + 1, 2, none⟩ = some (.slice A3 j c3) := ho8.cell 2; have f8 : w8.frozen? ⟨w.heap.size + 1 + 1, 2, none⟩ = false := ho8.frozen 2; have l8 : w.heap.size + 1 + 1 < w8.heap.size := ho8.lt))
    all_goals
     have FS : Fr (fun j => j = w.heap.size + 1 + 1) w8 (w8.setCell ⟨w.heap.size + 1 + 1, 2, none⟩ (.slice (some ⟨g8, 0, none⟩) (j + 1) cap8)) := (Fr.refl (fun j => j = w.heap.size + 1 + 1) w8).setCell ⟨w.heap.size + 1 + 1, 2, none⟩ (fun _ => rfl) _
     have hs4 : (wr.alloc (.cells #[.int .i64 k2, .string i2, .slice A2 n2 c2] 62)).drew.heap.size = wr.heap.size + 1 := by simp
     have hp6 := Parts.push (w' := w8) (l := [.int .i64 k5, .string N5, .slice A5 n5 c5]) (htp6.frF ((Fr.refl (fun _ => False) w6).alloc (.cells #[.int .i64 k5, .string N5, .slice A5 n5 c5] 39))) ((PBt.imp (S' := fun i => w.heap.size + 3 ≤ i ∧ (Value.slice A3 j c3).ownBlock ≠ some i) (fun i _ hb => ⟨by omega, fun e => by have := (World.ownsRow.lt HTP.out.row _ e).2; omega⟩) hna.toB).fr ((Fr.refl (fun _ => False) w6).alloc (.cells #[.int .i64 k5, .string N5, .slice A5 n5 c5] 39)) (fun _ _ h => h)) (by rw [HDL.out]; exact hown8) hgr8 hor8
     rw [HDL.out, HDN.out] at hp6
     have HTP9 := Lib.hid (parts_frX hp6 (by omega) FS)
     have HOB9 := Lib.hid (show Blk (w8.setCell ⟨w.heap.size + 1 + 1, 2, none⟩ (.slice (some ⟨g8, 0, none⟩) (j + 1) cap8)) (w.heap.size + 2) 39 #[.int .i64 k, .string i, .slice (some ⟨g8, 0, none⟩) (j + 1) cap8] from ho8.set_ 2 _)
     have hrb8 := ((HRB4.out.fr F6 (fun h => h)).alloc (.cells #[.int .i64 k5, .string N5, .slice A5 n5 c5] 39)).fr (Fr.of_grown hgr8) (fun e => by have := own_ge hlr6 e; omega)
     have HRB9 := Lib.hid (hrb8.fr FS (by omega))
     have HFR9 := Lib.hid ((((HFR4.out.andF F6).alloc (.cells #[.int .i64 k5, .string N5, .slice A5 n5 c5] 39)).grown hgr8 (fun i _ e => by have := own_ge hlr6 e; omega)).andX FS (by omega))
     clear hna hf6 F6 ho6 o6 l6 htp6 hlr6 hown8 hgr8 hor8 hlt8 ho8 o8 f8 l8 FS hs4 hp6 hrb8 HTP HOB HRB HFR HTP4 HOB4 HRB4 HFR4 HC4 HRA p0 p1 p2 o4 HDN HDL HD
     go_wp2_with fail
     go_roundg (n - (j + 1))
     case measure => omega
     exact ⟨j + 1, _, _, _, _, by push_cast; rfl, by omega, by omega, rfl, HTP9.out, fun h => absurd h (Nat.succ_ne_zero j), HOB9.out, HRB9.out, HFR9.out⟩
  · obtain rfl : j = n := by omega
    have HDT := Lib.hid (show done = ts by rw [HD.out, HN'.out, List.take_length])
    have HNA := Lib.hid (fun wz (hfz : Fr (fun j => j = w.heap.size + 1) wr wz) => show Parts wz (w.heap.size + 3) (.slice A3 j c3) ts L3 from by
     rw [← HDT.out]
     exact parts_frX HTP.out (by omega) hfz)
    have HNIL := Lib.hid hnil
    clear hnil
    clear HNN HPA HTP
    go_wp2_with (first | ((with_reducible change wpList _ _ _ (Oper.mk _ (.load 39 _) _ _ _ _ :: _) _ _); refine wpList_load_blk rfl 39 _ rfl _ rfl 39 #[.int .i64 k, .string i, .slice A3 j c3] HOB.out _ Tryz.underlying39 rfl inf39 ?_) | ((with_reducible change wpList _ _ _ (Oper.mk _ (.store 39 _ _) _ _ _ _ :: _) _ _); refine wpList_store_blkH rfl 39 _ _ rfl _ #[.int .i64 k, .string i, .slice A3 j c3] rfl rfl 39 _ HRB.out (by rfl) (by exact inf39) (cells39 _ _ _ _ _).one ?_))
    refine Lib.hid ?_
    rintro wz hbz hfz
    have HFZ := Lib.hid ((HFR.out.andX hfz (by omega)).shut (Nat.le_refl _))
    go_wp2_with fail
    exact bodyPost_ret (v := .agg #[.int .i64 k, .string i, .slice A3 j c3]) (results_cell_row rfl _ _ (w.heap.size + 1) 39 _ (0, 0) _ rfl hbz Tryz.underlying39 rfl inf39) rfl ⟨A3, c3, L3, rfl, HNA.out wz hfz, HNIL.out, HFZ.out⟩
theorem conv_ok (t : PT) (hw : Wide t) : ∀ (w : World) (B : Nat) (l : List Value), PAt 62 w B t l → Calls Tryz.prog 9 #[.agg l.toArray] w (CPost t w) := by
 induction hw with
 | leaf k i =>
  intro w B l h
  cases h
  refine (conv_any k i [] (by decide) w 0 none 0 [] ⟨rfl, fun i t l h _ => by simp at h, World.ownsRow_nil _ _ _ _⟩ (fun _ t _ h => by cases h)).mono (fun e w' h => ?_)
  obtain ⟨A3, c3, L3, rfl, hp, h0, hf⟩ := h
  obtain ⟨rfl, rfl⟩ := h0 rfl
  exact ⟨_, _, _, _, _, rfl, .leaf _ _, hf⟩
 | node k ts hn hw ih =>
  intro w B l h
  cases h with
  | node _ _ A c L hL hpp hr =>
   refine (conv_any k _ ts (by omega) w B A c L ⟨hL, hpp, hr⟩ (fun w1 t l ht hl => ih t ht w1 B l hl)).mono (fun e w' h => ?_)
   obtain ⟨A3, c3, L3, rfl, hp, h0, hf⟩ := h
   exact ⟨_, _, _, _, _, rfl, (hp.node k).base (by omega), hf⟩

end Go.Proofs.YtagchljgmjmlcaaGreatDoor
