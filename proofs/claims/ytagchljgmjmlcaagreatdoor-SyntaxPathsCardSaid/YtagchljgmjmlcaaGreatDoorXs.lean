/- Texts of the proof, one behind the other: Rt, Ru, Rv, Rw, Rx, Ry. -/
import Derived.Test.YtagchljgmjmlcaaGreatDoorXr
import Derived.Deep.CutBlock
import Derived.Deep.RegionLawGrows
import Derived.Deep.Cut
import Derived.Deep.CutRange
import Derived.WalkKit
import Derived.WalkLawsBesides
import Derived.WalkSpells
import Derived.Deep.QuietTactic
import Derived.BigRegion
import Derived.BigQuiet
import Derived.Lib.Hide
import Derived.Outline
import Derived.Deep.AppendLies
import Derived.Deep.RegionLaw
import Derived.Deep.RegionWith
import Derived.Deep.RegionHeld3
import Derived.Deep.LoopGhost
import Derived.Deep.DeepFit
import Derived.Laws.ResultCell
import Derived.Laws.RangeAny
import Derived.Deep.MidRow
import Derived.StillTailTactics
import Derived.OpenShut
namespace Go.Proofs.YtagchljgmjmlcaaGreatDoor
set_option linter.unusedVariables false
open Go.RowKit Go
set_option maxRecDepth 100000
set_option maxHeartbeats 40000000

def pl45 : Array (Nat × Nat) := #[(0, 1), (1, 6), (7, 6), (13, 6), (19, 3), (22, 8), (30, 1), (31, 1), (32, 1)]
theorem blt45 (parts : List (Nat × Value)) : Tryz.prog.built 45 parts = Instr.fill (pl45[·]?) Z45 parts := by kernel_rfl
theorem cells1 (v : Value) (h : v.oneCell' = true) : CellsN 1 #[v] := ⟨rfl, all_oneCell_toArray (cs := [v]) (fun u hu => by rw [List.mem_singleton.1 hu]; exact h)⟩
def itE (k : Int) (cs : Array Value) : Array Value := over (over Z45 0 #[.int .i64 k]) 22 cs
def itB (k : Int) (cs : Array Value) (s : ByteArray) : Array Value := over (itE k cs) 30 #[.string s]
def itG (k : Int) (s : ByteArray) (v : Value) : Array Value := over (over (over Z45 0 #[.int .i64 k]) 31 #[.string s]) 32 #[v]
def itU (k : Int) (v : Value) : Array Value := over (over Z45 0 #[.int .i64 k]) 32 #[v]
theorem c0Z (k : Int) : CellsN 33 (over Z45 0 #[.int .i64 k]) := cellsZ45.over (cells1 _ rfl) (by decide)
theorem itE_c {k : Int} {cs : Array Value} (h : CellsN 8 cs) : CellsN 33 (itE k cs) := (c0Z k).over h (by decide)
theorem itB_c {k : Int} {cs : Array Value} {s : ByteArray} (h : CellsN 8 cs) : CellsN 33 (itB k cs s) := (itE_c h).over (cells1 _ rfl) (by decide)
theorem itG_c {k : Int} {s : ByteArray} {v : Value} (h : v.oneCell' = true) : CellsN 33 (itG k s v) := ((c0Z k).over (cells1 _ rfl) (by decide)).over (cells1 v h) (by decide)
theorem itU_c {k : Int} {v : Value} (h : v.oneCell' = true) : CellsN 33 (itU k v) := (c0Z k).over (cells1 v h) (by decide)
theorem fill1 (cs : Array Value) (i off size : Nat) (v : Value) (l : Array Value) (rest : List (Nat × Value)) (h : CellsN 33 cs) (hp : pl45[i]? = some (off, size)) (hc : v.cells = l) (hv : l.size = size) (hb : off + size ≤ 33) :
    Instr.fill (pl45[·]?) cs ((i, v) :: rest) = Instr.fill (pl45[·]?) (over cs off l) rest := by
 subst hc
 exact fill_over pl45 i off size cs v rest hp hv (by rw [h.sz]; exact hb)
theorem blt_E {k : Int} {cs : Array Value} (h : CellsN 8 cs) : Tryz.prog.built 45 [(0, .int .i64 k), (5, .agg cs)] = some (itE k cs) := by
 rw [blt45, fill1 _ 0 0 1 (.int .i64 k) #[.int .i64 k] _ cellsZ45 rfl rfl rfl (by decide), fill1 _ 5 22 8 (.agg cs) cs _ (c0Z k) rfl rfl h.sz (by decide)]
 rfl
theorem blt_B {k : Int} {cs : Array Value} {s : ByteArray} (h : CellsN 8 cs) : Tryz.prog.built 45 [(0, .int .i64 k), (5, .agg cs), (6, .string s)] = some (itB k cs s) := by
 rw [blt45, fill1 _ 0 0 1 (.int .i64 k) #[.int .i64 k] _ cellsZ45 rfl rfl rfl (by decide), fill1 _ 5 22 8 (.agg cs) cs _ (c0Z k) rfl rfl h.sz (by decide), fill1 _ 6 30 1 (.string s) #[.string s] _ ((c0Z k).over h (by decide)) rfl rfl rfl (by decide)]
 rfl
theorem blt_G {k : Int} {s : ByteArray} {A : Option Addr} {n c : Nat} : Tryz.prog.built 45 [(0, .int .i64 k), (7, .string s), (8, .slice A n c)] = some (itG k s (.slice A n c)) := by
 rw [blt45, fill1 _ 0 0 1 (.int .i64 k) #[.int .i64 k] _ cellsZ45 rfl rfl rfl (by decide), fill1 _ 7 31 1 (.string s) #[.string s] _ (c0Z k) rfl rfl rfl (by decide), fill1 _ 8 32 1 (.slice A n c) #[.slice A n c] _ ((c0Z k).over (cells1 (.string s) rfl) (by decide)) rfl rfl rfl (by decide)]
 rfl
theorem blt_U {k : Int} {A : Option Addr} {n c : Nat} : Tryz.prog.built 45 [(0, .int .i64 k), (8, .slice A n c)] = some (itU k (.slice A n c)) := by
 rw [blt45, fill1 _ 0 0 1 (.int .i64 k) #[.int .i64 k] _ cellsZ45 rfl rfl rfl (by decide), fill1 _ 8 32 1 (.slice A n c) #[.slice A n c] _ (c0Z k) rfl rfl rfl (by decide)]
 rfl
theorem yieldsIf_build {ops : Array Oper} {op : Oper} {a : Act} {S : World → Prop} (hw : Region.wanted op (yielded ops a.tmps) = true) (t : TypeId) (parts : Array (Nat × Operand)) (ho : op.op = .build t parts) (l : List (Nat × Value)) (hl : (parts.map fun (i, x) => (i, a.eval x)).toList = l) (C : Array Value) (hf : Tryz.prog.built t l = some C) : YieldsIf Tryz.prog ops S op (.agg C) a :=
 .inl ⟨hw, fun w _ => by
  unfold execOp
  simp only [ho, Sem.run_bind, run_build w t _ C (by rw [hl]; exact hf), Result.andThen_ok]
  rfl⟩
/-- A group, told weakly. -/
def GW (rs : List Int) (p : Nat) (w : World) (e : Ending) (w' : World) : Prop :=
 ∃ (A : Option Addr) (n c : Nat) (E : Int), e = .returned (.tuple #[.agg #[.slice A n c], .int .i64 E]) ∧ Beh rs p E ∧ Fr (fun _ => False) w w'
theorem rgroup_neg (inn : Int) (v : Value) (w : World) : Calls Tryz.prog 30 #[v, .int .i64 (-1), .int .i64 inn] w fun e w' => e = .returned (.tuple #[.agg #[.slice none 0 0], .int .i64 (-1)]) ∧ Fr (fun _ => False) w w' := by
 have f0 : Fr (fun _ => False) w ((w.alloc (.cells #[.slice none 0 0] 27)).alloc (.cells #[.slice none 0 0] 27)) := ((Fr.refl _ _).alloc _).alloc _
 have HF1 := Lib.hid f0.up
 have HB1 := Lib.hid (show Blk ((w.alloc (.cells #[.slice none 0 0] 27)).alloc (.cells #[.slice none 0 0] 27)) w.heap.size 27 #[.slice none 0 0] from (Blk.new w 27 #[.slice none 0 0]).alloc _)
 have HG1 := Lib.hid (show Blk ((w.alloc (.cells #[.slice none 0 0] 27)).alloc (.cells #[.slice none 0 0] 27)) (w.heap.size + 1) 27 #[.slice none 0 0] by have h := Blk.new (w.alloc (.cells #[.slice none 0 0] 27)) 27 #[.slice none 0 0]; rw [show (w.alloc (.cells #[.slice none 0 0] 27)).heap.size = w.heap.size + 1 by simp] at h; exact h)
 have HM := Lib.hid (rmark_neg ⟨#[123]⟩ v ((w.alloc (.cells #[.slice none 0 0] 27)).alloc (.cells #[.slice none 0 0] 27)))
 clear f0
 go_enter Tryz.func30, Tryz.ntmps30
 go_wp2_with fail
 refine HM.out.mono ?_
 rintro e w1 ⟨rfl, rfl⟩
 generalize ((w.alloc (.cells #[.slice none 0 0] 27)).alloc (.cells #[.slice none 0 0] 27)) = w1 at *
 have g0 : w1.cell? ⟨w.heap.size + 1, 0, none⟩ = some (.slice none 0 0) := HG1.out.cell 0
 have r0 : w1.cell? ⟨w.heap.size, 0, none⟩ = some (.slice none 0 0) := HB1.out.cell 0
 have z0 := HB1.out.frozen 0
 have HST := Lib.hid (HB1.out.set_ 0 (.slice none 0 0))
 have HFF := Lib.hid ((HF1.out.setCell ⟨w.heap.size, 0, none⟩ (fun _ => Nat.le_refl _) (.slice none 0 0)).shut (Nat.le_refl _))
 go_wp2_with fail
 exact bodyPost_ret (v := .tuple #[.agg #[.slice none 0 0], .int .i64 (-1)]) (results_c2 rfl _ _ w.heap.size 27 _ (0, 0) _ rfl HST.out Tryz.underlying27 rfl (by kernel_rfl) _ rfl) rfl ⟨rfl, HFF.out⟩
theorem riri_weak (g c p : Nat) (rs : List Int) (w : World) (hl : rs.length ≤ 8100) (hw : wt rs ≤ 8100) (hv : ∀ r, r ∈ rs → signR r = true) (hp : p ≤ rs.length) (h : Ls w g c rs) :
    Calls Tryz.prog 26 #[.slice (some ⟨g, 0, none⟩) rs.length c, .int .i64 (p : Int)] w (VarW rs p w) := by
 refine (riri3_any g c p rs w hl hw hv hp h).mono (fun e w' h => ?_)
 rcases h with ⟨⟨i, q, hip, rfl⟩ | ⟨-, rfl⟩, hf⟩
 · have hpos := hip.pos hv hp
   exact ⟨_, _, rfl, .inr ⟨q, rfl, hpos.1, hpos.2⟩, hf⟩
 · exact ⟨_, _, rfl, .inl rfl, hf⟩
theorem infZ27 : (Tryz.prog.info? 27).map (fun i => (i.zero, i.size, i.bytes)) = some (some (.agg #[.slice none 0 0]), 1, 24) := by kernel_rfl

theorem ritem_walk (g c p inn : Nat) (hin : inn ≤ 40) (rs : List Int) (w : World) (hl : rs.length ≤ 8100) (hw : wt rs ≤ 8100) (hv : ∀ r, r ∈ rs → signR r = true) (hp : p ≤ rs.length) (h : Ls w g c rs)
    (HG : ∀ (q : Nat) (w1 : World), p ≤ q → q ≤ rs.length → Ls w1 g c rs → Calls Tryz.prog 30 #[.slice (some ⟨g, 0, none⟩) rs.length c, .int .i64 (q : Int), .int .i64 (inn : Int)] w1 (GW rs q w1)) :
    Calls Tryz.prog 65 #[.slice (some ⟨g, 0, none⟩) rs.length c, .int .i64 (p : Int), .int .i64 (inn : Int)] w (ItemW rs p (fun _ _ _ => True) w) := by
 have HLS := Lib.hid h
 have HW := Lib.hid (fun T w1 (h1 : T.size ≤ 100) (h2 : 0 < T.size) (h4 : Ls w1 g c rs) => rwd_weak T g c p rs w1 h1 h2 hl hv hp h4)
 have HM := Lib.hid (fun T w1 (h1 : T.size ≤ 100) (h2 : 0 < T.size) (h4 : Ls w1 g c rs) => rmk_weak T g c p rs w1 h1 h2 hl hv hp h4)
 have HMB := Lib.hid (fun T q E w1 h1 h2 hE h4 => rmk_beh T g c q rs w1 E h1 h2 hl hv hE h4)
 have HWB := Lib.hid (fun T q E w1 h1 h2 hE h4 => rwd_beh T g c q rs w1 E h1 h2 hl hv hE h4)
 have HWQ := Lib.hid (fun T q w1 h1 h2 (h3 : q ≤ rs.length) h4 => rwd_weak T g c q rs w1 h1 h2 hl hv h3 h4)
 have HVB := Lib.hid (fun q E w1 hE h4 => rvar_weak g c q rs w1 E hl hv hE h4)
 have HEX := Lib.hid (fun q E w1 hE h4 => rexpr_beh g c q rs w1 E hl hw hv hE h4)
 have HIR := Lib.hid (fun q w1 (h3 : q ≤ rs.length) (h4 : Ls w1 g c rs) => riri_weak g c q rs w1 hl hw hv h3 h4)
 have HTR := Lib.hid (fun w1 (h4 : Ls w1 g c rs) => rtriple_any g c p rs w1 hl hw hv hp h4)
 have HSH := Lib.hid (fun E d w1 => rshallow E d w1)
 have HGG := Lib.hid (show ∀ (q : Nat) (E : Int) (w1 : World), p ≤ q → Beh rs q E → Ls w1 g c rs → Calls Tryz.prog 30 #[.slice (some ⟨g, 0, none⟩) rs.length c, .int .i64 E, .int .i64 (inn : Int)] w1 (GW rs q w1) from fun q E w1 h1 hE h4 => by
  rcases hE with rfl | ⟨q1, rfl, h5, h6⟩
  · exact (rgroup_neg _ _ w1).mono (fun e w' h => ⟨_, _, _, _, h.1, .inl rfl, h.2⟩)
  · exact (HG q1 w1 (by omega) h6 h4).mono (fun e w' h => by obtain ⟨A, n, c', E', rfl, hB, hf⟩ := h; exact ⟨A, n, c', E', rfl, hB.up (by omega), hf⟩))
 have HGP := Lib.hid (fun w1 h4 => HG p w1 (Nat.le_refl _) hp h4)
 clear h hv hw HG
 go_enter Tryz.func65, Tryz.ntmps65
 go_wp2_with ((with_reducible change wpList _ _ _ (Oper.mk _ (.alloc 45) _ _ _ _ :: _) _ _); refine wpList_alloc_blk rfl 45 rfl Z45 infz45 ?_)
 refine Lib.hid ?_
 rintro w0 z0 HZ0 HB0 HF0 hs0
 have hz0 : z0.size = 33 := by rw [HZ0.out]; rfl
 clear HZ0
 go_wp2_with fail
 refine (HW.out ⟨#[70, 73, 76, 84, 69, 82]⟩ w0 (by decide) (by decide) (HLS.out.frF HF0.out)).mono ?_
 rintro e w1 ⟨E0, rfl, hE, rfl⟩
 rcases hE.symm with ⟨q, rfl, hq1, hq2⟩ | rfl
 · have hq0 : (0 : Int) ≤ (q : Int) := by omega
   go_wp2_with fail
   refine (HMB.out ⟨#[40]⟩ p (q : Int) w0 (by decide) (by decide) (.inr ⟨q, rfl, hq1, hq2⟩) (HLS.out.frF HF0.out)).mono ?_
   rintro e w1 ⟨E1, rfl, hE1, rfl⟩
   go_wp2_with fail
   refine (HEX.out p E1 w0 hE1 (HLS.out.frF HF0.out)).mono ?_
   rintro e w2 ⟨cs, E2, d, rfl, hN, hE2, hf2⟩
   have HF2 := Lib.hid ((HF0.out.trans' hf2).up.alloc (.cells #[.string ⟨#[]⟩, .string ⟨#[]⟩, .bool false, .int .i64 0, .string ⟨#[]⟩, .string ⟨#[]⟩, .string ⟨#[]⟩, .slice none 0 0] 42))
   have HB2 := Lib.hid ((HB0.out.fr hf2 (fun h => h)).alloc (.cells #[.string ⟨#[]⟩, .string ⟨#[]⟩, .bool false, .int .i64 0, .string ⟨#[]⟩, .string ⟨#[]⟩, .string ⟨#[]⟩, .slice none 0 0] 42))
   have HY2 := Lib.hid (show Blk (w2.alloc (.cells #[.string ⟨#[]⟩, .string ⟨#[]⟩, .bool false, .int .i64 0, .string ⟨#[]⟩, .string ⟨#[]⟩, .string ⟨#[]⟩, .slice none 0 0] 42)) w2.heap.size 42 Z42 from Blk.new w2 42 #[.string ⟨#[]⟩, .string ⟨#[]⟩, .bool false, .int .i64 0, .string ⟨#[]⟩, .string ⟨#[]⟩, .string ⟨#[]⟩, .slice none 0 0])
   have hs2 := hf2.size
   clear hf2
   go_wp2_with ((with_reducible change wpList _ _ _ (Oper.mk _ (.store 42 _ _) _ _ _ _ :: _) _ _); refine wpList_store_blkH rfl 42 _ _ rfl _ _ rfl rfl 42 _ HY2.out (hN.sz) (inf42c hN) (hN.one) ?_)
   refine Lib.hid ?_
   rintro w3 hy3 hf3
   have HF3 := Lib.hid (HF2.out.andX hf3 (by omega))
   have HB3 := Lib.hid (HB2.out.oth hf3 (by omega))
   have HY3 := Lib.hid hy3
   clear hf3 hy3 HF2 HB2 HY2
   have HX := Lib.hid HY3.out.drew
   have HB4 := Lib.hid HB3.out.drew
   have HF4 := Lib.hid HF3.out.drew
   have HLS4 := Lib.hid (HLS.out.up HF4.out)
   obtain ⟨E3, hE3⟩ : ∃ x : Int, x = (if d > 40 then -1 else E2) := ⟨_, rfl⟩
   have hB3 : Beh rs p E3 := by
    rw [hE3]
    split
    · exact .inl rfl
    · exact hE2
   have HSD := Lib.hid (show Calls Tryz.prog 94 #[.int .i64 E2, .int .i64 d] w3.drew fun e w' => e = .returned (.int .i64 E3) ∧ w3.drew = w' by rw [hE3]; exact HSH.out E2 d w3.drew)
   have HMD := Lib.hid (HMB.out ⟨#[41]⟩ p E3 w3.drew (by decide) (by decide) hB3 HLS4.out)
   obtain ⟨z, hz⟩ : ∃ z, z = itE 1 cs := ⟨_, rfl⟩
   have HBZ := Lib.hid (show Tryz.prog.built 45 [(0, .int .i64 1), (5, .agg cs)] = some z by rw [hz]; exact blt_E hN)
   have hNz : CellsN 33 z := hz ▸ itE_c hN
   clear hE3 hz HW HM HMB HWB HVB HEX HIR HTR HSH HGG HGP HWQ
   go_wp2_with fail
   refine wp_region_noPanic ?_
   refine wp_region_held_drew (S := fun wy => Blk wy w2.heap.size 42 cs) (by kernel_rfl) ?_ (fun hHeld => ?_)
   · try dsimp only
     exact HX.out
   refine wpAnyH_take (i := 0) (oi := _) (v := _) (by simp only [List.getElem?_toArray, List.getElem?_cons_zero]; rfl) (by kernel_rfl) (by kernel_rfl) (by kernel_rfl) (fun _ _ _ h => h) (yieldsIf_load_blk (by rfl) 42 _ rfl _ rfl 42 _ (fun _ h => h) _ Tryz.underlying42 rfl (inf42c hN)) (by assumption) ?_
   try simp only [Act.put, List.setIfInBounds_toArray, List.set_cons_zero, List.set_cons_succ]
   refine wpAnyH_take (i := 1) (oi := _) (v := _) (by simp only [List.getElem?_toArray, List.getElem?_cons_zero, List.getElem?_cons_succ]; rfl) (by kernel_rfl) (by kernel_rfl) (by kernel_rfl) (fun _ _ _ h => h) (yieldsIf_build (by rfl) 45 _ rfl [(0, .int .i64 1), (5, .agg cs)] (by simp only [List.map_toArray, List.map_nil, List.map_cons]; rfl) z HBZ.out) (by assumption) ?_
   try simp only [Act.put, List.setIfInBounds_toArray, List.set_cons_zero, List.set_cons_succ]
   refine wpAnyH_take (i := 2) (oi := _) (v := ?_) (by simp only [List.getElem?_toArray, List.getElem?_cons_zero, List.getElem?_cons_succ]; rfl) (by kernel_rfl) (by kernel_rfl) (by kernel_rfl) (fun _ _ _ h => h) (Or.inl ⟨by rfl, ?_⟩) (by assumption) ?_
   rotate_left
   · intro w hSw
     try dsimp only at hSw
     go_simp
     all_goals (with_reducible rfl)
   try simp only [Act.put, List.setIfInBounds_toArray, List.set_cons_zero, List.set_cons_succ]
   refine wpAnyH_take (i := 3) (oi := _) (v := ?_) (by simp only [List.getElem?_toArray, List.getElem?_cons_zero, List.getElem?_cons_succ]; rfl) (by kernel_rfl) (by kernel_rfl) (by kernel_rfl) (fun _ _ _ h => h) (Or.inl ⟨by rfl, ?_⟩) (by assumption) ?_
   rotate_left
   · intro w hSw
     try dsimp only at hSw
     go_simp
     all_goals (with_reducible rfl)
   try simp only [Act.put, List.setIfInBounds_toArray, List.set_cons_zero, List.set_cons_succ]
   refine wpAnyH_take (i := 4) (oi := _) (v := ?_) (by simp only [List.getElem?_toArray, List.getElem?_cons_zero, List.getElem?_cons_succ]; rfl) (by kernel_rfl) (by kernel_rfl) (by kernel_rfl) (fun _ _ _ h => h) (Or.inl ⟨by rfl, ?_⟩) (by assumption) ?_
   rotate_left
   · intro w hSw
     try dsimp only at hSw
     go_simp
     all_goals (with_reducible rfl)
   try simp only [Act.put, List.setIfInBounds_toArray, List.set_cons_zero, List.set_cons_succ]
   refine wpAnyH_ready (rs := [5]) (by kernel_rfl) (by simp) ?_
   refine AllReadyH.cons (o := _) (by simp only [List.getElem?_toArray, List.getElem?_cons_zero, List.getElem?_cons_succ]; rfl) (fun K hK => ?_) ?_
   · skip
     go_simp
     go_at_call 94
     refine HSD.out.mono ?_
     rintro e w5 ⟨rfl, rfl⟩
     refine hK.out _ _ ?_ (fun hHeld => ?_)
     · try dsimp only
       exact HX.out
     clear hK K
     try simp only [Act.put, List.setIfInBounds_toArray, List.set_cons_zero, List.set_cons_succ]
     refine wpAnyH_ready (rs := [6]) (by kernel_rfl) (by simp) ?_
     refine AllReadyH.cons (o := _) (by simp only [List.getElem?_toArray, List.getElem?_cons_zero, List.getElem?_cons_succ]; rfl) (fun K hK => ?_) ?_
     · skip
       go_simp
       go_at_call 27
       refine HMD.out.mono ?_
       rintro e w5 ⟨E4, rfl, hE4, rfl⟩
       refine hK.out _ _ ?_ (fun hHeld => ?_)
       · try dsimp only
         exact HX.out
       clear hK K
       try simp only [Act.put, List.setIfInBounds_toArray, List.set_cons_zero, List.set_cons_succ]
       refine wpAnyH_ready (rs := [7]) (by kernel_rfl) (by simp) ?_
       refine AllReadyH.cons (o := _) (by simp only [List.getElem?_toArray, List.getElem?_cons_zero, List.getElem?_cons_succ]; rfl) (fun K hK => ?_) ?_
       · skip
         rw [if_pos (by rfl)]
         refine wp_store_blk 45 _ _ rfl _ _ rfl rfl 45 _ HB4.out (by rw [hNz.sz, hz0]) (inf45c hNz) hNz.one ?_
         rintro wb hbb hfb
         refine hK.out _ _ ?_ (fun hHeld => ?_)
         · try dsimp only
           exact HX.out.oth hfb (by omega)
         clear hK K
         try simp only [Act.put]
         refine wpAnyH_take (i := 8) (oi := _) (v := ?_) (by simp only [List.getElem?_toArray, List.getElem?_cons_zero, List.getElem?_cons_succ]; rfl) (by kernel_rfl) (by kernel_rfl) (by kernel_rfl) (fun _ _ _ h => h) (Or.inl ⟨by rfl, ?_⟩) (by assumption) ?_
         rotate_left
         · intro w hSw
           try dsimp only at hSw
           go_simp
           all_goals (with_reducible rfl)
         try simp only [Act.put, List.setIfInBounds_toArray, List.set_cons_zero, List.set_cons_succ]
         refine wpAnyH_done (by kernel_rfl) ?_ _
         refine NoPanic.normal ?_
         have HFF := Lib.hid ((HF4.out.andX hfb (Nat.le_refl _)).shut (Nat.le_refl _))
         go_wp2_with fail
         exact bodyPost_ret (v := .tuple #[.agg z, .int .i64 E4]) (results_c2 rfl _ _ w.heap.size 45 _ (0, 0) _ rfl hbb Tryz.underlying45 rfl (inf45c hNz) _ rfl) rfl ⟨_, _, rfl, hNz, hE4, trivial, HFF.out⟩
       exact AllReadyH.nil
     exact AllReadyH.nil
   exact AllReadyH.nil
 go_wp2_with fail
 refine (HW.out ⟨#[66, 73, 78, 68]⟩ w0 (by decide) (by decide) (HLS.out.frF HF0.out)).mono ?_
 rintro e w1 ⟨E0, rfl, hE, rfl⟩
 rcases hE.symm with ⟨q, rfl, hq1, hq2⟩ | rfl
 · have hq0 : (0 : Int) ≤ (q : Int) := by omega
   go_wp2_with fail
   refine (HMB.out ⟨#[40]⟩ p (q : Int) w0 (by decide) (by decide) (.inr ⟨q, rfl, hq1, hq2⟩) (HLS.out.frF HF0.out)).mono ?_
   rintro e w1 ⟨E1, rfl, hE1, rfl⟩
   go_wp2_with fail
   refine (HEX.out p E1 w0 hE1 (HLS.out.frF HF0.out)).mono ?_
   rintro e w2 ⟨cs, E2, d, rfl, hN, hE2, hf2⟩
   have HF2 := Lib.hid ((HF0.out.trans' hf2).up.alloc (.cells #[.string ⟨#[]⟩, .string ⟨#[]⟩, .bool false, .int .i64 0, .string ⟨#[]⟩, .string ⟨#[]⟩, .string ⟨#[]⟩, .slice none 0 0] 42))
   have HB2 := Lib.hid ((HB0.out.fr hf2 (fun h => h)).alloc (.cells #[.string ⟨#[]⟩, .string ⟨#[]⟩, .bool false, .int .i64 0, .string ⟨#[]⟩, .string ⟨#[]⟩, .string ⟨#[]⟩, .slice none 0 0] 42))
   have HY2 := Lib.hid (show Blk (w2.alloc (.cells #[.string ⟨#[]⟩, .string ⟨#[]⟩, .bool false, .int .i64 0, .string ⟨#[]⟩, .string ⟨#[]⟩, .string ⟨#[]⟩, .slice none 0 0] 42)) w2.heap.size 42 Z42 from Blk.new w2 42 #[.string ⟨#[]⟩, .string ⟨#[]⟩, .bool false, .int .i64 0, .string ⟨#[]⟩, .string ⟨#[]⟩, .string ⟨#[]⟩, .slice none 0 0])
   have hs2 := hf2.size
   clear hf2
   go_wp2_with ((with_reducible change wpList _ _ _ (Oper.mk _ (.store 42 _ _) _ _ _ _ :: _) _ _); refine wpList_store_blkH rfl 42 _ _ rfl _ _ rfl rfl 42 _ HY2.out (hN.sz) (inf42c hN) (hN.one) ?_)
   refine Lib.hid ?_
   rintro w3 hy3 hf3
   have HF3 := Lib.hid (HF2.out.andX hf3 (by omega))
   have HB3 := Lib.hid (HB2.out.oth hf3 (by omega))
   have HY3 := Lib.hid hy3
   clear hf3 hy3 HF2 HB2 HY2
   go_wp2_with fail
   refine (HSH.out E2 d w3).mono ?_
   rintro e w1 ⟨rfl, rfl⟩
   obtain ⟨E3, hE3⟩ : ∃ x : Int, x = (if d > 40 then -1 else E2) := ⟨_, rfl⟩
   rw [← hE3]
   have hB3 : Beh rs p E3 := by
    rw [hE3]
    split
    · exact .inl rfl
    · exact hE2
   clear hE3
   go_wp2_with fail
   refine (HWB.out ⟨#[65, 83]⟩ p E3 w3 (by decide) (by decide) hB3 (HLS.out.up HF3.out)).mono ?_
   rintro e w1 ⟨E4, rfl, hE4, rfl⟩
   go_wp2_with fail
   refine (HVB.out p E4 w3 hE4 (HLS.out.up HF3.out)).mono ?_
   rintro e w4 ⟨s, E5, rfl, hE5, hf4⟩
   have HX := Lib.hid (HY3.out.fr hf4 (fun h => h)).drew
   have HB4 := Lib.hid (HB3.out.fr hf4 (fun h => h)).drew
   have HF4 := Lib.hid (HF3.out.andF hf4).drew
   have HMD := Lib.hid (HMB.out ⟨#[41]⟩ p E5 w4.drew (by decide) (by decide) hE5 (HLS.out.up HF4.out))
   obtain ⟨z, hz⟩ : ∃ z, z = itB 2 cs s := ⟨_, rfl⟩
   have HBZ := Lib.hid (show Tryz.prog.built 45 [(0, .int .i64 2), (5, .agg cs), (6, .string s)] = some z by rw [hz]; exact blt_B hN)
   have hNz : CellsN 33 z := hz ▸ itB_c hN
   clear hz hf4 HW HM HMB HWB HVB HEX HIR HTR HSH HGG HGP HWQ HF3 HB3 HY3
   go_wp2_with fail
   refine wp_region_noPanic ?_
   refine wp_region_held_drew (S := fun wy => Blk wy w2.heap.size 42 cs) (by kernel_rfl) ?_ (fun hHeld => ?_)
   · try dsimp only
     exact HX.out
   refine wpAnyH_take (i := 0) (oi := _) (v := _) (by simp only [List.getElem?_toArray, List.getElem?_cons_zero]; rfl) (by kernel_rfl) (by kernel_rfl) (by kernel_rfl) (fun _ _ _ h => h) (yieldsIf_load_blk (by rfl) 42 _ rfl _ rfl 42 _ (fun _ h => h) _ Tryz.underlying42 rfl (inf42c hN)) (by assumption) ?_
   try simp only [Act.put, List.setIfInBounds_toArray, List.set_cons_zero, List.set_cons_succ]
   refine wpAnyH_take (i := 1) (oi := _) (v := ?_) (by simp only [List.getElem?_toArray, List.getElem?_cons_zero, List.getElem?_cons_succ]; rfl) (by kernel_rfl) (by kernel_rfl) (by kernel_rfl) (fun _ _ _ h => h) (Or.inl ⟨by rfl, ?_⟩) (by assumption) ?_
   rotate_left
   · intro w hSw
     try dsimp only at hSw
     go_simp
     all_goals (with_reducible rfl)
   try simp only [Act.put, List.setIfInBounds_toArray, List.set_cons_zero, List.set_cons_succ]
   refine wpAnyH_take (i := 2) (oi := _) (v := _) (by simp only [List.getElem?_toArray, List.getElem?_cons_zero, List.getElem?_cons_succ]; rfl) (by kernel_rfl) (by kernel_rfl) (by kernel_rfl) (fun _ _ _ h => h) (yieldsIf_build (by rfl) 45 _ rfl [(0, .int .i64 2), (5, .agg cs), (6, .string s)] (by simp only [List.map_toArray, List.map_nil, List.map_cons]; rfl) z HBZ.out) (by assumption) ?_
   try simp only [Act.put, List.setIfInBounds_toArray, List.set_cons_zero, List.set_cons_succ]
   refine wpAnyH_take (i := 3) (oi := _) (v := ?_) (by simp only [List.getElem?_toArray, List.getElem?_cons_zero, List.getElem?_cons_succ]; rfl) (by kernel_rfl) (by kernel_rfl) (by kernel_rfl) (fun _ _ _ h => h) (Or.inl ⟨by rfl, ?_⟩) (by assumption) ?_
   rotate_left
   · intro w hSw
     try dsimp only at hSw
     go_simp
     all_goals (with_reducible rfl)
   try simp only [Act.put, List.setIfInBounds_toArray, List.set_cons_zero, List.set_cons_succ]
   refine wpAnyH_take (i := 4) (oi := _) (v := ?_) (by simp only [List.getElem?_toArray, List.getElem?_cons_zero, List.getElem?_cons_succ]; rfl) (by kernel_rfl) (by kernel_rfl) (by kernel_rfl) (fun _ _ _ h => h) (Or.inl ⟨by rfl, ?_⟩) (by assumption) ?_
   rotate_left
   · intro w hSw
     try dsimp only at hSw
     go_simp
     all_goals (with_reducible rfl)
   try simp only [Act.put, List.setIfInBounds_toArray, List.set_cons_zero, List.set_cons_succ]
   refine wpAnyH_ready (rs := [5]) (by kernel_rfl) (by simp) ?_
   refine AllReadyH.cons (o := _) (by simp only [List.getElem?_toArray, List.getElem?_cons_zero, List.getElem?_cons_succ]; rfl) (fun K hK => ?_) ?_
   · skip
     go_simp
     go_at_call 27
     refine HMD.out.mono ?_
     rintro e w5 ⟨E6, rfl, hE6, rfl⟩
     refine hK.out _ _ ?_ (fun hHeld => ?_)
     · try dsimp only
       exact HX.out
     clear hK K
     try simp only [Act.put, List.setIfInBounds_toArray, List.set_cons_zero, List.set_cons_succ]
     refine wpAnyH_ready (rs := [6]) (by kernel_rfl) (by simp) ?_
     refine AllReadyH.cons (o := _) (by simp only [List.getElem?_toArray, List.getElem?_cons_zero, List.getElem?_cons_succ]; rfl) (fun K hK => ?_) ?_
     · skip
       rw [if_pos (by rfl)]
       refine wp_store_blk 45 _ _ rfl _ _ rfl rfl 45 _ HB4.out (by rw [hNz.sz, hz0]) (inf45c hNz) hNz.one ?_
       rintro wb hbb hfb
       refine hK.out _ _ ?_ (fun hHeld => ?_)
       · try dsimp only
         exact HX.out.oth hfb (by omega)
       clear hK K
       try simp only [Act.put]
       refine wpAnyH_take (i := 7) (oi := _) (v := ?_) (by simp only [List.getElem?_toArray, List.getElem?_cons_zero, List.getElem?_cons_succ]; rfl) (by kernel_rfl) (by kernel_rfl) (by kernel_rfl) (fun _ _ _ h => h) (Or.inl ⟨by rfl, ?_⟩) (by assumption) ?_
       rotate_left
       · intro w hSw
         try dsimp only at hSw
         go_simp
         all_goals (with_reducible rfl)
       try simp only [Act.put, List.setIfInBounds_toArray, List.set_cons_zero, List.set_cons_succ]
       refine wpAnyH_done (by kernel_rfl) ?_ _
       refine NoPanic.normal ?_
       have HFF := Lib.hid ((HF4.out.andX hfb (Nat.le_refl _)).shut (Nat.le_refl _))
       go_wp2_with fail
       exact bodyPost_ret (v := .tuple #[.agg z, .int .i64 E6]) (results_c2 rfl _ _ w.heap.size 45 _ (0, 0) _ rfl hbb Tryz.underlying45 rfl (inf45c hNz) _ rfl) rfl ⟨_, _, rfl, hNz, hE6, trivial, HFF.out⟩
     exact AllReadyH.nil
   exact AllReadyH.nil
 go_wp2_with fail
 refine (HW.out ⟨#[79, 80, 84, 73, 79, 78, 65, 76]⟩ w0 (by decide) (by decide) (HLS.out.frF HF0.out)).mono ?_
 rintro e w1 ⟨E0, rfl, hE, rfl⟩
 rcases hE.symm with ⟨q, rfl, hq1, hq2⟩ | rfl
 · have hq0 : (0 : Int) ≤ (q : Int) := by omega
   go_wp2_with fail
   refine (HGG.out p (q : Int) w0 (Nat.le_refl _) (.inr ⟨q, rfl, hq1, hq2⟩) (HLS.out.frF HF0.out)).mono ?_
   rintro e w2 ⟨A, n, cc, E2, rfl, hE2, hf2⟩
   have hf4 := (hf2.alloc (.cells #[.slice A n cc] 27)).alloc (.cells #[.slice A n cc] 27)
   have HF4 := Lib.hid (HF0.out.trans' hf4).up
   have HB4 := Lib.hid (HB0.out.fr (hf4) (fun h => h))
   have c0 : (w2.alloc (.cells #[.slice A n cc] 27)).cell? ⟨w2.heap.size, 0, none⟩ = some (.slice A n cc) := (Blk.new w2 27 #[.slice A n cc]).cell 0
   clear hf2 hf4
   go_wp2_with ((with_reducible change wpList _ _ _ (Oper.mk _ (.build 45 _) _ _ _ _ :: _) _ _); refine wpList_build_to rfl 45 _ rfl [(0, .int .i64 3), (8, .slice (some ⟨w2.heap.size + 1, 0, none⟩) 1 1)] (by simp only [List.map_toArray, List.map_nil, List.map_cons]; rfl) (itU 3 (.slice (some ⟨w2.heap.size + 1, 0, none⟩) 1 1)) blt_U ?_)
   refine Lib.hid ?_
   rintro z HZ
   have hNz : CellsN 33 z := HZ.out ▸ itU_c rfl
   clear HZ
   go_wp2_with ((with_reducible change wpList _ _ _ (Oper.mk _ (.store 45 _ _) _ _ _ _ :: _) _ _); refine wpList_store_blkH rfl 45 _ _ rfl _ _ rfl rfl 45 _ HB4.out (by rw [hNz.sz, hz0]) (inf45c hNz) (hNz).one ?_)
   refine Lib.hid ?_
   rintro wb hbb hfb
   have HFF := Lib.hid ((HF4.out.andX hfb (Nat.le_refl _)).shut (Nat.le_refl _))
   go_wp2_with fail
   exact bodyPost_ret (v := .tuple #[.agg z, .int .i64 E2]) (results_c2 rfl _ _ w.heap.size 45 _ (0, 0) _ rfl hbb Tryz.underlying45 rfl (inf45c hNz) _ rfl) rfl ⟨_, _, rfl, hNz, hE2, trivial, HFF.out⟩
 go_wp2_with fail
 refine (HW.out ⟨#[87, 73, 78, 68, 79, 87]⟩ w0 (by decide) (by decide) (HLS.out.frF HF0.out)).mono ?_
 rintro e w1 ⟨E0, rfl, hE, rfl⟩
 rcases hE.symm with ⟨q, rfl, hq1, hq2⟩ | rfl
 · have hq0 : (0 : Int) ≤ (q : Int) := by omega
   go_wp2_with fail
   refine (HIR.out q w0 hq2 (HLS.out.frF HF0.out)).mono ?_
   rintro e w1 ⟨s, E1, rfl, hE1, hf1⟩
   have HF1 := Lib.hid (HF0.out.trans' hf1)
   have HF01 := Lib.hid hf1
   clear hf1
   go_wp2_with fail
   refine (HGG.out q E1 w1 (by omega) hE1 (HLS.out.frF HF1.out)).mono ?_
   rintro e w2 ⟨A, n, cc, E2, rfl, hE2, hf2⟩
   have hf4 := (hf2.alloc (.cells #[.slice A n cc] 27)).alloc (.cells #[.slice A n cc] 27)
   have HF4 := Lib.hid (HF1.out.trans' hf4).up
   have HB4 := Lib.hid (HB0.out.fr (HF01.out.trans' hf4) (fun h => h))
   have c0 : (w2.alloc (.cells #[.slice A n cc] 27)).cell? ⟨w2.heap.size, 0, none⟩ = some (.slice A n cc) := (Blk.new w2 27 #[.slice A n cc]).cell 0
   clear hf2 hf4
   go_wp2_with ((with_reducible change wpList _ _ _ (Oper.mk _ (.build 45 _) _ _ _ _ :: _) _ _); refine wpList_build_to rfl 45 _ rfl [(0, .int .i64 5), (7, .string s), (8, .slice (some ⟨w2.heap.size + 1, 0, none⟩) 1 1)] (by simp only [List.map_toArray, List.map_nil, List.map_cons]; rfl) (itG 5 s (.slice (some ⟨w2.heap.size + 1, 0, none⟩) 1 1)) blt_G ?_)
   refine Lib.hid ?_
   rintro z HZ
   have hNz : CellsN 33 z := HZ.out ▸ itG_c rfl
   clear HZ
   go_wp2_with ((with_reducible change wpList _ _ _ (Oper.mk _ (.store 45 _ _) _ _ _ _ :: _) _ _); refine wpList_store_blkH rfl 45 _ _ rfl _ _ rfl rfl 45 _ HB4.out (by rw [hNz.sz, hz0]) (inf45c hNz) (hNz).one ?_)
   refine Lib.hid ?_
   rintro wb hbb hfb
   have HFF := Lib.hid ((HF4.out.andX hfb (Nat.le_refl _)).shut (Nat.le_refl _))
   go_wp2_with fail
   exact bodyPost_ret (v := .tuple #[.agg z, .int .i64 E2]) (results_c2 rfl _ _ w.heap.size 45 _ (0, 0) _ rfl hbb Tryz.underlying45 rfl (inf45c hNz) _ rfl) rfl ⟨_, _, rfl, hNz, (hE2.up (by omega)), trivial, HFF.out⟩
 go_wp2_with fail
 refine (HM.out ⟨#[123]⟩ w0 (by decide) (by decide) (HLS.out.frF HF0.out)).mono ?_
 rintro e w1 ⟨E0, rfl, hE, rfl⟩
 rcases hE.symm with ⟨q, rfl, hq1, hq2⟩ | rfl
 · have hq0 : (0 : Int) ≤ (q : Int) := by omega
   go_wp2_with fail
   refine (HGP.out w0 (HLS.out.frF HF0.out)).mono ?_
   rintro e w2 ⟨A0, n0, cc0, E2, rfl, hE2, hf2⟩
   have hf3 := hf2.alloc (.cells #[.slice A0 n0 cc0] 27)
   have hf4 := hf3.alloc (.cells #[.slice A0 n0 cc0] 27)
   have HF4 := Lib.hid (HF0.out.trans' hf4).up
   have HB4 := Lib.hid (HB0.out.fr hf4 (fun h => h))
   have c0 : (w2.alloc (.cells #[.slice A0 n0 cc0] 27)).cell? ⟨w2.heap.size, 0, none⟩ = some (.slice A0 n0 cc0) := (Blk.new w2 27 #[.slice A0 n0 cc0]).cell 0
   have hs2 := hf2.size
   have HR4 := Lib.hid (World.ownsRow_lit (base := w.heap.size + 1) (e := 27) (size := 1) (w2.alloc (.cells #[.slice A0 n0 cc0] 27)) #[.slice A0 n0 cc0] 1 (by simp; omega) (by decide) rfl)
   clear hf2 hf3 hf4
   go_wp2_with fail
   have hz2 : (w2.alloc (.cells #[.slice A0 n0 cc0] 27)).heap.size = w2.heap.size + 1 := by simp
   rw [hz2] at HR4
   go_loopg [27, 28] (rs.length + 1) (fun gk a b wr => ∃ (E : Int) (A : Option Addr) (n cp : Nat) (xs : List Value), a = .int .i64 E ∧ b = .slice A n cp ∧ (∀ q : Nat, E = (q : Int) → rs.length + 1 ≤ q + gk) ∧ (E = -1 ∨ ∃ q : Nat, E = (q : Int) ∧ n + p ≤ q ∧ p < q ∧ q ≤ rs.length) ∧ n ≤ 9000 ∧ wr.ownsRow (w.heap.size + 1) 27 1 (.slice A n cp) n xs ∧ Blk wr w.heap.size 45 z0 ∧ Fr (fun j => w.heap.size ≤ j) w wr)
   case atStart => exact ⟨E2, _, 1, 1, _, rfl, rfl, fun q h => by omega, hE2.elim .inl (fun h => h.elim fun q h => .inr ⟨q, h.1, by omega, h.2.1, h.2.2⟩), by decide, HR4.out, HB4.out, HF4.out⟩
   case round =>
    clear HR4 HB4 HF4 c0
    obtain ⟨E, A, n, cp, xs, rfl, rfl, hms, hle, hsml, hrow, hblk, hfr⟩ := hrel
    have HROW := Lib.hid hrow
    have HBK := Lib.hid hblk
    have HFR := Lib.hid hfr
    have HMS := Lib.hid hms
    have hszr := hfr.size
    have hbl := hblk.lt
    clear hrow hblk hfr hms
    rcases hle with rfl | ⟨q2, rfl, hq3, hq4, hq5⟩
    · clear HW HM HMB HWB HVB HEX HIR HTR HSH HGG HGP HWQ
      go_wp2_with ((with_reducible change wpList _ _ _ (Oper.mk _ (.build 45 _) _ _ _ _ :: _) _ _); refine wpList_build_to rfl 45 _ rfl [(0, .int .i64 4), (8, .slice A n cp)] (by simp only [List.map_toArray, List.map_nil, List.map_cons]; rfl) (itU 4 (.slice A n cp)) blt_U ?_)
      refine Lib.hid ?_
      rintro z HZ
      have hNz : CellsN 33 z := HZ.out ▸ itU_c rfl
      clear HZ
      go_wp2_with ((with_reducible change wpList _ _ _ (Oper.mk _ (.store 45 _ _) _ _ _ _ :: _) _ _); refine wpList_store_blkH rfl 45 _ _ rfl _ _ rfl rfl 45 _ HBK.out (by rw [hNz.sz, hz0]) (inf45c hNz) (hNz).one ?_)
      refine Lib.hid ?_
      rintro wb hbb hfb
      have HFF := Lib.hid ((HFR.out.andX hfb (Nat.le_refl _)).shut (Nat.le_refl _))
      go_wp2_with fail
      exact bodyPost_ret (v := .tuple #[.agg z, .int .i64 (-1)]) (results_c2 rfl _ _ w.heap.size 45 _ (0, 0) _ rfl hbb Tryz.underlying45 rfl (inf45c hNz) _ rfl) rfl ⟨_, _, rfl, hNz, .inl rfl, trivial, HFF.out⟩
    · have hq20 : (0 : Int) ≤ (q2 : Int) := by omega
      have HLR := Lib.hid (HLS.out.up HFR.out)
      go_wp2_with fail
      refine (HWQ.out ⟨#[85, 78, 73, 79, 78]⟩ q2 wr (by decide) (by decide) hq5 HLR.out).mono ?_
      rintro e w4 ⟨E3, rfl, hE3, rfl⟩
      rcases hE3 with rfl | ⟨q6, rfl, hq7, hq8⟩
      · clear HW HM HMB HWB HVB HEX HIR HTR HSH HGG HGP HWQ
        go_wp2_with ((with_reducible change wpList _ _ _ (Oper.mk _ (.build 45 _) _ _ _ _ :: _) _ _); refine wpList_build_to rfl 45 _ rfl [(0, .int .i64 4), (8, .slice A n cp)] (by simp only [List.map_toArray, List.map_nil, List.map_cons]; rfl) (itU 4 (.slice A n cp)) blt_U ?_)
        refine Lib.hid ?_
        rintro z HZ
        have hNz : CellsN 33 z := HZ.out ▸ itU_c rfl
        clear HZ
        go_wp2_with ((with_reducible change wpList _ _ _ (Oper.mk _ (.store 45 _ _) _ _ _ _ :: _) _ _); refine wpList_store_blkH rfl 45 _ _ rfl _ _ rfl rfl 45 _ HBK.out (by rw [hNz.sz, hz0]) (inf45c hNz) (hNz).one ?_)
        refine Lib.hid ?_
        rintro wb hbb hfb
        have HFF := Lib.hid ((HFR.out.andX hfb (Nat.le_refl _)).shut (Nat.le_refl _))
        go_wp2_with fail
        exact bodyPost_ret (v := .tuple #[.agg z, .int .i64 q2]) (results_c2 rfl _ _ w.heap.size 45 _ (0, 0) _ rfl hbb Tryz.underlying45 rfl (inf45c hNz) _ rfl) rfl ⟨_, _, rfl, hNz, .inr ⟨q2, rfl, hq4, hq5⟩, trivial, HFF.out⟩
      · have hq60 : (0 : Int) ≤ (q6 : Int) := by omega
        go_wp2_with fail
        refine (HWQ.out ⟨#[85, 78, 73, 79, 78]⟩ q2 wr (by decide) (by decide) hq5 HLR.out).mono ?_
        rintro e w4 ⟨E4, rfl, hE4, rfl⟩
        go_wp2_with fail
        refine (HGG.out q2 E4 wr (by omega) hE4 HLR.out).mono ?_
        rintro e w5 ⟨A2, n2, c2, E5, rfl, hE5, hf5⟩
        have hf6 := hf5.alloc (.cells #[.slice A2 n2 c2] 27)
        have hf7 := hf6.alloc (.cells #[.slice A2 n2 c2] 27)
        have HF7 := Lib.hid hf7
        have c0 : (w5.alloc (.cells #[.slice A2 n2 c2] 27)).cell? ⟨w5.heap.size, 0, none⟩ = some (.slice A2 n2 c2) := (Blk.new w5 27 #[.slice A2 n2 c2]).cell 0
        have hz5 : (w5.alloc (.cells #[.slice A2 n2 c2] 27)).heap.size = w5.heap.size + 1 := by simp
        have hz6 : ((w5.alloc (.cells #[.slice A2 n2 c2] 27)).alloc (.cells #[.slice A2 n2 c2] 27)).heap.size = w5.heap.size + 2 := by simp
        have hl8 := Blk.new (w5.alloc (.cells #[.slice A2 n2 c2] 27)) 27 #[.slice A2 n2 c2]
        rw [hz5] at hl8
        have HL8 := Lib.hid hl8
        have HR8 := Lib.hid (ownsRow_fr HROW.out hf7 (fun _ _ h => h))
        have hs5 := hf5.size
        clear hf5 hf6 hf7 hl8
        go_wp2_with (at_builtin; refine wpList_append_H rfl _ _ 43 rfl (w.heap.size + 1) 27 (.agg #[.slice none 0 0]) 1 24 Tryz.underlying43 infZ27 rfl (by decide) (.slice A n cp) n xs rfl HR8.out (w5.heap.size + 1) #[.slice A2 n2 c2] rfl HL8.out (cells1 _ rfl) (by omega) (by decide) (by omega) ?_)
        refine Lib.hid ?_
        rintro g1 cap1 w8 ho8 hgrow hor
        have hgr := Fr.of_grown hgrow
        have HBK8 := Lib.hid ((HBK.out.fr HF7.out (fun h => h)).fr hgr (fun e => by have := own_ge HR8.out e; omega))
        have HFR8 := Lib.hid ((HFR.out.andF HF7.out).trans hgr (fun j hj e => by have := own_ge HR8.out e; omega))
        clear hgr hgrow hor
        go_wp2_with fail
        go_roundg (rs.length - q2)
        case measure => have := HMS.out q2 rfl; omega
        case rel =>
         refine ⟨E5, _, n + 1, cap1, _, rfl, rfl, fun q9 h9 => ?_, ?_, by omega, ho8, HBK8.out, HFR8.out⟩
         · rcases hE5 with h | ⟨q10, h, h11, h12⟩ <;> omega
         · exact hE5.elim .inl (fun h => h.elim fun q h => .inr ⟨q, h.1, by omega, by omega, h.2.2⟩)
 go_wp2_with fail
 refine (HTR.out w0 (HLS.out.frF HF0.out)).mono ?_
 rintro e w2 ⟨cs, E2, rfl, hN, hE2, _, hf2⟩
 have HF2 := Lib.hid (HF0.out.trans' hf2).up
 have HB2 := Lib.hid (HB0.out.fr hf2 (fun h => h))
 clear hf2
 go_wp2_with ((with_reducible change wpList _ _ _ (Oper.mk _ (.store 45 _ _) _ _ _ _ :: _) _ _); refine wpList_store_blkH rfl 45 _ _ rfl _ _ rfl rfl 45 _ HB2.out (by rw [hN.sz, hz0]) (inf45c hN) (hN).one ?_)
 refine Lib.hid ?_
 rintro wb hbb hfb
 have HFF := Lib.hid ((HF2.out.andX hfb (Nat.le_refl _)).shut (Nat.le_refl _))
 go_wp2_with fail
 exact bodyPost_ret (v := .tuple #[.agg cs, .int .i64 E2]) (results_c2 rfl _ _ w.heap.size 45 _ (0, 0) _ rfl hbb Tryz.underlying45 rfl (inf45c hN) _ rfl) rfl ⟨_, _, rfl, hN, hE2, trivial, HFF.out⟩

theorem TripQ.keep {rs : List Int} {p B : Nat} {w w' : World} {cs : Array Value} {E : Int} {S : Nat → Prop} (h : TripQ rs p w B cs E) (hf : Fr S w w') (hS : ∀ j ccs, Blk w j 39 ccs → ¬ S j) : TripQ rs p w' B cs E := ⟨fun q hq => by
 obtain ⟨pv, h1, h2, h3⟩ := h.1 q hq
 refine ⟨pv, h1, fun h0 => ?_, h3⟩
 obtain ⟨s0, t, e, d, o, a1, a2, a3, a4, a5⟩ := h2 h0
 exact ⟨s0, t, e, d, o, a1, a2, a3, a4.fr hf (fun j cs _ hb => hS j cs hb), a5⟩, h.2⟩
theorem TripQ.down {rs : List Int} {p B B' : Nat} {w : World} {cs : Array Value} {E : Int} (h : TripQ rs p w B cs E) (hB : B' ≤ B) : TripQ rs p w B' cs E := ⟨fun q hq => by
 obtain ⟨pv, h1, h2, h3⟩ := h.1 q hq
 refine ⟨pv, h1, fun h0 => ?_, h3⟩
 obtain ⟨s0, t, e, d, o, a1, a2, a3, a4, a5⟩ := h2 h0
 exact ⟨s0, t, e, d, o, a1, a2, a3, a4.base hB, a5⟩, h.2⟩
theorem no_word {rs : List Int} {p : Nat} {T : ByteArray} (h : peekOf rs (skip rs [0] p) = 63) (hT : 0 < T.size) (hx : ¬ (txt T).getD 0 0 = 63) : wdI rs p T = -1 := by
 have h1 : isAt rs (skip rs [0] p) (txt T) = false := isAt_false (i := 0) (by rw [txt_len]; exact hT) (by rw [Nat.add_zero, h]; exact fun e => hx e.symm)
 unfold wdI wordAt
 rw [h1]
 rfl
theorem no_mark {rs : List Int} {p : Nat} {T : ByteArray} (h : peekOf rs (skip rs [0] p) = 63) (hT : 0 < T.size) (hx : ¬ (txt T).getD 0 0 = 63) : mkI rs p T = -1 := by
 have h1 : isAt rs (skip rs [0] p) (txt T) = false := isAt_false (i := 0) (by rw [txt_len]; exact hT) (by rw [Nat.add_zero, h]; exact fun e => hx e.symm)
 unfold mkI markAt
 rw [h1]
 rfl
theorem ritem_q (g c p : Nat) (inn : Int) (rs : List Int) (w : World) (hl : rs.length ≤ 8100) (hw : wt rs ≤ 8100) (hv : ∀ r, r ∈ rs → signR r = true) (hp : p ≤ rs.length) (h : Ls w g c rs) (h63 : peekOf rs (skip rs [0] p) = 63) :
    Calls Tryz.prog 65 #[.slice (some ⟨g, 0, none⟩) rs.length c, .int .i64 (p : Int), .int .i64 inn] w (ItemW rs p (fun w' cs E => TripQ rs p w' w.heap.size cs E) w) := by
 have HLS := Lib.hid h
 have HW0 := Lib.hid (fun w1 (h4 : Ls w1 g c rs) => (show Calls Tryz.prog 25 #[.slice (some ⟨g, 0, none⟩) rs.length c, .int .i64 (p : Int), .string ⟨#[70, 73, 76, 84, 69, 82]⟩] w1 fun e w' => e = .returned (.int .i64 (-1)) ∧ w1 = w' by have h := rword2_any ⟨#[70, 73, 76, 84, 69, 82]⟩ g c p rs w1 (by decide) hl hv hp h4; rw [no_word h63 (by decide) (by decide)] at h; exact h))
 have HW1 := Lib.hid (fun w1 (h4 : Ls w1 g c rs) => (show Calls Tryz.prog 25 #[.slice (some ⟨g, 0, none⟩) rs.length c, .int .i64 (p : Int), .string ⟨#[66, 73, 78, 68]⟩] w1 fun e w' => e = .returned (.int .i64 (-1)) ∧ w1 = w' by have h := rword2_any ⟨#[66, 73, 78, 68]⟩ g c p rs w1 (by decide) hl hv hp h4; rw [no_word h63 (by decide) (by decide)] at h; exact h))
 have HW2 := Lib.hid (fun w1 (h4 : Ls w1 g c rs) => (show Calls Tryz.prog 25 #[.slice (some ⟨g, 0, none⟩) rs.length c, .int .i64 (p : Int), .string ⟨#[79, 80, 84, 73, 79, 78, 65, 76]⟩] w1 fun e w' => e = .returned (.int .i64 (-1)) ∧ w1 = w' by have h := rword2_any ⟨#[79, 80, 84, 73, 79, 78, 65, 76]⟩ g c p rs w1 (by decide) hl hv hp h4; rw [no_word h63 (by decide) (by decide)] at h; exact h))
 have HW3 := Lib.hid (fun w1 (h4 : Ls w1 g c rs) => (show Calls Tryz.prog 25 #[.slice (some ⟨g, 0, none⟩) rs.length c, .int .i64 (p : Int), .string ⟨#[87, 73, 78, 68, 79, 87]⟩] w1 fun e w' => e = .returned (.int .i64 (-1)) ∧ w1 = w' by have h := rword2_any ⟨#[87, 73, 78, 68, 79, 87]⟩ g c p rs w1 (by decide) hl hv hp h4; rw [no_word h63 (by decide) (by decide)] at h; exact h))
 have HM := Lib.hid (fun w1 (h4 : Ls w1 g c rs) => (show Calls Tryz.prog 27 #[.slice (some ⟨g, 0, none⟩) rs.length c, .int .i64 (p : Int), .string ⟨#[123]⟩] w1 fun e w' => e = .returned (.int .i64 (-1)) ∧ w1 = w' by have h := rmark_any ⟨#[123]⟩ g c p rs w1 (by decide) hl hv hp h4; rw [no_mark h63 (by decide) (by decide)] at h; exact h))
 have HTR := Lib.hid (fun w1 (h4 : Ls w1 g c rs) => rtriple_any g c p rs w1 hl hw hv hp h4)
 clear h hv hw h63
 go_enter Tryz.func65, Tryz.ntmps65
 go_wp2_with ((with_reducible change wpList _ _ _ (Oper.mk _ (.alloc 45) _ _ _ _ :: _) _ _); refine wpList_alloc_blk rfl 45 rfl Z45 infz45 ?_)
 refine Lib.hid ?_
 rintro w0 z0 HZ0 HB0 HF0 hs0
 have hz0 : z0.size = 33 := by rw [HZ0.out]; rfl
 clear HZ0
 go_wp2_with fail
 refine (HW0.out w0 (HLS.out.frF HF0.out)).mono ?_
 rintro e w1 ⟨rfl, rfl⟩
 go_wp2_with fail
 refine (HW1.out w0 (HLS.out.frF HF0.out)).mono ?_
 rintro e w1 ⟨rfl, rfl⟩
 go_wp2_with fail
 refine (HW2.out w0 (HLS.out.frF HF0.out)).mono ?_
 rintro e w1 ⟨rfl, rfl⟩
 go_wp2_with fail
 refine (HW3.out w0 (HLS.out.frF HF0.out)).mono ?_
 rintro e w1 ⟨rfl, rfl⟩
 go_wp2_with fail
 refine (HM.out w0 (HLS.out.frF HF0.out)).mono ?_
 rintro e w1 ⟨rfl, rfl⟩
 go_wp2_with fail
 refine (HTR.out w0 (HLS.out.frF HF0.out)).mono ?_
 rintro e w2 ⟨cs, E2, rfl, hN, hE2, hJ, hf2⟩
 have HF2 := Lib.hid (HF0.out.trans' hf2).up
 have HB2 := Lib.hid (HB0.out.fr hf2 (fun h => h))
 have HJ := Lib.hid hJ
 clear hf2 hJ
 go_wp2_with ((with_reducible change wpList _ _ _ (Oper.mk _ (.store 45 _ _) _ _ _ _ :: _) _ _); refine wpList_store_blkH rfl 45 _ _ rfl _ _ rfl rfl 45 _ HB2.out (by rw [hN.sz, hz0]) (inf45c hN) (hN).one ?_)
 refine Lib.hid ?_
 rintro wb hbb hfb
 have HFF := Lib.hid ((HF2.out.andX hfb (Nat.le_refl _)).shut (Nat.le_refl _))
 go_wp2_with fail
 exact bodyPost_ret (v := .tuple #[.agg cs, .int .i64 E2]) (results_c2 rfl _ _ w.heap.size 45 _ (0, 0) _ rfl hbb Tryz.underlying45 rfl (inf45c hN) _ rfl) rfl ⟨_, _, rfl, hN, hE2, TripQ.keep (TripQ.down HJ.out (Nat.le_of_lt hs0)) hfb (fun j ccs hb e => Blk.ne_ hb HB2.out (by decide) e), HFF.out⟩

theorem rgroup_all (g c : Nat) (rs : List Int) (hl : rs.length ≤ 8100) (hw : wt rs ≤ 8100) (hv : ∀ r, r ∈ rs → signR r = true) : ∀ (n p inn : Nat) (w : World), inn ≤ 40 → rs.length - p < n → p ≤ rs.length → Ls w g c rs →
    Calls Tryz.prog 30 #[.slice (some ⟨g, 0, none⟩) rs.length c, .int .i64 (p : Int), .int .i64 (inn : Int)] w (GW rs p w)
 | 0, p, inn, w, hin, hn, hp, h => absurd hn (by omega)
 | n + 1, p, inn, w, hin, hn, hp, h => by
  refine (rgroup_walk (fun _ _ _ => True) (fun _ _ _ _ _ _ _ _ => trivial) g c p inn hin rs w hl hv hp h (fun q w1 _ h1 h2 h3 h4 => ?_)).mono (fun e w' h => ?_)
  · rw [show ((inn : Int) + 1) = ((inn + 1 : Nat) : Int) by omega]
    refine (ritem_walk g c q (inn + 1) (by omega) rs w1 hl hw hv h2 h4 (fun q2 w2 h5 h6 h7 => rgroup_all g c rs hl hw hv n q2 (inn + 1) w2 (by omega) (by omega) h6 h7)).mono (fun e w' h => ?_)
    obtain ⟨cs, E, rfl, hN, hB, _, hf⟩ := h
    exact ⟨cs, E, rfl, hN, hB, fun _ => trivial, hf⟩
  · obtain ⟨A, n2, c2, E, rfl, hB, hf, _⟩ := h
    exact ⟨A, n2, c2, E, rfl, hB, hf⟩
theorem rgroup_top (g c p : Nat) (rs : List Int) (w : World) (hl : rs.length ≤ 8100) (hw : wt rs ≤ 8100) (hv : ∀ r, r ∈ rs → signR r = true) (hp : p ≤ rs.length) (h : Ls w g c rs) (h63 : peekOf rs (skip rs [0] (markTo rs p ⟨#[123]⟩)) = 63) :
    Calls Tryz.prog 30 #[.slice (some ⟨g, 0, none⟩) rs.length c, .int .i64 (p : Int), .int .i64 0] w (GrpW rs p 0 (fun w' cs E => TripQ rs (markTo rs p ⟨#[123]⟩) w' w.heap.size cs E) w) := by
 refine rgroup_walk (fun w' cs E => TripQ rs (markTo rs p ⟨#[123]⟩) w' w.heap.size cs E) (fun w1 w2 cs E S hJ hf hS => TripQ.keep hJ hf hS) g c p 0 (by decide) rs w hl hv hp h (fun q w1 hb h1 h2 h3 h4 => ?_)
 by_cases hq : q = markTo rs p ⟨#[123]⟩
 · refine (ritem_q g c q _ rs w1 hl hw hv h2 h4 (by rw [hq]; exact h63)).mono (fun e w' h => ?_)
   obtain ⟨cs, E, rfl, hN, hB, hJ, hf⟩ := h
   exact ⟨cs, E, rfl, hN, hB, fun _ => (by rw [← hq]; exact TripQ.down hJ hb), hf⟩
 · refine (ritem_walk g c q 1 (by decide) rs w1 hl hw hv h2 h4 (fun q2 w2 h5 h6 h7 => rgroup_all g c rs hl hw hv (rs.length + 1) q2 1 w2 (by decide) (by omega) h6 h7)).mono (fun e w' h => ?_)
   obtain ⟨cs, E, rfl, hN, hB, _, hf⟩ := h
   exact ⟨cs, E, rfl, hN, hB, fun h => absurd h hq, hf⟩

/-- The text's own beginning. -/
def hdL : List Int := [82, 69, 71, 73, 83, 84, 69, 82, 32, 82, 83, 84, 82, 69, 65, 77, 32, 60, 117, 58, 111, 62, 32, 65, 83, 32, 83, 69, 76, 69, 67, 84, 32, 63, 120, 32, 87, 72, 69, 82, 69, 32, 123, 32, 63, 120, 32]
structure HeadIs (rs : List Int) : Prop where
 n : 47 ≤ rs.length
 pk : ∀ i, i < 47 → peekOf rs i = peekOf hdL i
theorem skip_agree {rs hd : List Int} {N : Nat} (hN : hd.length = N) (hle : N ≤ rs.length) (h : ∀ i, i < N → peekOf rs i = peekOf hd i) : ∀ (k p : Nat), N - p ≤ k → p < N → skip hd [0] p < N → skip rs [0] p = skip hd [0] p
 | 0, p, hk, hp, _ => absurd hp (by omega)
 | k + 1, p, hk, hp, hs => by
  have e : peekOf rs p = rs.getD p 0 := by unfold peekOf; rw [if_pos (by omega)]
  have e2 : peekOf hd p = hd.getD p 0 := by unfold peekOf; rw [if_pos (by omega)]
  have e3 : rs.getD p 0 = hd.getD p 0 := by rw [← e, ← e2]; exact h p hp
  by_cases hc : [(0 : Int)].contains (clsOf (hd.getD p 0)) = true
  · have h1 := skip_step (rs := hd) (p := p) (by omega) hc
    have h2 := skip_step (rs := rs) (p := p) (by omega) (by rw [e3]; exact hc)
    rw [h1] at hs ⊢
    rw [h2]
    by_cases hp1 : p + 1 < N
    · exact skip_agree hN hle h k (p + 1) (by omega) hp1 hs
    · have h3 := skip_stop (rs := hd) (cs := [0]) (p := p + 1) (fun h => by omega)
      omega
  · rw [skip_stop (rs := hd) (fun h => hc h.2), skip_stop (rs := rs) (fun h => hc (by rw [← e3]; exact h.2))]
theorem isAt_agree {rs hd ts : List Int} {N p : Nat} (h : ∀ i, i < N → peekOf rs i = peekOf hd i) (hp : p + ts.length ≤ N) : isAt rs p ts = isAt hd p ts := by
 unfold isAt
 rw [Bool.eq_iff_iff, List.all_eq_true, List.all_eq_true]
 constructor
 · intro h1 i hi
   have := h1 i hi
   rw [h (p + i) (by have := List.mem_range.1 hi; omega)] at this
   exact this
 · intro h1 i hi
   have := h1 i hi
   rw [h (p + i) (by have := List.mem_range.1 hi; omega)]
   exact this
theorem mk_head {rs : List Int} (H : HeadIs rs) (p : Nat) (T : ByteArray) (hp : p < 47) (hs : skip hdL [0] p + T.size ≤ 47) (hT : 0 < T.size) : mkI rs p T = mkI hdL p T := by
 have h1 := skip_agree (hd := hdL) (N := 47) rfl H.n H.pk 47 p (by omega) hp (by omega)
 have h2 := isAt_agree (ts := txt T) (p := skip hdL [0] p) (N := 47) H.pk (by rw [txt_len]; exact hs)
 unfold mkI markTo markAt
 rw [h1, h2]
theorem wd_head {rs : List Int} (H : HeadIs rs) (p : Nat) (T : ByteArray) (hp : p < 47) (hs : skip hdL [0] p + T.size < 47) (hT : 0 < T.size) : wdI rs p T = wdI hdL p T := by
 have h1 := skip_agree (hd := hdL) (N := 47) rfl H.n H.pk 47 p (by omega) hp (by omega)
 have h2 := isAt_agree (ts := txt T) (p := skip hdL [0] p) (N := 47) H.pk (by rw [txt_len]; omega)
 unfold wdI wordTo wordAt
 rw [h1, h2, H.pk _ hs]
theorem hw_REGISTER {rs : List Int} (H : HeadIs rs) : wdI rs 0 ⟨#[82, 69, 71, 73, 83, 84, 69, 82]⟩ = 8 := (wd_head H 0 _ (by decide) (by decide +kernel) (by decide)).trans (by decide +kernel)
theorem hw_RSTREAM {rs : List Int} (H : HeadIs rs) : wdI rs 8 ⟨#[82, 83, 84, 82, 69, 65, 77]⟩ = 16 := (wd_head H 8 _ (by decide) (by decide +kernel) (by decide)).trans (by decide +kernel)
theorem hw_ISTREAM {rs : List Int} (H : HeadIs rs) : wdI rs 8 ⟨#[73, 83, 84, 82, 69, 65, 77]⟩ = -1 := (wd_head H 8 _ (by decide) (by decide +kernel) (by decide)).trans (by decide +kernel)
theorem hw_DSTREAM {rs : List Int} (H : HeadIs rs) : wdI rs 8 ⟨#[68, 83, 84, 82, 69, 65, 77]⟩ = -1 := (wd_head H 8 _ (by decide) (by decide +kernel) (by decide)).trans (by decide +kernel)
theorem hw_AS {rs : List Int} (H : HeadIs rs) : wdI rs 22 ⟨#[65, 83]⟩ = 25 := (wd_head H 22 _ (by decide) (by decide +kernel) (by decide)).trans (by decide +kernel)
theorem hw_SELECT {rs : List Int} (H : HeadIs rs) : wdI rs 25 ⟨#[83, 69, 76, 69, 67, 84]⟩ = 32 := (wd_head H 25 _ (by decide) (by decide +kernel) (by decide)).trans (by decide +kernel)
theorem hw_DISTINCT {rs : List Int} (H : HeadIs rs) : wdI rs 32 ⟨#[68, 73, 83, 84, 73, 78, 67, 84]⟩ = -1 := (wd_head H 32 _ (by decide) (by decide +kernel) (by decide)).trans (by decide +kernel)
theorem hw_FROM {rs : List Int} (H : HeadIs rs) : wdI rs 35 ⟨#[70, 82, 79, 77]⟩ = -1 := (wd_head H 35 _ (by decide) (by decide +kernel) (by decide)).trans (by decide +kernel)
theorem hw_WHERE {rs : List Int} (H : HeadIs rs) : wdI rs 35 ⟨#[87, 72, 69, 82, 69]⟩ = 41 := (wd_head H 35 _ (by decide) (by decide +kernel) (by decide)).trans (by decide +kernel)
theorem hm_32_40 {rs : List Int} (H : HeadIs rs) : mkI rs 32 ⟨#[40]⟩ = -1 := (mk_head H 32 _ (by decide) (by decide +kernel) (by decide)).trans (by decide +kernel)
theorem hm_32_63 {rs : List Int} (H : HeadIs rs) : mkI rs 32 ⟨#[63]⟩ = 34 := (mk_head H 32 _ (by decide) (by decide +kernel) (by decide)).trans (by decide +kernel)
theorem hm_35_63 {rs : List Int} (H : HeadIs rs) : mkI rs 35 ⟨#[63]⟩ = -1 := (mk_head H 35 _ (by decide) (by decide +kernel) (by decide)).trans (by decide +kernel)
theorem hm_35_40 {rs : List Int} (H : HeadIs rs) : mkI rs 35 ⟨#[40]⟩ = -1 := (mk_head H 35 _ (by decide) (by decide +kernel) (by decide)).trans (by decide +kernel)
theorem hm_41_123 {rs : List Int} (H : HeadIs rs) : mkI rs 41 ⟨#[123]⟩ = 43 := (mk_head H 41 _ (by decide) (by decide +kernel) (by decide)).trans (by decide +kernel)
theorem head_skip43 {rs : List Int} (H : HeadIs rs) : skip rs [0] 43 = 44 := (skip_agree (hd := hdL) (N := 47) rfl H.n H.pk 47 43 (by omega) (by omega) (by decide +kernel)).trans (by decide +kernel)
theorem head_63 {rs : List Int} (H : HeadIs rs) : peekOf rs 44 = 63 := (H.pk 44 (by decide)).trans (by decide +kernel)
theorem head_iri {rs : List Int} (H : HeadIs rs) {q : Nat} {i : ByteArray} (h : IriP rs 16 q i) : q = 22 := by
 have hs : skip rs [0] 16 = 17 := (skip_agree (hd := hdL) (N := 47) rfl H.n H.pk 47 16 (by omega) (by omega) (by decide +kernel)).trans (by decide +kernel)
 have hk : ∀ i x, i < 47 → peekOf hdL i = x → peekOf rs i = x := fun i x h1 h2 => (H.pk i h1).trans h2
 have hn := H.n
 have e17 := hk 17 60 (by decide) (by decide +kernel)
 have e18 := hk 18 117 (by decide) (by decide +kernel)
 have e19 := hk 19 58 (by decide) (by decide +kernel)
 have e20 := hk 20 111 (by decide) (by decide +kernel)
 have e21 := hk 21 62 (by decide) (by decide +kernel)
 have h1 := h.1
 rw [hs] at h1
 unfold docR at h1
 rw [if_pos e17] at h1
 unfold iriR at h1
 rw [if_pos e17, iriT_go _ (by omega) (by rw [e18]; decide) (by rw [e18]; decide) (by rw [e18]; decide), iriT_go _ (by omega) (by rw [e19]; decide) (by rw [e19]; decide) (by rw [e19]; decide), iriT_go _ (by omega) (by rw [e20]; decide) (by rw [e20]; decide) (by rw [e20]; decide), iriT_shut _ e21] at h1
 injection h1 with _ h1
 exact h1.symm
theorem head_varp {rs : List Int} {p f q f' : Nat} (h : VarP rs p f q) (hm : mkI rs p ⟨#[63]⟩ = (f' : Int)) (h1 : peekOf rs f' = 120) (h2 : peekOf rs (f' + 1) = 32) (hl : f' + 1 < rs.length) : q = f' + 1 := by
 have hf := h.from_
 unfold mkI at hm
 rw [if_pos h.mark] at hm
 have e : f = f' := by omega
 have hq := h.end_
 rw [e] at hq
 have g1 : rs.getD f' 0 = 120 := by rw [← h1]; unfold peekOf; rw [if_pos (by omega)]
 have g2 : rs.getD (f' + 1) 0 = 32 := by rw [← h2]; unfold peekOf; rw [if_pos hl]
 rw [wordE_step (by omega) (by rw [g1]; decide), wordE_stop (fun h => by rw [g2] at h; exact absurd h.2 (by decide))] at hq
 exact hq
theorem head_iri_at {rs : List Int} (H : HeadIs rs) : IriP rs 16 22 ⟨#[117, 58, 111]⟩ := by
 have hs : skip rs [0] 16 = 17 := (skip_agree (hd := hdL) (N := 47) rfl H.n H.pk 47 16 (by omega) (by omega) (by decide +kernel)).trans (by decide +kernel)
 have hk : ∀ i x, i < 47 → peekOf hdL i = x → peekOf rs i = x := fun i x h1 h2 => (H.pk i h1).trans h2
 have hn := H.n
 have e17 := hk 17 60 (by decide) (by decide +kernel)
 have e18 := hk 18 117 (by decide) (by decide +kernel)
 have e19 := hk 19 58 (by decide) (by decide +kernel)
 have e20 := hk 20 111 (by decide) (by decide +kernel)
 have e21 := hk 21 62 (by decide) (by decide +kernel)
 refine ⟨?_, by decide +kernel⟩
 rw [hs]
 unfold docR
 rw [if_pos e17]
 unfold iriR
 rw [if_pos e17, iriT_go _ (by omega) (by rw [e18]; decide) (by rw [e18]; decide) (by rw [e18]; decide), iriT_go _ (by omega) (by rw [e19]; decide) (by rw [e19]; decide) (by rw [e19]; decide), iriT_go _ (by omega) (by rw [e20]; decide) (by rw [e20]; decide) (by rw [e20]; decide), iriT_shut _ e21, e18, e19, e20]
 have hx : strL ([] ++ [117] ++ [58] ++ [111]) = ⟨#[117, 58, 111]⟩ := by decide +kernel
 show (some (DT.mk 1 (strL ([] ++ [117] ++ [58] ++ [111])) ⟨#[]⟩ ⟨#[]⟩), 22) = _
 rw [hx]
theorem var_one {rs : List Int} {p f : Nat} {x : Int} (hm : mkI rs p ⟨#[63]⟩ = (f : Int)) (h1 : peekOf rs f = x) (hx : clsOf x = 1) (h2 : peekOf rs (f + 1) = 32) (hl : f + 1 < rs.length) : VarP rs p f (f + 1) := by
 unfold mkI at hm
 have g1 : rs.getD f 0 = x := by rw [← h1]; unfold peekOf; rw [if_pos (by omega)]
 have g2 : rs.getD (f + 1) 0 = 32 := by rw [← h2]; unfold peekOf; rw [if_pos hl]
 split at hm
 · rename_i hma
   refine ⟨hma, by omega, by rw [h1]; exact hx, ?_⟩
   rw [wordE_step (by omega) (by rw [g1]; unfold inW; rw [hx]; rfl), wordE_stop (fun h => by rw [g2] at h; exact absurd h.2 (by decide))]
 · omega

section
variable {ops : Array Oper} {rest : List Oper} {op : Oper} {a : Act} {w : World} {Q : Exit → Act → World → Prop}
theorem storeVar_cells (ty : TypeId) (p : Addr) (v : Value) : storeVar ty p v = storeVar ty p (.agg v.cells) := rfl
theorem wpList_store_cell (hgd : op.guard = none) (ty : TypeId) (x y : Operand) (ho : op.op = .store ty x y) (b o : Nat) (v : Value) (hx : a.eval x = .pointer (some ⟨b, o, none⟩)) (hy : a.eval y = v) (hc : v.cells = #[v]) (t : TypeId) (cs : Array Value) (hb : Blk w b t cs) (hsz : o + 1 ≤ cs.size) (hi : (Tryz.prog.info? ty).map (·.size) = some 1) (h1 : v.oneCell' = true)
    (h : Hid (∀ w', Blk w' b t (cs.setIfInBounds o v) → Fr (fun j => j = b) w w' → wpList Tryz.prog ops Q rest (a.put op.dst undef) w')) : wpList Tryz.prog ops Q (op :: rest) a w :=
 wpList_plain hgd fun _ hK => by
  have hr := run_storeVar_mid (P := Tryz.prog) w b o ty #[v] (hb.therePart hsz) hi (cells1 v h1).one
  have hs := h.out _ (hb.set_ o v) ((Fr.refl (fun j => j = b) w).setCell ⟨b, o, none⟩ (fun _ => rfl) v)
  unfold Oper.wp execOp
  simp only [ho, hx, hy, Instr.storeAt, Instr.sureAddr, Sem.run_bind, Sem.run_pure, Result.andThen_ok]
  rw [storeVar_cells, hc, hr]
  exact hK _ _ hs
end
theorem ix99_0 (a b d : ByteArray) (w : World) : (Instr.index 99 (.agg #[.string a, .string b, .string d]) (.int .i64 0)).run Tryz.prog w = .ok (.string a) w := by kernel_rfl
theorem ix99_1 (a b d : ByteArray) (w : World) : (Instr.index 99 (.agg #[.string a, .string b, .string d]) (.int .i64 1)).run Tryz.prog w = .ok (.string b) w := by kernel_rfl
theorem ix99_2 (a b d : ByteArray) (w : World) : (Instr.index 99 (.agg #[.string a, .string b, .string d]) (.int .i64 2)).run Tryz.prog w = .ok (.string d) w := by kernel_rfl
abbrev Z30 : Array Value := #[.string ⟨#[]⟩, .string ⟨#[]⟩, .bool false, .slice none 0 0, .slice none 0 0, .slice none 0 0, .slice none 0 0]
theorem inf30 : (Tryz.prog.info? 30).map (·.size) = some 7 := by kernel_rfl
theorem infz30 : (Tryz.prog.info? 30).bind (·.zero) = some (.agg Z30) := by kernel_rfl
theorem infZ103 : (Tryz.prog.info? 103).map (fun i => (i.zero, i.size, i.bytes)) = some (some (.agg #[.string ⟨#[]⟩, .string ⟨#[]⟩, .string ⟨#[]⟩]), 3, 48) := by kernel_rfl
theorem infZ9 : (Tryz.prog.info? 9).map (fun i => (i.zero, i.size, i.bytes)) = some (some (.string ⟨#[]⟩), 1, 16) := by kernel_rfl
theorem cellsQ7 (a b : ByteArray) (d : Bool) (A1 : Option Addr) (n1 c1 : Nat) (A2 : Option Addr) (n2 c2 : Nat) (A3 : Option Addr) (n3 c3 : Nat) (A4 : Option Addr) (n4 c4 : Nat) : CellsN 7 #[.string a, .string b, .bool d, .slice A1 n1 c1, .slice A2 n2 c2, .slice A3 n3 c3, .slice A4 n4 c4] := ⟨rfl, all_oneCell_toArray (cs := [.string a, .string b, .bool d, .slice A1 n1 c1, .slice A2 n2 c2, .slice A3 n3 c3, .slice A4 n4 c4]) (by
 intro v hv
 simp only [List.mem_cons, List.not_mem_nil, or_false] at hv
 rcases hv with rfl | rfl | rfl | rfl | rfl | rfl | rfl <;> rfl)⟩
theorem cells103 (a b d : ByteArray) : CellsN 3 #[.string a, .string b, .string d] := ⟨rfl, all_oneCell_toArray (cs := [.string a, .string b, .string d]) (by
 intro v hv
 simp only [List.mem_cons, List.not_mem_nil, or_false] at hv
 rcases hv with rfl | rfl | rfl <;> rfl)⟩
/-- The tree of a text: its group. -/
def QInfo (rs : List Int) (w' : World) (B : Nat) (A : Option Addr) (n c q : Nat) : Prop :=
 n = 1 → ∃ (cs : Array Value) (i : Nat), w'.ownsRow B 45 33 (.slice A 1 c) 1 cs.toList ∧ CellsN 33 cs ∧ TripQ rs 43 w' B cs (i : Int) ∧ i ≤ rs.length ∧ markAt rs i ⟨#[125]⟩ = true ∧ q = markTo rs i ⟨#[125]⟩
/-- One item, a triple of our form; behind it the group's end, and the text's. -/
def QYes (rs : List Int) : Prop := TripYes rs 43 ∧ ∃ x : Nat, (∀ w B cs (q : Nat), TripQ rs 43 w B cs (q : Int) → q = x) ∧ markAt rs x ⟨#[125]⟩ = true ∧ markTo rs x ⟨#[125]⟩ = rs.length
def QPost (rs : List Int) (w : World) (e : Ending) (w' : World) : Prop :=
 ∃ (k i : ByteArray) (A1 : Option Addr) (n1 c1 : Nat) (A : Option Addr) (n c : Nat) (A4 : Option Addr) (n4 c4 : Nat) (E : Int), e = .returned (.tuple #[.agg #[.string k, .string i, .bool false, .slice A1 n1 c1, .slice none 0 0, .slice A n c, .slice A4 n4 c4], .int .i64 E]) ∧ Fr (fun _ => False) w w' ∧
  (E = -1 ∨ ∃ q : Nat, E = (q : Int) ∧ q ≤ rs.length ∧ (QInfo rs w' w.heap.size A n c q ∨ (0 < q ∧ letterOf (peekOf rs (q - 1)) = true))) ∧ (QYes rs → n = 1 ∧ E = (rs.length : Int))
def VarL (rs : List Int) (p : Nat) (w : World) (e : Ending) (w' : World) : Prop := ∃ (s : ByteArray) (E : Int), e = .returned (.tuple #[.string s, .int .i64 E]) ∧ (E = -1 ∨ ∃ q : Nat, E = (q : Int) ∧ p < q ∧ q ≤ rs.length ∧ letterOf (peekOf rs (q - 1)) = true) ∧ Fr (fun _ => False) w w'
theorem rvar_l (g c p : Nat) (rs : List Int) (w : World) (E : Int) (hl : rs.length ≤ 8100) (hv : ∀ r, r ∈ rs → signR r = true) (hE : Beh rs p E ∨ E = (p : Int)) (hp : p ≤ rs.length) (h : Ls w g c rs) :
    Calls Tryz.prog 31 #[.slice (some ⟨g, 0, none⟩) rs.length c, .int .i64 E] w (VarL rs p w) := by
 have key : ∀ q : Nat, p ≤ q → q ≤ rs.length → Calls Tryz.prog 31 #[.slice (some ⟨g, 0, none⟩) rs.length c, .int .i64 (q : Int)] w (VarL rs p w) := fun q h1 h2 => by
  refine (rvar_any g c q rs w hl hv h2 h).mono (fun e w' h => ?_)
  rcases h with ⟨⟨f, q2, hvp, rfl⟩ | ⟨-, rfl⟩, hf⟩
  · have hpos := hvp.pos
    have hm := (mark_in hvp.mark h2).2
    rw [← hvp.from_] at hm
    have hin := word_in rs [95] _ f (Nat.le_refl _)
    rw [← hvp.end_] at hin
    have h3 := (hin (q2 - 1) (by omega) (by omega)).2
    rw [inW_letter] at h3
    exact ⟨_, _, rfl, .inr ⟨q2, rfl, by omega, hpos.2, h3⟩, hf⟩
  · exact ⟨_, _, rfl, .inl rfl, hf⟩
 rcases hE with hE | rfl
 · rcases hE with rfl | ⟨q, rfl, h1, h2⟩
   · exact (rvar_neg _ w).mono (fun e w' h => ⟨_, _, h.1, .inl rfl, h.2 ▸ Fr.refl _ _⟩)
   · exact key q (by omega) h2
 · exact key p (Nat.le_refl _) hp
theorem rsel (g c : Nat) (rs : List Int) (w : World) (hl : rs.length ≤ 8100) (hv : ∀ r, r ∈ rs → signR r = true) (h : Ls w g c rs) (H : HeadIs rs) :
    Calls Tryz.prog 28 #[.slice (some ⟨g, 0, none⟩) rs.length c, .int .i64 32] w fun e w' => ∃ (s : ByteArray) (E : Int), e = .returned (.tuple #[.agg #[.string s, .string ⟨#[]⟩, .string ⟨#[]⟩], .int .i64 E]) ∧ E = 35 ∧ Fr (fun _ => False) w w' := by
 have f0 : Fr (fun _ => False) w (w.alloc (.cells #[.string ⟨#[]⟩, .string ⟨#[]⟩, .string ⟨#[]⟩] 103)) := (Fr.refl _ _).alloc _
 have HB := Lib.hid (show Blk (w.alloc (.cells #[.string ⟨#[]⟩, .string ⟨#[]⟩, .string ⟨#[]⟩] 103)) w.heap.size 103 #[.string ⟨#[]⟩, .string ⟨#[]⟩, .string ⟨#[]⟩] from Blk.new w 103 _)
 have HF := Lib.hid f0
 have hn := H.n
 have hm : Calls Tryz.prog 27 #[.slice (some ⟨g, 0, none⟩) rs.length c, .int .i64 32, .string ⟨#[40]⟩] (w.alloc (.cells #[.string ⟨#[]⟩, .string ⟨#[]⟩, .string ⟨#[]⟩] 103)) fun e w' => e = .returned (.int .i64 (-1)) ∧ (w.alloc (.cells #[.string ⟨#[]⟩, .string ⟨#[]⟩, .string ⟨#[]⟩] 103)) = w' := by
  have h := rmark_any ⟨#[40]⟩ g c 32 rs _ (by decide) hl hv (by omega) (h.frF f0)
  rw [hm_32_40 H] at h
  exact h
 have hvr : Calls Tryz.prog 31 #[.slice (some ⟨g, 0, none⟩) rs.length c, .int .i64 32] (w.alloc (.cells #[.string ⟨#[]⟩, .string ⟨#[]⟩, .string ⟨#[]⟩] 103)) (VarPost rs 32 (w.alloc (.cells #[.string ⟨#[]⟩, .string ⟨#[]⟩, .string ⟨#[]⟩] 103))) := rvar_any g c 32 rs _ hl hv (by omega) (h.frF f0)
 have HM := Lib.hid hm
 have HV := Lib.hid hvr
 have HV3 := Lib.hid (show VarP rs 32 34 35 from var_one (hm_32_63 H) ((H.pk 34 (by decide)).trans (show peekOf hdL 34 = 120 by decide +kernel)) (by decide) ((H.pk 35 (by decide)).trans (by decide +kernel)) (by omega))
 have HQ := Lib.hid (fun f q (h : VarP rs 32 f q) => head_varp h (f' := 34) (hm_32_63 H) ((H.pk 34 (by decide)).trans (by decide +kernel)) ((H.pk 35 (by decide)).trans (by decide +kernel)) (by omega))
 clear f0 h hv hm hvr H
 go_enter Tryz.func28, Tryz.ntmps28
 go_wp2_with fail
 refine HM.out.mono ?_
 rintro e w1 ⟨rfl, rfl⟩
 generalize w.alloc (.cells #[.string ⟨#[]⟩, .string ⟨#[]⟩, .string ⟨#[]⟩] 103) = w0 at *
 go_wp2_with fail
 refine HV.out.mono ?_
 rintro e w2 ⟨hc, hf2⟩
 obtain ⟨s, E, hE, he⟩ : ∃ (s : ByteArray) (E : Int), E = 35 ∧ e = .returned (.tuple #[.string s, .int .i64 E]) := by
  rcases hc with ⟨f, q, hvp, rfl⟩ | ⟨hno, rfl⟩
  · exact ⟨_, _, by rw [HQ.out f q hvp]; rfl, rfl⟩
  · exact absurd HV3.out (hno _ _)
 subst hE
 subst he
 have HB2 := Lib.hid (HB.out.fr hf2 (fun h => h))
 have HF2 := Lib.hid (HF.out.trans' hf2).up
 clear hf2 hc
 go_wp2_with ((with_reducible change wpList _ _ _ (Oper.mk _ (.store 103 _ _) _ _ _ _ :: _) _ _); refine wpList_store_blkH rfl 103 _ _ rfl _ #[.string s, .string ⟨#[]⟩, .string ⟨#[]⟩] rfl rfl 103 _ HB2.out (by rfl) (by kernel_rfl) (cells103 _ _ _).one ?_)
 refine Lib.hid ?_
 rintro wb hbb hfb
 have HFF := Lib.hid ((HF2.out.andX hfb (Nat.le_refl _)).shut (Nat.le_refl _))
 go_wp2_with fail
 exact bodyPost_ret (v := .tuple #[.agg #[.string s, .string ⟨#[]⟩, .string ⟨#[]⟩], .int .i64 35]) (results_c2 rfl _ _ w.heap.size 103 _ (0, 0) _ rfl hbb Tryz.underlying103 rfl (by kernel_rfl) _ rfl) rfl ⟨_, _, rfl, rfl, HFF.out⟩
theorem rword_on (T : ByteArray) (g c q : Nat) (rs : List Int) (w : World) (hT : T.size ≤ 100) (hT0 : 0 < T.size) (hl : rs.length ≤ 8100) (hv : ∀ r, r ∈ rs → signR r = true) (hq : q ≤ rs.length) (h : Ls w g c rs) :
    Calls Tryz.prog 25 #[.slice (some ⟨g, 0, none⟩) rs.length c, .int .i64 (q : Int), .string T] w fun e w' => ∃ E, e = .returned (.int .i64 E) ∧ (E = -1 ∨ ∃ q8 : Nat, E = (q8 : Int) ∧ q < q8 ∧ q8 ≤ rs.length) ∧ w = w' :=
 (rwd_weak T g c q rs w hT hT0 hl hv hq h).mono (fun e w' h => h.elim fun E' h => ⟨E', h.1, h.2.1, h.2.2⟩)
theorem over_one (cs : Array Value) (o : Nat) (v : Value) : over cs o #[v] = cs.setIfInBounds o v := rfl
theorem QInfo.stay {rs : List Int} {w w' : World} {B B' x n c q : Nat} {A : Option Addr} {cs : Array Value} (h : QInfo rs w B A n c q) (hB : B' ≤ B) (hx : Blk w x 30 cs) (hf : Fr (fun j => j = x) w w') : QInfo rs w' B' A n c q := fun hn => by
 obtain ⟨cs1, i, h3, h4, h5, h6⟩ := h hn
 exact ⟨cs1, i, ownsRow_base (ownsRow_fr h3 hf (fun k hk e => own_blk_ne h3 hx (by decide) (by rw [hk, e]))) hB, h4, (h5.keep hf (fun j ccs hb e => Blk.ne_ hb hx (by decide) e)).down hB, h6⟩

theorem rquery_any (g c : Nat) (rs : List Int) (w : World) (hl : rs.length ≤ 8100) (hw : wt rs ≤ 8100) (hv : ∀ r, r ∈ rs → signR r = true) (h : Ls w g c rs) (H : HeadIs rs) :
    Calls Tryz.prog 16 #[.slice (some ⟨g, 0, none⟩) rs.length c] w (QPost rs w) := by
 have HLS := Lib.hid h
 have hn := H.n
 have HWREGISTER := Lib.hid (show ∀ (w1 : World), Ls w1 g c rs → Calls Tryz.prog 25 #[.slice (some ⟨g, 0, none⟩) rs.length c, .int .i64 0, .string ⟨#[82, 69, 71, 73, 83, 84, 69, 82]⟩] w1 fun e w' => e = .returned (.int .i64 (8)) ∧ w1 = w' from fun w1 h1 => by
  have h := rword2_any ⟨#[82, 69, 71, 73, 83, 84, 69, 82]⟩ g c 0 rs w1 (by decide) hl hv (by omega) h1
  rw [hw_REGISTER H] at h
  exact h)
 have HWRSTREAM := Lib.hid (show ∀ (w1 : World), Ls w1 g c rs → Calls Tryz.prog 25 #[.slice (some ⟨g, 0, none⟩) rs.length c, .int .i64 8, .string ⟨#[82, 83, 84, 82, 69, 65, 77]⟩] w1 fun e w' => e = .returned (.int .i64 (16)) ∧ w1 = w' from fun w1 h1 => by
  have h := rword2_any ⟨#[82, 83, 84, 82, 69, 65, 77]⟩ g c 8 rs w1 (by decide) hl hv (by omega) h1
  rw [hw_RSTREAM H] at h
  exact h)
 have HWISTREAM := Lib.hid (show ∀ (w1 : World), Ls w1 g c rs → Calls Tryz.prog 25 #[.slice (some ⟨g, 0, none⟩) rs.length c, .int .i64 8, .string ⟨#[73, 83, 84, 82, 69, 65, 77]⟩] w1 fun e w' => e = .returned (.int .i64 (-1)) ∧ w1 = w' from fun w1 h1 => by
  have h := rword2_any ⟨#[73, 83, 84, 82, 69, 65, 77]⟩ g c 8 rs w1 (by decide) hl hv (by omega) h1
  rw [hw_ISTREAM H] at h
  exact h)
 have HWDSTREAM := Lib.hid (show ∀ (w1 : World), Ls w1 g c rs → Calls Tryz.prog 25 #[.slice (some ⟨g, 0, none⟩) rs.length c, .int .i64 8, .string ⟨#[68, 83, 84, 82, 69, 65, 77]⟩] w1 fun e w' => e = .returned (.int .i64 (-1)) ∧ w1 = w' from fun w1 h1 => by
  have h := rword2_any ⟨#[68, 83, 84, 82, 69, 65, 77]⟩ g c 8 rs w1 (by decide) hl hv (by omega) h1
  rw [hw_DSTREAM H] at h
  exact h)
 have HWAS := Lib.hid (show ∀ (w1 : World), Ls w1 g c rs → Calls Tryz.prog 25 #[.slice (some ⟨g, 0, none⟩) rs.length c, .int .i64 22, .string ⟨#[65, 83]⟩] w1 fun e w' => e = .returned (.int .i64 (25)) ∧ w1 = w' from fun w1 h1 => by
  have h := rword2_any ⟨#[65, 83]⟩ g c 22 rs w1 (by decide) hl hv (by omega) h1
  rw [hw_AS H] at h
  exact h)
 have HWSELECT := Lib.hid (show ∀ (w1 : World), Ls w1 g c rs → Calls Tryz.prog 25 #[.slice (some ⟨g, 0, none⟩) rs.length c, .int .i64 25, .string ⟨#[83, 69, 76, 69, 67, 84]⟩] w1 fun e w' => e = .returned (.int .i64 (32)) ∧ w1 = w' from fun w1 h1 => by
  have h := rword2_any ⟨#[83, 69, 76, 69, 67, 84]⟩ g c 25 rs w1 (by decide) hl hv (by omega) h1
  rw [hw_SELECT H] at h
  exact h)
 have HWDISTINCT := Lib.hid (show ∀ (w1 : World), Ls w1 g c rs → Calls Tryz.prog 25 #[.slice (some ⟨g, 0, none⟩) rs.length c, .int .i64 32, .string ⟨#[68, 73, 83, 84, 73, 78, 67, 84]⟩] w1 fun e w' => e = .returned (.int .i64 (-1)) ∧ w1 = w' from fun w1 h1 => by
  have h := rword2_any ⟨#[68, 73, 83, 84, 73, 78, 67, 84]⟩ g c 32 rs w1 (by decide) hl hv (by omega) h1
  rw [hw_DISTINCT H] at h
  exact h)
 have HWFROM := Lib.hid (show ∀ (w1 : World), Ls w1 g c rs → Calls Tryz.prog 25 #[.slice (some ⟨g, 0, none⟩) rs.length c, .int .i64 35, .string ⟨#[70, 82, 79, 77]⟩] w1 fun e w' => e = .returned (.int .i64 (-1)) ∧ w1 = w' from fun w1 h1 => by
  have h := rword2_any ⟨#[70, 82, 79, 77]⟩ g c 35 rs w1 (by decide) hl hv (by omega) h1
  rw [hw_FROM H] at h
  exact h)
 have HWWHERE := Lib.hid (show ∀ (w1 : World), Ls w1 g c rs → Calls Tryz.prog 25 #[.slice (some ⟨g, 0, none⟩) rs.length c, .int .i64 35, .string ⟨#[87, 72, 69, 82, 69]⟩] w1 fun e w' => e = .returned (.int .i64 (41)) ∧ w1 = w' from fun w1 h1 => by
  have h := rword2_any ⟨#[87, 72, 69, 82, 69]⟩ g c 35 rs w1 (by decide) hl hv (by omega) h1
  rw [hw_WHERE H] at h
  exact h)
 have HM63 := Lib.hid (show ∀ (w1 : World), Ls w1 g c rs → Calls Tryz.prog 27 #[.slice (some ⟨g, 0, none⟩) rs.length c, .int .i64 35, .string ⟨#[63]⟩] w1 fun e w' => e = .returned (.int .i64 (-1)) ∧ w1 = w' from fun w1 h1 => by
  have h := rmark_any ⟨#[63]⟩ g c 35 rs w1 (by decide) hl hv (by omega) h1
  rw [hm_35_63 H] at h
  exact h)
 have HM40 := Lib.hid (show ∀ (w1 : World), Ls w1 g c rs → Calls Tryz.prog 27 #[.slice (some ⟨g, 0, none⟩) rs.length c, .int .i64 35, .string ⟨#[40]⟩] w1 fun e w' => e = .returned (.int .i64 (-1)) ∧ w1 = w' from fun w1 h1 => by
  have h := rmark_any ⟨#[40]⟩ g c 35 rs w1 (by decide) hl hv (by omega) h1
  rw [hm_35_40 H] at h
  exact h)
 have HIR := Lib.hid (show ∀ (w1 : World), Ls w1 g c rs → Calls Tryz.prog 26 #[.slice (some ⟨g, 0, none⟩) rs.length c, .int .i64 16] w1 fun e w' => ∃ (s : ByteArray) (E : Int), e = .returned (.tuple #[.string s, .int .i64 E]) ∧ E = 22 ∧ Fr (fun _ => False) w1 w' from fun w1 h1 => (riri3_any g c 16 rs w1 hl hw hv (by omega) h1).mono (fun e w' h => by
  rcases h with ⟨⟨i, q, hip, rfl⟩ | ⟨hno, -⟩, hf⟩
  · exact ⟨_, _, rfl, by rw [head_iri H hip]; rfl, hf⟩
  · exact absurd (head_iri_at H) (hno _ _)))
 have HSE := Lib.hid (fun w1 h1 => rsel g c rs w1 hl hv h1 H)
 have hmt : markTo rs 41 ⟨#[123]⟩ = 43 := by
  have h := hm_41_123 H
  unfold mkI at h
  split at h
  · omega
  · omega
 have hm123 : markAt rs 41 ⟨#[123]⟩ = true := by
  have h := hm_41_123 H
  unfold mkI at h
  split at h
  · assumption
  · omega
 have no43 : markAt rs 43 ⟨#[125]⟩ = false := mark_ne (x := 63) (by rw [head_skip43 H]; exact head_63 H) (by decide)
 have HGT := Lib.hid (show ∀ (w1 : World), Ls w1 g c rs → Calls Tryz.prog 30 #[.slice (some ⟨g, 0, none⟩) rs.length c, .int .i64 41, .int .i64 0] w1 (fun e w' => ∃ (A : Option Addr) (n c : Nat) (E : Int), e = .returned (.tuple #[.agg #[.slice A n c], .int .i64 E]) ∧ Beh rs 41 E ∧ Fr (fun _ => False) w1 w' ∧ (∀ q : Nat, E = (q : Int) → n = 1 → ∃ (cs : Array Value) (i : Nat), w'.ownsRow w1.heap.size 45 33 (.slice A 1 c) 1 cs.toList ∧ CellsN 33 cs ∧ TripQ rs 43 w' w1.heap.size cs (i : Int) ∧ i ≤ rs.length ∧ markAt rs i ⟨#[125]⟩ = true ∧ q = markTo rs i ⟨#[125]⟩) ∧ (QYes rs → n = 1 ∧ E = (rs.length : Int))) from fun w1 h1 => by
  have h := rgroup_top g c 41 rs w1 hl hw hv (by omega) h1 (by rw [hmt, head_skip43 H]; exact head_63 H)
  rw [hmt] at h
  refine h.mono (fun e w' h => ?_)
  obtain ⟨A, n, c, E, he, hB, hf, h1, h2⟩ := h
  refine ⟨A, n, c, E, he, hB, hf, h1, fun hy => ?_⟩
  obtain ⟨hy1, x, hy2, hy3, hy4⟩ := hy
  obtain ⟨h3, q, rfl⟩ := h2 ⟨hm123, by decide, by rw [hmt]; exact no43, x, fun w cs E hJ hE => by
   rcases hE with rfl | ⟨q, rfl⟩
   · exact absurd hy1 (hJ.2 rfl)
   · rw [hy2 _ _ _ q hJ], hy3⟩
  obtain ⟨cs, i, _, _, hJ, _, _, rfl⟩ := h1 q rfl h3
  obtain rfl := hy2 _ _ _ i hJ
  exact ⟨h3, by rw [hy4]⟩)
 have HGN := Lib.hid (fun w1 => rgroup_neg 0 (.slice (some ⟨g, 0, none⟩) rs.length c) w1)
 have HWN := Lib.hid (fun T w1 => rword2_neg T (.slice (some ⟨g, 0, none⟩) rs.length c) w1)
 have HMB := Lib.hid (fun T q E w1 h1 h2 hE h4 => rmk_beh T g c q rs w1 E h1 h2 hl hv hE h4)
 have HWB := Lib.hid (fun T q E w1 h1 h2 hE h4 => rwd_beh T g c q rs w1 E h1 h2 hl hv hE h4)
 have HVL := Lib.hid (fun p E w1 hE hp h4 => rvar_l g c p rs w1 E hl hv hE hp h4)
 have HWX := Lib.hid (fun q w1 hq h1 => rword_on ⟨#[71, 82, 79, 85, 80]⟩ g c q rs w1 (by decide) (by decide) hl hv hq h1)
 clear h hv hw H hmt hm123 no43
 go_enter Tryz.func16, Tryz.ntmps16
 go_wp2_with ((with_reducible change wpList _ _ _ (Oper.mk _ (.alloc 30) _ _ _ _ :: _) _ _); refine wpList_alloc_blk rfl 30 rfl Z30 infz30 ?_)
 refine Lib.hid ?_
 rintro w0 z0 HZ0 HB0 HF0 hs0
 have hb0 := HB0.out
 rw [HZ0.out] at hb0
 have HR0 := Lib.hid (show Blk w0 w.heap.size 30 #[.string ⟨#[]⟩, .string ⟨#[]⟩, .bool false, .slice none 0 0, .slice none 0 0, .slice none 0 0, .slice none 0 0] from hb0)
 clear HZ0 HB0 hb0 z0
 go_wp2_with ((with_reducible change wpList _ _ _ (Oper.mk _ (.alloc 30) _ _ _ _ :: _) _ _); refine wpList_alloc_blk rfl 30 rfl Z30 infz30 ?_)
 refine Lib.hid ?_
 rintro w1 z1 HZ1 HB1 HF1 hs1
 have hb1 := HB1.out
 rw [HZ1.out] at hb1
 have HX1 := Lib.hid (show Blk w1 w0.heap.size 30 #[.string ⟨#[]⟩, .string ⟨#[]⟩, .bool false, .slice none 0 0, .slice none 0 0, .slice none 0 0, .slice none 0 0] from hb1)
 have HR1 := Lib.hid (HR0.out.fr HF1.out (fun h => h))
 have HF2 := Lib.hid (HF0.out.trans' HF1.out).up
 clear HZ1 HB1 hb1 HR0 HF1 HF0 z1 hs1
 generalize w0.heap.size = y at *
 go_wp2_with fail
 refine (HWREGISTER.out w1 (HLS.out.up HF2.out)).mono ?_
 rintro e w2 ⟨rfl, rfl⟩
 go_wp2_with fail
 go_loopg [6, 23] (3) (fun gk a b wr => ∃ k : Nat, b = .int .i64 (k : Int) ∧ 3 ≤ k + gk ∧ k ≤ 3 ∧ ((k = 0 ∧ a = .int .i64 (-1) ∧ Blk wr y 30 #[.string ⟨#[]⟩, .string ⟨#[]⟩, .bool false, .slice none 0 0, .slice none 0 0, .slice none 0 0, .slice none 0 0]) ∨ (1 ≤ k ∧ a = .int .i64 16 ∧ Blk wr y 30 #[.string ⟨#[82, 83, 84, 82, 69, 65, 77]⟩, .string ⟨#[]⟩, .bool false, .slice none 0 0, .slice none 0 0, .slice none 0 0, .slice none 0 0])) ∧ Blk wr w.heap.size 30 #[.string ⟨#[]⟩, .string ⟨#[]⟩, .bool false, .slice none 0 0, .slice none 0 0, .slice none 0 0, .slice none 0 0] ∧ Fr (fun j => w.heap.size ≤ j) w wr)
 case atStart => exact ⟨0, rfl, by omega, by omega, .inl ⟨rfl, rfl, HX1.out⟩, HR1.out, HF2.out⟩
 case round =>
  clear HX1 HR1 HF2
  obtain ⟨k, rfl, hg, hk, hc, hr, hf⟩ := hrel
  have HR := Lib.hid hr
  have HF := Lib.hid hf
  clear hr hf
  rcases hc with ⟨rfl, rfl, hx⟩ | ⟨h1k, rfl, hx⟩
  · have HX := Lib.hid hx
    clear hx
    have hix := ix99_0
    go_wp2_with fail
    refine (HWRSTREAM.out wr (HLS.out.up HF.out)).mono ?_
    rintro e w2 ⟨rfl, rfl⟩
    go_wp2_with ((with_reducible change wpList _ _ _ (Oper.mk _ (.store 9 _ _) _ _ _ _ :: _) _ _); refine wpList_store_cell rfl 9 _ _ rfl y 0 (.string ⟨#[82, 83, 84, 82, 69, 65, 77]⟩) rfl rfl rfl 30 #[.string ⟨#[]⟩, .string ⟨#[]⟩, .bool false, .slice none 0 0, .slice none 0 0, .slice none 0 0, .slice none 0 0] HX.out (by exact Nat.le_of_ble_eq_true rfl) (by kernel_rfl) rfl ?_)
    refine Lib.hid ?_
    rintro w3 hx3 hf3
    have HX3 := Lib.hid (show Blk w3 y 30 #[.string ⟨#[82, 83, 84, 82, 69, 65, 77]⟩, .string ⟨#[]⟩, .bool false, .slice none 0 0, .slice none 0 0, .slice none 0 0, .slice none 0 0] from hx3)
    have HR3 := Lib.hid (HR.out.oth hf3 (by omega))
    have HF3 := Lib.hid (HF.out.andX hf3 (by omega))
    clear hx3 hf3
    go_wp2_with fail
    go_roundg (2)
    case measure => omega
    case rel => exact ⟨1, rfl, by omega, by omega, .inr ⟨by omega, rfl, HX3.out⟩, HR3.out, HF3.out⟩
  · have HX := Lib.hid hx
    clear hx
    have hk3 : k = 1 ∨ k = 2 ∨ k = 3 := by omega
    rcases hk3 with rfl | rfl | rfl
    · have hix := ix99_1
      go_wp2_with fail
      refine (HWISTREAM.out wr (HLS.out.up HF.out)).mono ?_
      rintro e w2 ⟨rfl, rfl⟩
      go_wp2_with fail
      go_roundg (1)
      case measure => omega
      case rel => exact ⟨2, rfl, by omega, by omega, .inr ⟨by omega, rfl, HX.out⟩, HR.out, HF.out⟩
    · have hix := ix99_2
      go_wp2_with fail
      refine (HWDSTREAM.out wr (HLS.out.up HF.out)).mono ?_
      rintro e w2 ⟨rfl, rfl⟩
      go_wp2_with fail
      go_roundg (0)
      case measure => omega
      case rel => exact ⟨3, rfl, by omega, by omega, .inr ⟨by omega, rfl, HX.out⟩, HR.out, HF.out⟩
    · clear HWRSTREAM HWISTREAM HWDSTREAM
      go_wp2_with fail
      refine (HIR.out wr (HLS.out.up HF.out)).mono ?_
      rintro e w2 ⟨s, E1, rfl, rfl, hf2⟩
      have HX2 := Lib.hid (HX.out.fr hf2 (fun h => h))
      have HR2 := Lib.hid (HR.out.fr hf2 (fun h => h))
      have HF2 := Lib.hid (HF.out.andF hf2)
      clear hf2 HX HR HF
      go_wp2_with ((with_reducible change wpList _ _ _ (Oper.mk _ (.store 9 _ _) _ _ _ _ :: _) _ _); refine wpList_store_cell rfl 9 _ _ rfl y 1 (.string s) rfl rfl rfl 30 #[.string ⟨#[82, 83, 84, 82, 69, 65, 77]⟩, .string ⟨#[]⟩, .bool false, .slice none 0 0, .slice none 0 0, .slice none 0 0, .slice none 0 0] HX2.out (by exact Nat.le_of_ble_eq_true rfl) (by kernel_rfl) rfl ?_)
      refine Lib.hid ?_
      rintro w3 hx3 hf3
      have HX3 := Lib.hid (show Blk w3 y 30 #[.string ⟨#[82, 83, 84, 82, 69, 65, 77]⟩, .string s, .bool false, .slice none 0 0, .slice none 0 0, .slice none 0 0, .slice none 0 0] from hx3)
      have HR3 := Lib.hid (HR2.out.oth hf3 (by omega))
      have HF3 := Lib.hid (HF2.out.andX hf3 (by omega))
      have HL3 := Lib.hid (HLS.out.up HF3.out)
      clear hx3 hf3 HX2 HR2 HF2 HIR
      · go_wp2_with fail
        refine (HWAS.out w3 HL3.out).mono ?_
        rintro e w2 ⟨rfl, rfl⟩
        go_wp2_with fail
        refine (HWSELECT.out w3 HL3.out).mono ?_
        rintro e w2 ⟨rfl, rfl⟩
        go_wp2_with fail
        refine (HWDISTINCT.out w3 HL3.out).mono ?_
        rintro e w2 ⟨rfl, rfl⟩
        clear HWAS HWSELECT HWDISTINCT
        have c3 : w3.cell? ⟨y, 3, none⟩ = some (.slice none 0 0) := HX3.out.cell 3
        go_wp2_with fail
        go_loopg [5] (2) (fun gk a wr => ((a = .int .i64 32 ∧ 2 ≤ 0 + gk ∧ Blk wr y 30 #[.string ⟨#[82, 83, 84, 82, 69, 65, 77]⟩, .string s, .bool false, .slice none 0 0, .slice none 0 0, .slice none 0 0, .slice none 0 0]) ∨ (∃ (A1 : Option Addr) (c1 : Nat) (E : Int), a = .int .i64 E ∧ E = 35 ∧ Blk wr y 30 #[.string ⟨#[82, 83, 84, 82, 69, 65, 77]⟩, .string s, .bool false, .slice A1 1 c1, .slice none 0 0, .slice none 0 0, .slice none 0 0])) ∧ Blk wr w.heap.size 30 #[.string ⟨#[]⟩, .string ⟨#[]⟩, .bool false, .slice none 0 0, .slice none 0 0, .slice none 0 0, .slice none 0 0] ∧ Fr (fun j => w.heap.size ≤ j) w wr)
        case atStart => exact ⟨.inl ⟨rfl, by omega, HX3.out⟩, HR3.out, HF3.out⟩
        case round =>
         clear HX3 HR3 HF3 HL3 c3
         obtain ⟨hc, hr, hf⟩ := hrel
         have HR := Lib.hid hr
         have HF := Lib.hid hf
         have HL := Lib.hid (HLS.out.up hf)
         clear hr hf
         rcases hc with ⟨rfl, hgk, hx⟩ | ⟨A1, c1, E, rfl, rfl, hx⟩
         · have HX := Lib.hid hx
           have c3 : wr.cell? ⟨y, 3, none⟩ = some (.slice none 0 0) := hx.cell 3
           clear hx
           go_wp2_with fail
           refine (HSE.out wr HL.out).mono ?_
           rintro e w5 ⟨s2, E2, rfl, rfl, hf5⟩
           have hf6 := hf5.alloc (.cells #[.string s2, .string ⟨#[]⟩, .string ⟨#[]⟩] 103)
           have hf7 := hf6.alloc (.cells #[.string s2, .string ⟨#[]⟩, .string ⟨#[]⟩] 103)
           have HF7 := Lib.hid hf7
           have c6 : (w5.alloc (.cells #[.string s2, .string ⟨#[]⟩, .string ⟨#[]⟩] 103)).cell? ⟨y, 3, none⟩ = some (.slice none 0 0) := (HX.out.fr hf6 (fun h => h)).cell 3
           have hn5 := Blk.new w5 103 #[.string s2, .string ⟨#[]⟩, .string ⟨#[]⟩]
           have HRA := Lib.hid (blkRange (cs := [.string s2, .string ⟨#[]⟩, .string ⟨#[]⟩]) hn5)
           have hz5 : (w5.alloc (.cells #[.string s2, .string ⟨#[]⟩, .string ⟨#[]⟩] 103)).heap.size = w5.heap.size + 1 := by simp
           have hl8 := Blk.new (w5.alloc (.cells #[.string s2, .string ⟨#[]⟩, .string ⟨#[]⟩] 103)) 103 #[.string s2, .string ⟨#[]⟩, .string ⟨#[]⟩]
           rw [hz5] at hl8
           have HL8 := Lib.hid hl8
           clear hf5 hf6 hf7 hn5 hl8 c3
           go_wp2_with (first | ((with_reducible change wpList _ _ _ (Oper.mk _ (.load 103 _) _ _ _ _ :: _) _ _); refine wpList_load_mid rfl 103 _ rfl _ _ rfl _ _ HRA.out Tryz.underlying103 rfl (by kernel_rfl) ?_) | (at_builtin; refine wpList_append_H rfl _ _ 23 rfl 0 103 (.agg #[.string ⟨#[]⟩, .string ⟨#[]⟩, .string ⟨#[]⟩]) 3 48 Tryz.underlying23 infZ103 rfl (by decide) (.slice none 0 0) 0 [] rfl (World.ownsRow_nil _ _ _ _) (w5.heap.size + 1) #[.string s2, .string ⟨#[]⟩, .string ⟨#[]⟩] rfl HL8.out (cells103 _ _ _) (by decide) (by decide) (Nat.zero_le _) ?_))
           refine Lib.hid ?_
           rintro g1 cap1 w8 ho8 hgrow hor
           have hgr := Fr.of_grown hgrow
           have HX8 := Lib.hid ((HX.out.fr HF7.out (fun h => h)).fr hgr (fun h => by cases h))
           have HR8 := Lib.hid ((HR.out.fr HF7.out (fun h => h)).fr hgr (fun h => by cases h))
           have HF8 := Lib.hid ((HF.out.andF HF7.out).trans hgr (fun j hj h => by cases h))
           clear hgr hgrow hor ho8 c6
           go_wp2_with ((with_reducible change wpList _ _ _ (Oper.mk _ (.store 23 _ _) _ _ _ _ :: _) _ _); refine wpList_store_cell rfl 23 _ _ rfl y 3 (.slice (some ⟨g1, 0, none⟩) 1 cap1) rfl rfl rfl 30 #[.string ⟨#[82, 83, 84, 82, 69, 65, 77]⟩, .string s, .bool false, .slice none 0 0, .slice none 0 0, .slice none 0 0, .slice none 0 0] HX8.out (by exact Nat.le_of_ble_eq_true rfl) (by kernel_rfl) rfl ?_)
           refine Lib.hid ?_
           rintro w9 hx9 hf9
           have HX9 := Lib.hid (show Blk w9 y 30 #[.string ⟨#[82, 83, 84, 82, 69, 65, 77]⟩, .string s, .bool false, .slice (some ⟨g1, 0, none⟩) 1 cap1, .slice none 0 0, .slice none 0 0, .slice none 0 0] from hx9)
           have HR9 := Lib.hid (HR8.out.oth hf9 (by omega))
           have HF9 := Lib.hid (HF8.out.andX hf9 (by omega))
           clear hx9 hf9
           go_wp2_with fail
           go_roundg (0)
           case measure => omega
           case rel => exact ⟨.inr ⟨_, _, 35, rfl, rfl, HX9.out⟩, HR9.out, HF9.out⟩
         · have HX := Lib.hid hx
           have c3 : wr.cell? ⟨y, 3, none⟩ = some (.slice A1 1 c1) := hx.cell 3
           clear hx HSE
           · go_wp2_with fail
             refine (HM63.out wr HL.out).mono ?_
             rintro e w2 ⟨rfl, rfl⟩
             go_wp2_with fail
             refine (HM40.out wr HL.out).mono ?_
             rintro e w2 ⟨rfl, rfl⟩
             go_wp2_with fail
             go_loopg [5] (0) (fun gk a wq => a = .int .i64 35 ∧ wr = wq)
             case atStart => exact ⟨rfl, rfl⟩
             case round =>
              obtain ⟨rfl, rfl⟩ := hrel
              go_wp2_with fail
              refine (HWFROM.out wr HL.out).mono ?_
              rintro e w2 ⟨rfl, rfl⟩
              go_wp2_with fail
              refine (HWWHERE.out wr HL.out).mono ?_
              rintro e w2 ⟨rfl, rfl⟩
              go_wp2_with fail
              refine (HGT.out wr HL.out).mono ?_
              rintro e w5 ⟨A, n, cc, E5, rfl, hB5, hf5, hQ5, hY5⟩
              have HQ5 := Lib.hid hQ5
              have HY5 := Lib.hid hY5
              clear hQ5 hY5
              have hf6 := hf5.alloc (.cells #[.slice A n cc] 27)
              have HX6 := Lib.hid (HX.out.fr hf6 (fun h => h))
              have HR6 := Lib.hid (HR.out.fr hf6 (fun h => h))
              have HF6 := Lib.hid (HF.out.andF hf6)
              have c6 : (w5.alloc (.cells #[.slice A n cc] 27)).cell? ⟨w5.heap.size, 0, none⟩ = some (.slice A n cc) := (Blk.new w5 27 #[.slice A n cc]).cell 0
              have HQ6 := Lib.hid (show ∀ q : Nat, E5 = (q : Int) → QInfo rs (w5.alloc (.cells #[.slice A n cc] 27)) wr.heap.size A n cc q from fun q h1 hn1 => by
               obtain ⟨cs, i, h3, h4, h5, h6⟩ := HQ5.out q h1 hn1
               exact ⟨cs, i, ownsRow_fr h3 ((Fr.refl (fun _ => False) _).alloc _) (fun _ _ h => h), h4, h5.keep ((Fr.refl (fun _ => False) _).alloc _) (fun _ _ _ h => h), h6⟩)
              have hwr := HF.out.size
              clear hf5 hf6 HX HR HF HL c3
              go_wp2_with ((with_reducible change wpList _ _ _ (Oper.mk _ (.store 27 _ _) _ _ _ _ :: _) _ _); refine wpList_store_over rfl 27 _ _ rfl y 5 #[.slice A n cc] rfl rfl 30 #[.string ⟨#[82, 83, 84, 82, 69, 65, 77]⟩, .string s, .bool false, .slice A1 1 c1, .slice none 0 0, .slice none 0 0, .slice none 0 0] HX6.out (by exact Nat.le_of_ble_eq_true rfl) (by kernel_rfl) (one27 _ _ _) ?_)
              refine Lib.hid ?_
              rintro w7 z7 HZ7 hx7 hf7
              rw [HZ7.out, over_one] at hx7
              have HX7 := Lib.hid (show Blk w7 y 30 #[.string ⟨#[82, 83, 84, 82, 69, 65, 77]⟩, .string s, .bool false, .slice A1 1 c1, .slice none 0 0, .slice A n cc, .slice none 0 0] from hx7)
              have HR7 := Lib.hid (HR6.out.oth hf7 (by omega))
              have HF7 := Lib.hid (HF6.out.andX hf7 (by omega))
              have HL7 := Lib.hid (HLS.out.up HF7.out)
              have HQ7 := Lib.hid (show ∀ q : Nat, E5 = (q : Int) → QInfo rs w7 w.heap.size A n cc q from fun q h1 => (HQ6.out q h1).stay hwr HX6.out hf7)
              clear HZ7 hx7 hf7 HX6 HR6 HF6 c6
              rcases hB5 with rfl | ⟨q5, rfl, hq5, hq6⟩
              · clear HQ5 HQ6 HQ7
                go_wp2_with fail
                refine (HWN.out _ w7).mono ?_
                rintro e w2 ⟨rfl, rfl⟩
                go_wp2_with (first | ((with_reducible change wpList _ _ _ (Oper.mk _ (.load 30 _) _ _ _ _ :: _) _ _); refine wpList_load_blk rfl 30 _ rfl _ rfl 30 #[.string ⟨#[82, 83, 84, 82, 69, 65, 77]⟩, .string s, .bool false, .slice A1 1 c1, .slice none 0 0, .slice A n cc, .slice none 0 0] HX7.out _ Tryz.underlying30 rfl inf30 ?_) | ((with_reducible change wpList _ _ _ (Oper.mk _ (.store 30 _ _) _ _ _ _ :: _) _ _); refine wpList_store_blkH rfl 30 _ _ rfl _ _ rfl rfl 30 _ HR7.out (by rfl) (by exact inf30) (by exact (cellsQ7 _ _ _ _ _ _ _ _ _ _ _ _ _ _ _).one) ?_))
                refine Lib.hid ?_
                rintro wb hbb hfb
                have HFF := Lib.hid ((HF7.out.andX hfb (Nat.le_refl _)).shut (Nat.le_refl _))
                go_wp2_with fail
                refine bodyPost_ret (v := .tuple #[.agg #[.string ⟨#[82, 83, 84, 82, 69, 65, 77]⟩, .string s, .bool false, .slice A1 1 c1, .slice none 0 0, .slice A n cc, .slice none 0 0], .int .i64 (-1)]) (results_c2 rfl _ _ w.heap.size 30 _ (0, 0) _ rfl hbb Tryz.underlying30 rfl inf30 _ rfl) rfl ⟨_, _, _, _, _, _, _, _, _, _, _, _, rfl, HFF.out, ?_, fun h => ?_⟩
                · exact .inl rfl
                · have h9 := (HY5.out h).2; omega
              · have hq50 : (0 : Int) ≤ (q5 : Int) := by omega
                go_wp2_with fail
                refine (HWX.out q5 w7 hq6 HL7.out).mono ?_
                rintro e w2 ⟨E8, rfl, hE8, rfl⟩
                rcases hE8 with rfl | ⟨q8, rfl, hq81, hq82⟩
                · go_wp2_with (first | ((with_reducible change wpList _ _ _ (Oper.mk _ (.load 30 _) _ _ _ _ :: _) _ _); refine wpList_load_blk rfl 30 _ rfl _ rfl 30 #[.string ⟨#[82, 83, 84, 82, 69, 65, 77]⟩, .string s, .bool false, .slice A1 1 c1, .slice none 0 0, .slice A n cc, .slice none 0 0] HX7.out _ Tryz.underlying30 rfl inf30 ?_) | ((with_reducible change wpList _ _ _ (Oper.mk _ (.store 30 _ _) _ _ _ _ :: _) _ _); refine wpList_store_blkH rfl 30 _ _ rfl _ _ rfl rfl 30 _ HR7.out (by rfl) (by exact inf30) (by exact (cellsQ7 _ _ _ _ _ _ _ _ _ _ _ _ _ _ _).one) ?_))
                  refine Lib.hid ?_
                  rintro wb hbb hfb
                  have HFF := Lib.hid ((HF7.out.andX hfb (Nat.le_refl _)).shut (Nat.le_refl _))
                  go_wp2_with fail
                  refine bodyPost_ret (v := .tuple #[.agg #[.string ⟨#[82, 83, 84, 82, 69, 65, 77]⟩, .string s, .bool false, .slice A1 1 c1, .slice none 0 0, .slice A n cc, .slice none 0 0], .int .i64 q5]) (results_c2 rfl _ _ w.heap.size 30 _ (0, 0) _ rfl hbb Tryz.underlying30 rfl inf30 _ rfl) rfl ⟨_, _, _, _, _, _, _, _, _, _, _, _, rfl, HFF.out, ?_, fun h => ?_⟩
                  · exact .inr ⟨q5, rfl, hq6, .inl ((HQ7.out q5 rfl).stay (Nat.le_refl _) HR7.out hfb)⟩
                  · exact HY5.out h
                · have hq80 : (0 : Int) ≤ (q8 : Int) := by omega
                  clear HQ5 HQ6 HQ7
                  go_wp2_with fail
                  refine (HWB.out ⟨#[71, 82, 79, 85, 80]⟩ 41 (q5 : Int) w7 (by decide) (by decide) (.inr ⟨q5, rfl, hq5, hq6⟩) HL7.out).mono ?_
                  rintro e w2 ⟨E9, rfl, hE9, rfl⟩
                  go_wp2_with fail
                  refine (HWB.out ⟨#[66, 89]⟩ 41 E9 w7 (by decide) (by decide) hE9 HL7.out).mono ?_
                  rintro e w2 ⟨E10, rfl, hE10, rfl⟩
                  rcases hE10 with rfl | ⟨q9, rfl, hq91, hq92⟩
                  · go_wp2_with (first | ((with_reducible change wpList _ _ _ (Oper.mk _ (.load 30 _) _ _ _ _ :: _) _ _); refine wpList_load_blk rfl 30 _ rfl _ rfl 30 #[.string ⟨#[82, 83, 84, 82, 69, 65, 77]⟩, .string s, .bool false, .slice A1 1 c1, .slice none 0 0, .slice A n cc, .slice none 0 0] HX7.out _ Tryz.underlying30 rfl inf30 ?_) | ((with_reducible change wpList _ _ _ (Oper.mk _ (.store 30 _ _) _ _ _ _ :: _) _ _); refine wpList_store_blkH rfl 30 _ _ rfl _ _ rfl rfl 30 _ HR7.out (by rfl) (by exact inf30) (by exact (cellsQ7 _ _ _ _ _ _ _ _ _ _ _ _ _ _ _).one) ?_))
                    refine Lib.hid ?_
                    rintro wb hbb hfb
                    have HFF := Lib.hid ((HF7.out.andX hfb (Nat.le_refl _)).shut (Nat.le_refl _))
                    go_wp2_with fail
                    refine bodyPost_ret (v := .tuple #[.agg #[.string ⟨#[82, 83, 84, 82, 69, 65, 77]⟩, .string s, .bool false, .slice A1 1 c1, .slice none 0 0, .slice A n cc, .slice none 0 0], .int .i64 (-1)]) (results_c2 rfl _ _ w.heap.size 30 _ (0, 0) _ rfl hbb Tryz.underlying30 rfl inf30 _ rfl) rfl ⟨_, _, _, _, _, _, _, _, _, _, _, _, rfl, HFF.out, ?_, fun h => ?_⟩
                    · exact .inl rfl
                    · have h9 := (HY5.out h).2; omega
                  · have hq90 : (0 : Int) ≤ (q9 : Int) := by omega
                    have c6 : w7.cell? ⟨y, 6, none⟩ = some (.slice none 0 0) := HX7.out.cell 6
                    go_wp2_with fail
                    go_loopg [5] (rs.length + 2) (fun gk a wr => ∃ (A4 : Option Addr) (n4 c4 : Nat) (xs : List Value) (E : Int), a = .int .i64 E ∧ (∀ q : Nat, E = (q : Int) → rs.length + 1 ≤ q + gk) ∧ wr.ownsRow w.heap.size 9 1 (.slice A4 n4 c4) n4 xs ∧ Blk wr y 30 #[.string ⟨#[82, 83, 84, 82, 69, 65, 77]⟩, .string s, .bool false, .slice A1 1 c1, .slice none 0 0, .slice A n cc, .slice A4 n4 c4] ∧ Blk wr w.heap.size 30 #[.string ⟨#[]⟩, .string ⟨#[]⟩, .bool false, .slice none 0 0, .slice none 0 0, .slice none 0 0, .slice none 0 0] ∧ Fr (fun j => w.heap.size ≤ j) w wr ∧ ((n4 = 0 ∧ E = (q9 : Int)) ∨ (1 ≤ n4 ∧ (E = -1 ∨ ∃ q : Nat, E = (q : Int) ∧ n4 ≤ q ∧ q ≤ rs.length ∧ 0 < q ∧ letterOf (peekOf rs (q - 1)) = true))))
                    case atStart => exact ⟨none, 0, 0, [], (q9 : Int), rfl, fun q h => by omega, World.ownsRow_nil _ _ _ _, HX7.out, HR7.out, HF7.out, .inl ⟨rfl, rfl⟩⟩
                    case round =>
                     clear HX7 HR7 HF7 HL7 c6
                     obtain ⟨A4, n4, c4, xs, E, rfl, hms, ho, hx, hr, hf, hc⟩ := hrel
                     have HX := Lib.hid hx
                     have HR := Lib.hid hr
                     have HF := Lib.hid hf
                     have HO := Lib.hid ho
                     have HL := Lib.hid (HLS.out.up hf)
                     have HMS := Lib.hid hms
                     have c6 : wr.cell? ⟨y, 6, none⟩ = some (.slice A4 n4 c4) := hx.cell 6
                     clear hx hr hf ho hms
                     rcases hc with ⟨rfl, rfl⟩ | ⟨hn4, hE⟩
                     · have hgk := HMS.out q9 rfl
                       go_wp2_with fail
                       refine (HVL.out q9 (q9 : Int) wr (.inr rfl) (by omega) HL.out).mono ?_
                       rintro e w5 ⟨s5, E5, rfl, hE5, hf5⟩
                       have hf6 := hf5.alloc (.cells #[.string s5] 9)
                       have HX6 := Lib.hid (HX.out.fr hf6 (fun h => h))
                       have HR6 := Lib.hid (HR.out.fr hf6 (fun h => h))
                       have HF6 := Lib.hid (HF.out.andF hf6)
                       have HO8 := Lib.hid (ownsRow_fr HO.out hf6 (fun _ _ h => h))
                       have HL8 := Lib.hid (Blk.new w5 9 #[.string s5])
                       have c5 : w5.cell? ⟨y, 6, none⟩ = some (.slice A4 0 c4) := (HX.out.fr hf5 (fun h => h)).cell 6
                       have hs6 := HF6.out.size
                       clear hf5 hf6 c6
                       go_wp2_with (at_builtin; refine wpList_append_H rfl _ _ 28 rfl w.heap.size 9 (.string ⟨#[]⟩) 1 16 Tryz.underlying28 infZ9 rfl (by decide) (.slice A4 0 c4) 0 xs rfl HO8.out w5.heap.size #[.string s5] rfl HL8.out (cells1 _ rfl) (by omega) (by decide) (by omega) ?_)
                       refine Lib.hid ?_
                       rintro g1 cap1 w8 ho8 hgrow hor
                       have hgr := Fr.of_grown hgrow
                       have HX8 := Lib.hid (HX6.out.fr hgr (own_blk_ne HO8.out HX6.out (by decide)))
                       have HR8 := Lib.hid (HR6.out.fr hgr (own_blk_ne HO8.out HR6.out (by decide)))
                       have HF8 := Lib.hid (HF6.out.trans hgr (fun j hj h => own_ge HO8.out h))
                       have HO9 := Lib.hid ho8
                       clear hgr hgrow hor ho8 c5
                       go_wp2_with ((with_reducible change wpList _ _ _ (Oper.mk _ (.store 28 _ _) _ _ _ _ :: _) _ _); refine wpList_store_cell rfl 28 _ _ rfl y 6 (.slice (some ⟨g1, 0, none⟩) 1 cap1) rfl rfl rfl 30 #[.string ⟨#[82, 83, 84, 82, 69, 65, 77]⟩, .string s, .bool false, .slice A1 1 c1, .slice none 0 0, .slice A n cc, .slice A4 0 c4] HX8.out (by exact Nat.le_of_ble_eq_true rfl) (by kernel_rfl) rfl ?_)
                       refine Lib.hid ?_
                       rintro w9 hx9 hf9
                       have HX9 := Lib.hid (show Blk w9 y 30 #[.string ⟨#[82, 83, 84, 82, 69, 65, 77]⟩, .string s, .bool false, .slice A1 1 c1, .slice none 0 0, .slice A n cc, .slice (some ⟨g1, 0, none⟩) 1 cap1] from hx9)
                       have HR9 := Lib.hid (HR8.out.oth hf9 (by omega))
                       have HF9 := Lib.hid (HF8.out.andX hf9 (by omega))
                       have HO10 := Lib.hid (ownsRow_fr HO9.out hf9 (fun k hk e => own_blk_ne HO9.out HX8.out (by decide) (by rw [hk, e])))
                       clear hx9 hf9
                       go_wp2_with fail
                       go_roundg (rs.length - q9)
                       case measure => omega
                       case rel => exact ⟨_, 1, cap1, _, E5, rfl, fun q h => by rcases hE5 with h9 | ⟨q11, h9, h10, h11, h12⟩ <;> omega, HO10.out, HX9.out, HR9.out, HF9.out, .inr ⟨by omega, hE5.elim .inl (fun h => h.elim fun q h => .inr ⟨q, h.1, by omega, h.2.2.1, by omega, h.2.2.2⟩)⟩⟩
                     · have hb4 : ((n4 : Int) == 0) = false := by simp; omega
                       rcases hE with rfl | ⟨q, rfl, hq1, hq2, hq3, hq4⟩
                       · go_wp2_with (first | ((with_reducible change wpList _ _ _ (Oper.mk _ (.load 30 _) _ _ _ _ :: _) _ _); refine wpList_load_blk rfl 30 _ rfl _ rfl 30 #[.string ⟨#[82, 83, 84, 82, 69, 65, 77]⟩, .string s, .bool false, .slice A1 1 c1, .slice none 0 0, .slice A n cc, .slice A4 n4 c4] HX.out _ Tryz.underlying30 rfl inf30 ?_) | ((with_reducible change wpList _ _ _ (Oper.mk _ (.store 30 _ _) _ _ _ _ :: _) _ _); refine wpList_store_blkH rfl 30 _ _ rfl _ _ rfl rfl 30 _ HR.out (by rfl) (by exact inf30) (by exact (cellsQ7 _ _ _ _ _ _ _ _ _ _ _ _ _ _ _).one) ?_))
                         refine Lib.hid ?_
                         rintro wb hbb hfb
                         have HFF := Lib.hid ((HF.out.andX hfb (Nat.le_refl _)).shut (Nat.le_refl _))
                         go_wp2_with fail
                         refine bodyPost_ret (v := .tuple #[.agg #[.string ⟨#[82, 83, 84, 82, 69, 65, 77]⟩, .string s, .bool false, .slice A1 1 c1, .slice none 0 0, .slice A n cc, .slice A4 n4 c4], .int .i64 (-1)]) (results_c2 rfl _ _ w.heap.size 30 _ (0, 0) _ rfl hbb Tryz.underlying30 rfl inf30 _ rfl) rfl ⟨_, _, _, _, _, _, _, _, _, _, _, _, rfl, HFF.out, ?_, fun h => ?_⟩
                         · exact .inl rfl
                         · have h9 := (HY5.out h).2; omega
                       · have hq0 : (0 : Int) ≤ (q : Int) := by omega
                         have hgk := HMS.out q rfl
                         go_wp2_with fail
                         refine (HMB.out ⟨#[63]⟩ (q - 1) (q : Int) wr (by decide) (by decide) (.inr ⟨q, rfl, by omega, hq2⟩) HL.out).mono ?_
                         rintro e w2 ⟨E11, rfl, hE11, rfl⟩
                         rcases hE11 with rfl | ⟨q11, rfl, hq12, hq13⟩
                         · go_wp2_with (first | ((with_reducible change wpList _ _ _ (Oper.mk _ (.load 30 _) _ _ _ _ :: _) _ _); refine wpList_load_blk rfl 30 _ rfl _ rfl 30 #[.string ⟨#[82, 83, 84, 82, 69, 65, 77]⟩, .string s, .bool false, .slice A1 1 c1, .slice none 0 0, .slice A n cc, .slice A4 n4 c4] HX.out _ Tryz.underlying30 rfl inf30 ?_) | ((with_reducible change wpList _ _ _ (Oper.mk _ (.store 30 _ _) _ _ _ _ :: _) _ _); refine wpList_store_blkH rfl 30 _ _ rfl _ _ rfl rfl 30 _ HR.out (by rfl) (by exact inf30) (by exact (cellsQ7 _ _ _ _ _ _ _ _ _ _ _ _ _ _ _).one) ?_))
                           refine Lib.hid ?_
                           rintro wb hbb hfb
                           have HFF := Lib.hid ((HF.out.andX hfb (Nat.le_refl _)).shut (Nat.le_refl _))
                           go_wp2_with fail
                           refine bodyPost_ret (v := .tuple #[.agg #[.string ⟨#[82, 83, 84, 82, 69, 65, 77]⟩, .string s, .bool false, .slice A1 1 c1, .slice none 0 0, .slice A n cc, .slice A4 n4 c4], .int .i64 q]) (results_c2 rfl _ _ w.heap.size 30 _ (0, 0) _ rfl hbb Tryz.underlying30 rfl inf30 _ rfl) rfl ⟨_, _, _, _, _, _, _, _, _, _, _, _, rfl, HFF.out, ?_, fun h => ?_⟩
                           · exact .inr ⟨q, rfl, hq2, .inr ⟨hq3, hq4⟩⟩
                           · have h9 := (HY5.out h).2; omega
                         · have hq110 : (0 : Int) ≤ (q11 : Int) := by omega
                           go_wp2_with fail
                           refine (HVL.out q (q : Int) wr (.inr rfl) (by omega) HL.out).mono ?_
                           rintro e w5 ⟨s5, E5, rfl, hE5, hf5⟩
                           have hf6 := hf5.alloc (.cells #[.string s5] 9)
                           have HX6 := Lib.hid (HX.out.fr hf6 (fun h => h))
                           have HR6 := Lib.hid (HR.out.fr hf6 (fun h => h))
                           have HF6 := Lib.hid (HF.out.andF hf6)
                           have HO8 := Lib.hid (ownsRow_fr HO.out hf6 (fun _ _ h => h))
                           have HL8 := Lib.hid (Blk.new w5 9 #[.string s5])
                           have c5 : w5.cell? ⟨y, 6, none⟩ = some (.slice A4 n4 c4) := (HX.out.fr hf5 (fun h => h)).cell 6
                           have hs6 := HF6.out.size
                           clear hf5 hf6 c6
                           go_wp2_with (at_builtin; refine wpList_append_H rfl _ _ 28 rfl w.heap.size 9 (.string ⟨#[]⟩) 1 16 Tryz.underlying28 infZ9 rfl (by decide) (.slice A4 n4 c4) n4 xs rfl HO8.out w5.heap.size #[.string s5] rfl HL8.out (cells1 _ rfl) (by omega) (by decide) (by omega) ?_)
                           refine Lib.hid ?_
                           rintro g1 cap1 w8 ho8 hgrow hor
                           have hgr := Fr.of_grown hgrow
                           have HX8 := Lib.hid (HX6.out.fr hgr (own_blk_ne HO8.out HX6.out (by decide)))
                           have HR8 := Lib.hid (HR6.out.fr hgr (own_blk_ne HO8.out HR6.out (by decide)))
                           have HF8 := Lib.hid (HF6.out.trans hgr (fun j hj h => own_ge HO8.out h))
                           have HO9 := Lib.hid ho8
                           clear hgr hgrow hor ho8 c5
                           go_wp2_with ((with_reducible change wpList _ _ _ (Oper.mk _ (.store 28 _ _) _ _ _ _ :: _) _ _); refine wpList_store_cell rfl 28 _ _ rfl y 6 (.slice (some ⟨g1, 0, none⟩) (n4 + 1) cap1) rfl rfl rfl 30 #[.string ⟨#[82, 83, 84, 82, 69, 65, 77]⟩, .string s, .bool false, .slice A1 1 c1, .slice none 0 0, .slice A n cc, .slice A4 n4 c4] HX8.out (by exact Nat.le_of_ble_eq_true rfl) (by kernel_rfl) rfl ?_)
                           refine Lib.hid ?_
                           rintro w9 hx9 hf9
                           have HX9 := Lib.hid (show Blk w9 y 30 #[.string ⟨#[82, 83, 84, 82, 69, 65, 77]⟩, .string s, .bool false, .slice A1 1 c1, .slice none 0 0, .slice A n cc, .slice (some ⟨g1, 0, none⟩) (n4 + 1) cap1] from hx9)
                           have HR9 := Lib.hid (HR8.out.oth hf9 (by omega))
                           have HF9 := Lib.hid (HF8.out.andX hf9 (by omega))
                           have HO10 := Lib.hid (ownsRow_fr HO9.out hf9 (fun k hk e => own_blk_ne HO9.out HX8.out (by decide) (by rw [hk, e])))
                           clear hx9 hf9
                           go_wp2_with fail
                           go_roundg (rs.length - q)
                           case measure => omega
                           case rel => exact ⟨_, n4 + 1, cap1, _, E5, rfl, fun q h => by rcases hE5 with h9 | ⟨q11, h9, h10, h11, h12⟩ <;> omega, HO10.out, HX9.out, HR9.out, HF9.out, .inr ⟨by omega, hE5.elim .inl (fun h => h.elim fun q h => .inr ⟨q, h.1, by omega, h.2.2.1, by omega, h.2.2.2⟩)⟩⟩

theorem firstN_len (n b0 b1 b2 b3 : Nat) (h : (firstN n b0 b1 b2 b3).2 ≠ 0) : (firstN n b0 b1 b2 b3).2 = rBytesLen (firstN n b0 b1 b2 b3).1 := by
 unfold firstN at h ⊢
 repeat' split
 all_goals (repeat' split at h)
 all_goals first | exact absurd rfl h | skip
 all_goals (dsimp only)
 all_goals first | omega | (rename_i h1 h2; exact h2.2.symm) | (rename_i h2; exact h2.2.symm) | (unfold rBytesLen; rw [if_pos (by omega)])
theorem wt_len {x : Int} (h : rSign x = true) : wt [x] = rBytesLen x := by
 have hs := (rSign_iff x).1 h
 rw [wt_one]
 unfold Lib.encodeRune rBytesLen
 rw [List.length_map]
 by_cases c0 : x < 128
 · rw [Lib.encodeRuneZ_one (by omega) (by omega), if_pos c0]; rfl
 · by_cases c1 : x < 2048
   · rw [Lib.encodeRuneZ_two (by omega) (by omega), if_neg c0, if_pos c1]; rfl
   · by_cases c2 : x < 65536
     · rw [Lib.encodeRuneZ_three (by omega), if_neg c0, if_neg c1, if_pos c2]; rfl
     · rw [Lib.encodeRuneZ_four (by omega) (by omega), if_neg c0, if_neg c1, if_neg c2]; rfl
theorem signs_wt (s : ByteArray) : ∀ (m i : Nat) (l : List Int), s.size - i ≤ m → (rSignsFrom s i l).2 = true → wt (rSignsFrom s i l).1 ≤ wt l + (s.size - i) + 3
 | 0, i, l, hm, h => by
  rw [rSignsFrom_end s i l (by omega)]
  show wt l ≤ _
  omega
 | m + 1, i, l, hm, h => by
  by_cases hi : i < s.size
  · rw [rSignsFrom_step s i l hi] at h ⊢
    by_cases h0 : (rFirst (s.extract i s.size)).2 = 0
    · rw [if_pos h0] at h
      cases h
    · rw [if_neg h0] at h ⊢
      obtain ⟨d1, d2, d3, d4, d5⟩ := first_decode s i hi h0
      have hw := width_pos s i hi
      have hlen : (rFirst (s.extract i s.size)).2 = wt [(rFirst (s.extract i s.size)).1] := by
       rw [wt_len d4]
       rw [rFirst_N, ext_size, byteAt_ext, byteAt_ext, byteAt_ext, byteAt_ext] at h0 ⊢
       exact firstN_len _ _ _ _ _ h0
      have h4 := (wt_pos (rFirst (s.extract i s.size)).1).2
      have ha := wt_append l [(rFirst (s.extract i s.size)).1]
      by_cases ho : i + (rFirst (s.extract i s.size)).2 ≤ s.size
      · have ih := signs_wt s m _ _ (by omega) h
        omega
      · rw [rSignsFrom_end _ _ _ (by omega)]
        show wt (l ++ [(rFirst (s.extract i s.size)).1]) ≤ _
        omega
  · rw [rSignsFrom_end s i l hi]
    show wt l ≤ _
    omega
theorem runes_at (s : ByteArray) (m : Nat) : ∀ (i q : Nat), s.size - i ≤ m → textFrom s i = true → i ≤ q → q < s.size → byteAt s q < 128 → ∃ l, runesFrom s i = l ++ runesFrom s q := by
 induction m with
 | zero => exact fun i q hm h h1 h2 h3 => absurd hm (by omega)
 | succ m ih =>
  intro i q hm h h1 h2 h3
  have hi : i < s.size := by omega
  rw [textFrom_step s i hi, Bool.and_eq_true] at h
  obtain ⟨d1, d2⟩ := decode_in s i (ok_decode s i h.1)
  have hw := width_pos s i hi
  by_cases e : q = i
  · subst e
    exact ⟨[], rfl⟩
  · by_cases e2 : q < i + (Utf8.decode s i).2
    · have := d2 q (by omega) e2
      omega
    · obtain ⟨l, hl⟩ := ih _ q (by omega) h.2 (by omega) h2 h3
      exact ⟨((Utf8.decode s i).1 : Int) :: l, by rw [runes_step s i hi, hl]; rfl⟩
theorem runes_asc (s : ByteArray) : ∀ (l : List Int) (p : Nat), p + l.length ≤ s.size → (∀ k, k < l.length → byteAt s (p + k) = l.getD k 0 ∧ l.getD k 0 < 128) → runesFrom s p = l ++ runesFrom s (p + l.length)
 | [], p, h, hk => rfl
 | x :: l, p, h, hk => by
  have h0 := hk 0 (by simp)
  simp only [Nat.add_zero, List.getD_cons_zero] at h0
  have hp : p < s.size := by simp at h; omega
  have hd := decode_b s p hp (by omega)
  rw [runes_step s p hp, hd.1, hd.2, h0.1, runes_asc s l (p + 1) (by simp at h; omega) (fun k hk2 => by
   have := hk (k + 1) (by simp; omega)
   rw [List.getD_cons_succ, show p + (k + 1) = p + 1 + k by omega] at this
   exact this)]
  rw [show p + (x :: l).length = p + 1 + l.length by simp; omega]
  rfl
theorem text_on (s : ByteArray) : ∀ (l : List Int) (p : Nat), textFrom s p = true → p + l.length ≤ s.size → (∀ k, k < l.length → byteAt s (p + k) = l.getD k 0 ∧ l.getD k 0 < 128) → textFrom s (p + l.length) = true
 | [], p, ht, h, hk => ht
 | x :: l, p, ht, h, hk => by
  have h0 := hk 0 (by simp)
  simp only [Nat.add_zero, List.getD_cons_zero] at h0
  have hp : p < s.size := by simp at h; omega
  have hd := decode_b s p hp (by omega)
  rw [textFrom_step s p hp, Bool.and_eq_true, hd.2] at ht
  rw [show p + (x :: l).length = p + 1 + l.length by simp; omega]
  exact text_on s l (p + 1) ht.2 (by simp at h; omega) (fun k hk2 => by
   have := hk (k + 1) (by simp; omega)
   rw [List.getD_cons_succ, show p + (k + 1) = p + 1 + k by omega] at this
   exact this)
def tlL : List Int := [32, 63, 121, 32, 46, 32, 125]
def bytesL (l : List Int) : List UInt8 := l.map (fun x => x.toNat.toUInt8)
theorem byteAt_app (a b c : List UInt8) (k : Nat) (h : k < b.length) : byteAt ⟨(a ++ b ++ c).toArray⟩ (a.length + k) = ((b.getD k 0).toNat : Int) := by
 unfold byteAt
 show (((a ++ b ++ c).getD (a.length + k) 0).toNat : Int) = _
 rw [List.append_assoc, List.getD_eq_getElem?_getD, List.getElem?_append_right (by omega), List.getElem?_append_left (by omega), Nat.add_sub_cancel_left, List.getD_eq_getElem?_getD]
/-- Our text: what stands in its midst may be anything. -/
structure Ours (s : ByteArray) (t : List UInt8) : Prop where
 is : s = ⟨(bytesL hdL ++ t ++ bytesL tlL).toArray⟩
theorem hd_byte : ∀ k, k < 47 → (((bytesL hdL).getD k 0).toNat : Int) = hdL.getD k 0 ∧ hdL.getD k 0 < 128 := by decide +kernel
theorem tl_byte : ∀ k, k < 7 → (((bytesL tlL).getD k 0).toNat : Int) = tlL.getD k 0 ∧ tlL.getD k 0 < 128 := by decide +kernel
theorem Ours.size {s : ByteArray} {t : List UInt8} (h : Ours s t) : s.size = 54 + t.length := by
 rw [h.is]
 show (bytesL hdL ++ t ++ bytesL tlL).length = _
 rw [List.length_append, List.length_append, show (bytesL hdL).length = 47 from rfl, show (bytesL tlL).length = 7 from rfl]
 omega
theorem Ours.runes {s : ByteArray} {t : List UInt8} (h : Ours s t) (ht : textFrom s 0 = true) : ∃ l, runesFrom s 0 = hdL ++ l ++ tlL := by
 have hz := h.size
 have hh : ∀ k, k < hdL.length → byteAt s (0 + k) = hdL.getD k 0 ∧ hdL.getD k 0 < 128 := fun k hk => by
  have hk' : k < 47 := hk
  have := byteAt_app [] (bytesL hdL) (t ++ bytesL tlL) k hk
  rw [List.nil_append, ← List.append_assoc] at this
  rw [h.is]
  refine ⟨this.trans (hd_byte k hk').1, (hd_byte k hk').2⟩
 have htl : ∀ k, k < tlL.length → byteAt s (s.size - 7 + k) = tlL.getD k 0 ∧ tlL.getD k 0 < 128 := fun k hk => by
  have hk' : k < 7 := hk
  have := byteAt_app (bytesL hdL ++ t) (bytesL tlL) [] k hk
  rw [List.append_nil] at this
  rw [show s.size - 7 + k = (bytesL hdL ++ t).length + k by rw [hz, List.length_append, show (bytesL hdL).length = 47 from rfl]; omega, h.is]
  exact ⟨this.trans (tl_byte k hk').1, (tl_byte k hk').2⟩
 have h1 := runes_asc s hdL 0 (by rw [show hdL.length = 47 from rfl]; omega) hh
 have h2 := runes_asc s tlL (s.size - 7) (by rw [show tlL.length = 7 from rfl]; omega) htl
 rw [show s.size - 7 + tlL.length = s.size by rw [show tlL.length = 7 from rfl]; omega, runes_end s s.size (by omega), List.append_nil] at h2
 rw [show (0 : Nat) + hdL.length = 47 from rfl] at h1
 -- the text behind the head is one, too
 have h7 := (htl 0 (by decide)).1
 rw [Nat.add_zero] at h7
 have ht47 : textFrom s 47 = true := text_on s hdL 0 ht (by rw [show hdL.length = 47 from rfl]; omega) hh
 obtain ⟨l, hl⟩ := runes_at s s.size 47 (s.size - 7) (by omega) ht47 (by omega) (by omega) (by rw [h7]; decide)
 exact ⟨l, by rw [h1, hl, h2, List.append_assoc]⟩
theorem tail_peek {rs l : List Int} (h : rs = l ++ tlL) (k : Nat) (hk : k < 7) : peekOf rs (rs.length - 7 + k) = tlL.getD k 0 := by
 have hn : rs.length = l.length + 7 := by rw [h, List.length_append]; rfl
 unfold peekOf
 rw [if_pos (by omega), show rs.length - 7 + k = l.length + k by omega, h, List.getD_eq_getElem?_getD, List.getElem?_append_right (by omega), Nat.add_sub_cancel_left, List.getD_eq_getElem?_getD]
theorem Ours.facts {s : ByteArray} {t : List UInt8} (h : Ours s t) (hok : (rSigns s).2 = true) : HeadIs (rSigns s).1 ∧ TailIs (rSigns s).1 ∧ (∀ r, r ∈ (rSigns s).1 → signR r = true) ∧ wt (rSigns s).1 ≤ s.size + 3 ∧ Text s (rSigns s).1 := by
 obtain ⟨h1, h2, h3, _⟩ := signs_runes s s.size 0 [] (by omega) hok
 have hw := signs_wt s s.size 0 [] (by omega) hok
 have hrs : (rSigns s).1 = runesFrom s 0 := h1
 obtain ⟨l, hl⟩ := h.runes h2
 have hsg : ∀ r, r ∈ (rSigns s).1 → signR r = true := fun r hr => by
  rw [hrs] at hr
  exact (signR_iff r).2 ((rSign_iff r).1 (h3 r hr))
 have hw2 : wt (rSigns s).1 ≤ s.size + 3 := by
  have : wt ([] : List Int) = 0 := rfl
  have h4 : (rSigns s).1 = (rSignsFrom s 0 []).1 := rfl
  rw [h4]
  omega
 have hlen : (rSigns s).1.length = 54 + l.length := by
  rw [hrs, hl, List.length_append, List.length_append, show hdL.length = 47 from rfl, show tlL.length = 7 from rfl]
  omega
 have htl := fun k hk => tail_peek (hrs.trans hl) k hk
 have hz := hlen
 refine ⟨⟨by omega, fun i hi => ?_⟩, ⟨by omega, ?_, ?_, ?_, ?_, ?_, ?_, ?_⟩, hsg, hw2, ⟨hrs.symm, h2, hsg, by omega⟩⟩
 · unfold peekOf
   rw [if_pos (by omega), if_pos (by rw [show hdL.length = 47 from rfl]; exact hi), hrs, hl, List.append_assoc, List.getD_eq_getElem?_getD, List.getElem?_append_left (by rw [show hdL.length = 47 from rfl]; exact hi), List.getD_eq_getElem?_getD]
 · rw [show (rSigns s).1.length - 1 = (rSigns s).1.length - 7 + 6 by omega, htl 6 (by decide)]; rfl
 · rw [show (rSigns s).1.length - 2 = (rSigns s).1.length - 7 + 5 by omega, htl 5 (by decide)]; rfl
 · rw [show (rSigns s).1.length - 3 = (rSigns s).1.length - 7 + 4 by omega, htl 4 (by decide)]; rfl
 · rw [show (rSigns s).1.length - 4 = (rSigns s).1.length - 7 + 3 by omega, htl 3 (by decide)]; rfl
 · rw [show (rSigns s).1.length - 5 = (rSigns s).1.length - 7 + 2 by omega, htl 2 (by decide)]; rfl
 · rw [show (rSigns s).1.length - 6 = (rSigns s).1.length - 7 + 1 by omega, htl 1 (by decide)]; rfl
 · rw [show (rSigns s).1.length - 7 = (rSigns s).1.length - 7 + 0 by omega, htl 0 (by decide)]; rfl

end Go.Proofs.YtagchljgmjmlcaaGreatDoor
