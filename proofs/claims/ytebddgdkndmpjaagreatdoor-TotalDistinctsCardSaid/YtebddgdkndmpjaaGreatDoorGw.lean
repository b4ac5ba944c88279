/- A row of the document with one more var: walked. -/
import Derived.Test.YtebddgdkndmpjaaGreatDoorGv
import Derived.Test.YtebddgdkndmpjaaGreatDoorGo
import Derived.Deep.CutBlock
import Derived.Deep.RegionLawGrows
import Derived.Deep.Cut
import Derived.Deep.CutRange
import Derived.WalkKit
import Derived.WalkLawsBesides
import Derived.WalkSpells
import Derived.Deep.QuietTactic
import Derived.BigRegion
import Derived.BigQuiet
import Derived.Lib.Hide
import Derived.Outline
import Derived.Deep.AppendLies
import Derived.Deep.RegionLaw
import Derived.Deep.RegionWith
import Derived.Deep.RegionHeld3
import Derived.Deep.LoopGhost
import Derived.Deep.DeepFit
import Derived.Laws.ResultCell
import Derived.Laws.RangeAny
import Derived.Deep.MidRow
import Derived.StillTailTactics
import Derived.OpenShut
namespace Go.Proofs.YtebddgdkndmpjaaGreatDoor
set_option linter.unusedVariables false
open Go.RowKit Go


/-- A var of the document's row, with its term. -/
structure BD where
  var : ByteArray
  t : DT
def bcells : List BD → List Value
  | [] => []
  | b :: bs => .string b.var :: .int .i64 b.t.kind :: .string b.t.text :: .string b.t.type :: .string b.t.lang :: bcells bs
theorem bcells_length : ∀ bs : List BD, (bcells bs).length = bs.length * 5
  | [] => rfl
  | b :: bs => by simp only [bcells, List.length_cons, bcells_length bs]; omega
theorem bcells_append : ∀ bs cs : List BD, bcells (bs ++ cs) = bcells bs ++ bcells cs
  | [], cs => rfl
  | b :: bs, cs => by simp only [bcells, List.cons_append, bcells_append bs cs]
theorem bcells_var : ∀ (bs : List BD) (k : Nat) (h : k < bs.length), (bcells bs)[k * 5]? = some (.string (bs.getD k ⟨⟨#[]⟩, ⟨0, ⟨#[]⟩, ⟨#[]⟩, ⟨#[]⟩⟩⟩).var)
  | [], k, h => absurd h (Nat.not_lt_zero _)
  | b :: bs, 0, h => rfl
  | b :: bs, k + 1, h => by
    have h2 := bcells_var bs k (by simpa using h)
    rw [show (k + 1) * 5 = k * 5 + 1 + 1 + 1 + 1 + 1 by omega]
    exact h2
theorem bcells_one : ∀ bs : List BD, ∀ u ∈ bcells bs, u.oneCell' = true
  | [], u, h => by cases h
  | b :: bs, u, h => by
    simp only [bcells, List.mem_cons] at h
    rcases h with rfl | rfl | rfl | rfl | rfl | h
    · rfl
    · rfl
    · rfl
    · rfl
    · rfl
    · exact bcells_one bs u h
theorem Blk.cells4 {w : World} {g : Nat} {t : TypeId} {v0 v1 v2 v3 : Value} (h : Blk w g t #[v0, v1, v2, v3]) :
    w.cell? ⟨g, 0, none⟩ = some v0 ∧ w.cell? ⟨g, 1, none⟩ = some v1 ∧ w.cell? ⟨g, 2, none⟩ = some v2 ∧ w.cell? ⟨g, 3, none⟩ = some v3 :=
  ⟨h.cell 0, h.cell 1, h.cell 2, h.cell 3⟩
theorem info123 : (Tryz.prog.info? 202).map (fun i => (i.zero, i.size, i.bytes)) = some (some (.agg #[.string ⟨#[]⟩, .int .i64 0, .string ⟨#[]⟩, .string ⟨#[]⟩, .string ⟨#[]⟩]), 5, 72) := by kernel_rfl

theorem wp_append_rows {P : Program} {w : World} {o : Oper} {a : Act} {K : Act → World → Prop} {Q : Exit → Act → World → Prop} (s x : Operand) (t : TypeId)
    (ho : o.op = .call { callee := .builtin .append, args := #[s, x], argTypes := #[t, t] })
    (base : Nat) (e : TypeId) (i : TypeInfo) (z : Value) (size bytes : Nat) (ht : P.underlying t = some (.slice e)) (hi : P.info? e = some i) (hz : i.zero = some z)
    (hsize : i.size = size) (hby : i.bytes = bytes) (hzs : z.cells.size = size) (hsz : 0 < size)
    (v : Value) (n : Nat) (xs : List Value) (hs : a.eval s = v) (hown : w.ownsRow base e size v n xs)
    (bs : Nat) (y : Value) (m : Nat) (news : List Value) (hx : a.eval x = y) (hy : w.ownsRow bs e size y m news) (h1 : ∀ u ∈ news, u.oneCell' = true)
    (h63 : n + m ≤ maxLen) (hbytes : (n + m) * bytes ≤ 140737488355328) (hbase : base ≤ w.heap.size)
    (h : ∀ v' w', w'.ownsRow base e size v' (n + m) (xs ++ news) → w.grownBy w' v.ownBlock → (v'.ownBlock = v.ownBlock ∨ v'.ownBlock = some w.heap.size) → K (a.put o.dst v') w') : o.wp P a w K Q := by
  rcases hy.2 with ⟨hv0, hm0⟩ | ⟨g, cap, cur, hv0, hb, hg, hmc, hcm, hcs, htk⟩
  · subst hm0
    have hn : news = [] := List.eq_nil_of_length_eq_zero (by simpa using hy.1)
    subst hn
    rw [hv0] at hx
    have hrun := run_append_owned_none (P := P) (w := w) base t o.type e i size ht hi v n xs hown
    unfold Oper.wp
    simp [execOp, ho, resolve, invoke, builtin, hs, hx, hrun, Result.andThen]
    exact h v w (by simpa using hown) ⟨rfl, rfl, rfl, Nat.le_refl _, fun _ _ _ => rfl⟩ (.inl rfl)
  · rw [hv0] at hx
    obtain ⟨v', w', hr, h2, h3, h4, h5⟩ := run_append_own_at (P := P) w base t o.type e i z size bytes ht hi hz hsize hby hzs hsz v n xs hown ⟨g, 0, none⟩ m cap news hy.1 (hy.cells (by rw [hv0]; rfl)) h1 h63 hbytes hbase
    unfold Oper.wp execOp
    simp only [ho, resolve, invoke, builtin, Sem.run_bind, Sem.run_pure, Result.andThen_ok, List.map_toArray, List.map_cons, List.map_nil, hs, hx, hr]
    exact h v' w' h2 h3 h5

theorem step_append_rows {P : Program} {w : World} {ops : Array Oper} {o : Oper} {a : Act} {K : Act → World → Prop} {Q : Exit → Act → World → Prop} {E : Prop} (hgd : o.guard = none) (s x : Operand) (t : TypeId)
    (ho : o.op = .call { callee := .builtin .append, args := #[s, x], argTypes := #[t, t] })
    (base : Nat) (e : TypeId) (i : TypeInfo) (z : Value) (size bytes : Nat) (ht : P.underlying t = some (.slice e)) (hi : P.info? e = some i) (hz : i.zero = some z)
    (hsize : i.size = size) (hby : i.bytes = bytes) (hzs : z.cells.size = size) (hsz : 0 < size)
    (v : Value) (n : Nat) (xs : List Value) (hs : a.eval s = v) (hown : w.ownsRow base e size v n xs)
    (bs : Nat) (y : Value) (m : Nat) (news : List Value) (hx : a.eval x = y) (hy : w.ownsRow bs e size y m news) (h1 : ∀ u ∈ news, u.oneCell' = true)
    (h63 : n + m ≤ maxLen) (hbytes : (n + m) * bytes ≤ 140737488355328) (hbase : base ≤ w.heap.size)
    (h : ∀ v' w', w'.ownsRow base e size v' (n + m) (xs ++ news) → w.grownBy w' v.ownBlock → (v'.ownBlock = v.ownBlock ∨ v'.ownBlock = some w.heap.size) → K (a.put o.dst v') w') :
    if Region.wanted o (yielded ops a.tmps) = true then Oper.wp P o a w K Q else E := by
  have hw : Region.wanted o (yielded ops a.tmps) = true := by simp [Region.wanted, hgd]
  rw [if_pos hw]
  exact wp_append_rows s x t ho base e i z size bytes ht hi hz hsize hby hzs hsz v n xs hs hown bs y m news hx hy h1 h63 hbytes hbase h

theorem addr_add (g off i : Nat) : (⟨g, off, none⟩ : Addr).add i = ⟨g, off + i, none⟩ := by unfold Addr.add; split <;> simp_all
set_option maxRecDepth 100000 in
/-- The row from its end on, as it is taken out of a slice. -/
theorem slice_from {g n c : Nat} (hc : n ≤ c) : ∃ off : Nat, (∀ wx : World, (Instr.slice 126 (.slice (some ⟨g, 0, none⟩) n c) (some (.int .i64 (n : Int))) none none).run Tryz.prog wx = .ok (.slice (some ⟨g, off, none⟩) 0 (c - n)) wx) := by
  refine ⟨if c = n then 0 else n * 5, fun wx => ?_⟩
  rw [run_slice_l wx 126 _ n c Tryz.underlying126 .i64 n (by omega) (by omega)]
  have hs : (sizeOf (Tryz.prog.elem 126)).run Tryz.prog wx = .ok 5 wx := by kernel_rfl
  rw [hs]
  by_cases h : c = n
  · simp [Result.andThen, sliced, h]
  · simp [Result.andThen, sliced, h, addr_add]
set_option maxRecDepth 100000 in
theorem slice_upto {g n c : Nat} (hc : n ≤ c) (wx : World) : (Instr.slice 126 (.slice (some ⟨g, 0, none⟩) n c) none (some (.int .i64 (n : Int))) none).run Tryz.prog wx = .ok (.slice (some ⟨g, 0, none⟩) n c) wx := by
  rw [run_slice_h wx 126 _ n c Tryz.underlying126 .i64 n (by omega) (by omega)]
  have hs : (sizeOf (Tryz.prog.elem 126)).run Tryz.prog wx = .ok 5 wx := by kernel_rfl
  rw [hs]
  simp [Result.andThen, sliced, addr_add]

theorem cells_one (v : ByteArray) (tk : Int) (tt ty tl : ByteArray) : ∀ u ∈ [Value.string v, .int .i64 tk, .string tt, .string ty, .string tl], u.oneCell' = true := by
  intro u h
  simp only [List.mem_cons, List.not_mem_nil, or_false] at h
  rcases h with rfl | rfl | rfl | rfl | rfl <;> rfl
theorem lit_at (wf : World) (o : Obj) : ((wf.alloc o).alloc (.cells #[] 202)).ownsRow wf.heap.size 202 5 (.slice (some ⟨wf.heap.size + 1, 0, none⟩) 0 0) 0 [] := by
  have h := World.ownsRow_lit (base := wf.heap.size) (size := 5) (e := 202) (wf.alloc o) #[] 0 (by simp) (by decide) rfl
  have e : (wf.alloc o).heap.size = wf.heap.size + 1 := by simp
  rw [e] at h
  exact h
theorem ob_no {H X n c i : Nat} (hX : H ≤ X) (e : (Value.slice (some ⟨X, 0, none⟩) n c).ownBlock = some i) (hi : i < H) : False := by
  have e2 : X = i := Option.some.inj e
  omega
theorem lit_fr {w w' : World} {g : Nat} {cs : Array Value} (h : Blk w g 202 cs) (hs : cs.size = 5) (S : Nat → Prop) (hf : Fr S w w') (hg : ¬ S g) : w'.ownsRow 0 202 5 (.slice (some ⟨g, 0, none⟩) 1 1) 1 cs.toList :=
  ⟨by simp [hs], .inr ⟨g, 1, cs, rfl, Nat.zero_le _, h.fr hf hg, Nat.le_refl _, by decide, by rw [hs], List.take_of_length_le (by rw [Array.length_toList, hs]; exact Nat.le_refl _)⟩⟩
theorem put37a {v : ByteArray} {tk : Int} {tt ty tl : ByteArray} (wf : World) (o : Obj) (w2 : World) {n c : Nat} (hg : ((wf.alloc o).alloc (.cells #[.string v, .int .i64 tk, .string tt, .string ty, .string tl] 202)).drew.grownBy w2 (Value.slice (some ⟨wf.heap.size, 0, none⟩) n c).ownBlock) :
    w2.ownsRow 0 202 5 (.slice (some ⟨wf.heap.size + 1, 0, none⟩) 1 1) 1 [.string v, .int .i64 tk, .string tt, .string ty, .string tl] := by
  have h := Blk.new (wf.alloc o) 202 #[.string v, .int .i64 tk, .string tt, .string ty, .string tl]
  have e : (wf.alloc o).heap.size = wf.heap.size + 1 := by simp
  rw [e] at h
  exact lit_fr (w := ((wf.alloc o).alloc (.cells #[.string v, .int .i64 tk, .string tt, .string ty, .string tl] 202)).drew) h rfl _ (Fr.of_grown hg) (fun e => by simp [Value.ownBlock] at e)
theorem put37b {v : ByteArray} {tk : Int} {tt ty tl : ByteArray} (wf : World) (o : Obj) (w2 : World) {n c : Nat} (hg : ((wf.alloc (.cells #[.string v, .int .i64 tk, .string tt, .string ty, .string tl] 202)).alloc o).drew.grownBy w2 (Value.slice (some ⟨wf.heap.size + 1, 0, none⟩) n c).ownBlock) :
    w2.ownsRow 0 202 5 (.slice (some ⟨wf.heap.size, 0, none⟩) 1 1) 1 [.string v, .int .i64 tk, .string tt, .string ty, .string tl] :=
  lit_fr (w := ((wf.alloc (.cells #[.string v, .int .i64 tk, .string tt, .string ty, .string tl] 202)).alloc o).drew) ((Blk.new wf 202 #[.string v, .int .i64 tk, .string tt, .string ty, .string tl]).alloc o) rfl _ (Fr.of_grown hg) (fun e => by simp [Value.ownBlock] at e)

set_option maxRecDepth 100000 in
set_option maxHeartbeats 4000000 in
theorem put23_any (g c B : Nat) (bs : List BD) (v : ByteArray) (t : DT) (w : World) (hB : B ≤ w.heap.size) (hn : bs.length ≤ 100)
    (hv : ∀ k, k < bs.length → Op.bytesLess (bs.getD k ⟨⟨#[]⟩, ⟨0, ⟨#[]⟩, ⟨#[]⟩, ⟨#[]⟩⟩⟩).var.toList v.toList = true)
    (hr : w.ownsRow B 202 5 (.slice (some ⟨g, 0, none⟩) bs.length c) bs.length (bcells bs)) :
    Calls Tryz.prog 55 #[.slice (some ⟨g, 0, none⟩) bs.length c, .string v, .agg t.cells] w fun e w' => ∃ A c', e = .returned (.slice A (bs.length + 1) c') ∧ w'.ownsRow w.heap.size 202 5 (.slice A (bs.length + 1) c') (bs.length + 1) (bcells (bs ++ [⟨v, t⟩])) ∧ Fr (fun _ => False) w w' := by
  obtain ⟨i123, hi123, hz1230, hz1231, hz1232⟩ := info_parts info123
  obtain ⟨tk, tt, ty, tl⟩ := t
  have HR := Lib.hid hr
  have HV := Lib.hid hv
  clear hr hv
  generalize hN : bs.length = n at *
  unfold DT.cells
  dsimp only
  have hb0 := Blk.new w 52 #[.int .i64 tk, .string tt, .string ty, .string tl]
  have HB0 := Lib.hid hb0
  clear hb0
  go_enter Tryz.func55, Tryz.ntmps55
  go_wp2_with fail
  go_loopw [7] (fun iv wr => ∃ k : Nat, iv = .int .i64 (k : Int) ∧ k ≤ n ∧ Blk wr w.heap.size 52 #[.int .i64 tk, .string tt, .string ty, .string tl] ∧ wr.ownsRow B 202 5 (.slice (some ⟨g, 0, none⟩) n c) n (bcells bs) ∧ Fr (fun _ => False) w wr) (fun iv _ => n - (intOf iv).toNat)
  case atStart => exact ⟨0, rfl, by omega, HB0.out, HR.out.alloc _, (Fr.refl _ _).alloc _⟩
  case round =>
    obtain ⟨k, rfl, hk, hbx, hrx, hfx⟩ := hrel
    have HBX := Lib.hid hbx
    have HRX := Lib.hid hrx
    have HFX := Lib.hid hfx
    have hcap := row_le hrx
    clear hbx hrx hfx
    by_cases hlt : k < n
    · have hlt' : (k : Int) < (n : Int) := by omega
      have hcell := World.ownsRow.cellAt HRX.out (k * 5) (by omega)
      rw [bcells_var bs k (by omega)] at hcell
      have hless := HV.out k hlt
      generalize (bs.getD k ⟨⟨#[]⟩, ⟨0, ⟨#[]⟩, ⟨#[]⟩, ⟨#[]⟩⟩⟩).var = x at *
      go_wp2_with fail
      go_roundw
      case rel => exact ⟨k + 1, by go_num, hlt, HBX.out, HRX.out, HFX.out⟩
      case measure => simp [intOf]; omega
    · have hlt' : ¬ (k : Int) < (n : Int) := by omega
      have hkn : k = n := by omega
      subst hkn
      have hcap' : (k : Int) ≤ (c : Int) := by omega
      obtain ⟨off, hsl⟩ := slice_from (g := g) hcap
      have hsu := slice_upto (g := g) hcap
      go_wp2_with (at_builtin; refine wpList_append_own_at _ rfl _ _ 126 rfl wr.heap.size 202 i123 _ 5 72 Tryz.underlying126 hi123 hz1230 hz1231 hz1232 rfl (by decide) _ 0 [] (by rfl) (World.ownsRow_lit wr #[] 0 (Nat.le_refl _) (by decide) rfl) ⟨g, off, none⟩ 0 (c - k) [] (by rfl) (by rfl) (by intro j u hj; cases hj) (by intro u hu; cases hu) (by decide) (by omega) (by simp) ?_; intro v4 w4 hown4 hgr4 _ hat4; obtain ⟨A4, c4, hv4⟩ := row_shape hown4; subst hv4)
      have hff := (Fr.refl (fun _ => False) wr).alloc (.cells #[] 202)
      have hf4 : Fr (fun _ => False) wr w4 := hff.trans (Fr.of_grown hgr4) (fun i hi e => by injection e with e; have e2 : wr.heap.size = i := e; omega)
      have hfw : Fr (fun _ => False) w w4 := HFX.out.trans' hf4
      have hbx := HBX.out.fr hf4 (fun h => h)
      have hrx := ownsRow_fr HRX.out hf4 (fun _ _ h => h)
      have hrest : w4.ownsRow wr.heap.size 202 5 (.slice A4 0 c4) 0 [] := by simpa using hown4
      have HBF := Lib.hid hbx
      have HRF := Lib.hid hrx
      have HREST := Lib.hid hrest
      have HFW := Lib.hid hfw
      have hsz4 := hfw.size
      have HS := Lib.hid (fun (w' : World) (hf : Fr (fun _ => False) w4 w') => (HBF.out.fr hf (fun h => h)).cells4)
      clear hff hf4 hfw hbx hrx hrest hown4 hgr4 hat4
      obtain ⟨wf, rfl⟩ : ∃ wf, wf = w4 := ⟨w4, rfl⟩
      go_region_held3 (fun w' => w'.cell? ⟨w.heap.size, 0, none⟩ = some (.int .i64 tk) ∧ w'.cell? ⟨w.heap.size, 1, none⟩ = some (.string tt) ∧ w'.cell? ⟨w.heap.size, 2, none⟩ = some (.string ty) ∧ w'.cell? ⟨w.heap.size, 3, none⟩ = some (.string tl))
        (first | exact HS.out _ F3 | exact HS.out _ F2 | exact HS.out _ (F1.alloc _) | exact HS.out _ F1 | exact HS.out _ (((Fr.refl _ _).alloc _).alloc _).drew | exact HS.out _ ((Fr.refl _ _).alloc _).drew | exact HS.out _ (Fr.refl _ _).drew)
        (first
          | (refine step_append_rows rfl (.tmp 29) (.tmp 32) 126 (by rfl) wf.heap.size 202 i123 _ 5 72 Tryz.underlying126 hi123 hz1230 hz1231 hz1232 rfl (by decide) _ 0 [] (by rfl) (by first | exact World.ownsRow_lit wf #[] 0 (Nat.le_refl _) (by decide) rfl | exact (World.ownsRow_lit wf #[] 0 (Nat.le_refl _) (by decide) rfl).alloc _ | exact lit_at wf _) B _ k (bcells bs) (by rfl) (by first | exact HRF.out.alloc _ | exact (HRF.out.alloc _).alloc _) (bcells_one bs) (by unfold maxLen; omega) (by omega) (by simp; try omega) ?_; intro v1 w2 hown1 hgr1 hat1; have F1 : Fr (fun _ => False) wf w2 := (by first | exact (((Fr.refl (fun _ => False) wf).alloc _).drew).trans (Fr.of_grown hgr1) (fun i hi e => ob_no (X := wf.heap.size) (Nat.le_refl _) e hi) | exact ((((Fr.refl (fun _ => False) wf).alloc _).alloc _).drew).trans (Fr.of_grown hgr1) (fun i hi e => ob_no (X := wf.heap.size) (Nat.le_refl _) e hi) | exact ((((Fr.refl (fun _ => False) wf).alloc _).alloc _).drew).trans (Fr.of_grown hgr1) (fun i hi e => ob_no (X := wf.heap.size + 1) (Nat.le_succ _) e hi)); have hown1' : w2.ownsRow wf.heap.size 202 5 v1 k (bcells bs) := (by simpa using hown1); try (first | have hy37 : w2.ownsRow 0 202 5 (.slice (some ⟨wf.heap.size + 1, 0, none⟩) 1 1) 1 [.string v, .int .i64 tk, .string tt, .string ty, .string tl] := put37a wf _ w2 hgr1 | have hy37 : w2.ownsRow 0 202 5 (.slice (some ⟨wf.heap.size, 0, none⟩) 1 1) 1 [.string v, .int .i64 tk, .string tt, .string ty, .string tl] := put37b wf _ w2 hgr1))
          | (refine step_append_rows rfl (.tmp 33) (.tmp 37) 126 (by rfl) wf.heap.size 202 i123 _ 5 72 Tryz.underlying126 hi123 hz1230 hz1231 hz1232 rfl (by decide) v1 k (bcells bs) (by rfl) (by first | exact hown1' | exact hown1'.alloc _) 0 _ 1 [.string v, .int .i64 tk, .string tt, .string ty, .string tl] (by rfl) (by first | exact hy37 | exact World.ownsRow_lit w2 #[.string v, .int .i64 tk, .string tt, .string ty, .string tl] 1 (Nat.zero_le _) (by decide) rfl) (cells_one v tk tt ty tl) (by unfold maxLen; omega) (by omega) (by first | exact F1.size | exact (F1.alloc _).size) ?_; intro v2 w3 hown2 hgr2 hat2; have F2 : Fr (fun _ => False) wf w3 := (by first | exact F1.trans (Fr.of_grown hgr2) (fun i hi e => absurd ((World.ownsRow.lt hown1' i e).1) (by omega)) | exact (F1.alloc _).trans (Fr.of_grown hgr2) (fun i hi e => absurd ((World.ownsRow.lt hown1' i e).1) (by omega))))
          | (refine step_append_rows rfl (.tmp 38) (.tmp 39) 126 (by rfl) wf.heap.size 202 i123 _ 5 72 Tryz.underlying126 hi123 hz1230 hz1231 hz1232 rfl (by decide) v2 (k + 1) (bcells bs ++ [.string v, .int .i64 tk, .string tt, .string ty, .string tl]) (by rfl) hown2 wr.heap.size (.slice A4 0 c4) 0 [] (by rfl) (ownsRow_fr HREST.out F2 (fun _ _ h => h)) (by intro u hu; cases hu) (by unfold maxLen; omega) (by omega) F2.size ?_; intro v3 w5 hown3 hgr3 hat3; have F3 : Fr (fun _ => False) wf w5 := F2.trans (Fr.of_grown hgr3) (fun i hi e => absurd ((World.ownsRow.lt hown2 i e).1) (by omega)))
          | fail)
      all_goals (obtain ⟨A5, c5, hv5⟩ := row_shape hown3; subst hv5; have HO := Lib.hid hown3; have HF3 := Lib.hid (HFW.out.trans' F3); clear hown1 hown2 hown3 hgr1 hgr2 hgr3 hat1 hat2 hat3 F1 F2 F3)
      all_goals (go_wp2_with fail)
      all_goals (go_ret; refine ⟨A5, c5, rfl, ?_, HF3.out⟩; rw [bcells_append]; have h := ownsRow_base HO.out hsz4; rw [List.append_nil] at h; exact h)

end Go.Proofs.YtebddgdkndmpjaaGreatDoor
