/- Groups: walked. -/
import Derived.Test.YtflhmieeidnpgaaGreatDoorHd
import Derived.Deep.CutBlock
import Derived.Deep.RegionLawGrows
import Derived.Deep.Cut
import Derived.Deep.CutRange
import Derived.WalkKit
import Derived.WalkLawsBesides
import Derived.WalkSpells
import Derived.Deep.QuietTactic
import Derived.BigRegion
import Derived.BigQuiet
import Derived.Lib.Hide
import Derived.Outline
import Derived.Deep.AppendLies
import Derived.Deep.RegionLaw
import Derived.Deep.RegionWith
import Derived.Deep.RegionHeld3
import Derived.Deep.LoopGhost
import Derived.Deep.DeepFit
import Derived.Laws.ResultCell
import Derived.Laws.RangeAny
import Derived.Deep.MidRow
import Derived.StillTailTactics
import Derived.OpenShut
namespace Go.Proofs.YtflhmieeidnpgaaGreatDoor
set_option linter.unusedVariables false
open Go.RowKit Go

theorem info29 : (Tryz.prog.info? 29).map (fun i => (i.zero, i.size, i.bytes)) = some (some (.agg #[.slice none 0 0, .slice none 0 0]), 2, 48) := by kernel_rfl
def GroupsPost (w : World) (ks : List Key) (rows : List (List Int)) (e : Ending) (w' : World) : Prop :=
  ∃ v ps, e = .returned v ∧ GroupsAt w' (w.heap.size + 2) (w.heap.size + 2) v ps (groupsTo ks rows rows.length) ∧ Fr (fun _ => False) w w'
/-- The state of the loop. -/
structure GInv (w : World) (tv : Array Value) (bv : Value) (ks : List Key) (rows : List (List Int)) (i : Nat) (v : Value) (wr : World) : Prop where
  groups : ∃ ps, GroupsAt wr (w.heap.size + 2) (w.heap.size + 2) v ps (groupsTo ks rows i)
  fr : Fr (fun _ => False) w wr
  tb : Blk wr w.heap.size 29 tv
  bb : Blk wr (w.heap.size + 1) 26 #[bv]
  sz : w.heap.size + 2 ≤ wr.heap.size

theorem ask_any {w wr wy : World} {vg vc bg bc B1 B2 n c rb rg rc i : Nat} {A : Option Addr} {ks : List Key} {rows : List (List Int)} {xs : List Int} {ov : Value}
    (h : GInv w #[.slice (some ⟨vg, 0, none⟩) 3 vc, .slice A n c] (.slice (some ⟨bg, 0, none⟩) ks.length bc) ks rows i ov wr) (hf : Fr (fun _ => False) wr wy)
    (hrb : wy.cell? ⟨rb, 0, none⟩ = some (.slice (some ⟨rg, 0, none⟩) 3 rc)) (hrow : IntRow wy 0 (.slice (some ⟨rg, 0, none⟩) 3 rc) xs) (hx : xs.length = 3) (hk : KeysOk ks) (hm : ks.length ≤ 4096)
    (hs : w.ownsRow B1 9 1 (.slice (some ⟨bg, 0, none⟩) ks.length bc) ks.length ((ks.map Key.v).map .string)) (hv : w.ownsRow B2 9 1 (.slice (some ⟨vg, 0, none⟩) 3 vc) 3 (abc.map .string))
    (h3 : ∀ r, r ∈ rows → r.length = 3) (hi : i ≤ rows.length) (hn : rows.length ≤ 8) :
    Calls Tryz.prog 41 #[ov, .func (.func 38) #[] #[.pointer (some ⟨w.heap.size + 1, 0, none⟩), .pointer (some ⟨w.heap.size, 0, none⟩), .pointer (some ⟨rb, 0, none⟩)]] wy (IdxPost (fun j => alikeB ks xs (((groupsTo ks rows i).getD j []).headD [])) (groupsTo ks rows i).length wy) := by
  obtain ⟨ps, hps⟩ := h.groups
  obtain ⟨hl, hg⟩ := groupsTo_ok ks rows h3 i hi
  refine idx41 _ _ ov ps _ _ _ _ _ wy (by omega) (hps.frF hf) (fun j hj wz hz => ?_)
  have hgj := hps.each j hj
  obtain ⟨h1, h2, h4⟩ := hg _ (getD_mem (d := []) hj)
  obtain ⟨vg', vc', hp1⟩ := hgj.vars
  obtain ⟨vals', hr'⟩ := hgj.rows
  have F := hf.trans' hz
  have F2 := h.fr.trans' F
  rw [hp1]
  exact same38 (w.heap.size + 1) w.heap.size rb bg bc vg vc n c rg rc 3 vc' B1 B2 0 _ A _ _ vals' ((groupsTo ks rows i).getD j []) ks xs wz hk hm hx (fun k hk => h4 _ (getD_mem hk)) h1
    ((h.bb.fr F (fun h => h)).cell 0) (ownsRow_fr hs F2 (fun _ _ h => h)) ((h.tb.fr F (fun h => h)).cell 0) ((h.tb.fr F (fun h => h)).cell 1) (ownsRow_fr hv F2 (fun _ _ h => h)) (cell_fr hz hrb) (hrow.fr hz (fun _ _ h => h)) (hr'.frF F)
theorem GInv.step {w w4 w5 w6 : World} {tv : Array Value} {bv nv : Value} {ks : List Key} {rows : List (List Int)} {i k og m oc nk ck g6 c6 : Nat} {Ak : Option Addr} {ps : List (Value × Value)} {gs : List (List (List Int))} {valsk : List Value} {xs : List Int}
    (hfr : Fr (fun _ => False) w w4) (htb : Blk w4 w.heap.size 29 tv) (hbb : Blk w4 (w.heap.size + 1) 26 #[bv]) (hsz : w.heap.size + 2 ≤ w4.heap.size) (hp : GroupsAt w4 (w.heap.size + 2) (w.heap.size + 2) (.slice (some ⟨og, 0, none⟩) m oc) ps gs) (hk : k < gs.length)
    (hrows : RowsAt w4 (w.heap.size + 2) (ps.getD k (undef, undef)).2 valsk (gs.getD k [])) (hvk : (ps.getD k (undef, undef)).2 = .slice Ak nk ck) (hnk : (gs.getD k []).length = nk) (hxi : groupsTo ks rows (i + 1) = gs.set k (gs.getD k [] ++ [xs]))
    (F5 : Fr (fun _ => False) w4 w5) (hr5 : IntRow w5 w4.heap.size nv xs) (o : Obj) (hown6 : w6.ownsRow (w.heap.size + 2) 48 1 (.slice (some ⟨g6, 0, none⟩) (nk + 1) c6) (nk + 1) (valsk ++ [nv]))
    (hgr6 : (w5.alloc o).grownBy w6 (Value.slice Ak nk ck).ownBlock) (hat6 : (Value.slice Ak nk ck).ownBlock = some g6 ∨ g6 = w5.heap.size + 1) :
    GInv w tv bv ks rows (i + 1) (.slice (some ⟨og, 0, none⟩) m oc) (w6.setCell ⟨og, k * 2 + 1, none⟩ (.slice (some ⟨g6, 0, none⟩) (nk + 1) c6)) := by
  have hr4 := hrows.own
  rw [hvk] at hr4
  have F6 : Fr (fun j => (Value.slice Ak nk ck).ownBlock = some j) w4 w6 := ((F5.mono (fun _ _ h => h.elim)).alloc _).trans (Fr.of_grown hgr6) (fun _ _ h => h)
  have F7 : Fr (fun j => (Value.slice Ak nk ck).ownBlock = some j ∨ j = og) w4 (w6.setCell ⟨og, k * 2 + 1, none⟩ (.slice (some ⟨g6, 0, none⟩) (nk + 1) c6)) := (F6.mono (fun _ _ h => .inl h)).setCell ⟨og, k * 2 + 1, none⟩ (fun _ => .inr rfl) _
  have hog := (hp.own.lt og rfl).1
  have hge : ∀ j, ((Value.slice Ak nk ck).ownBlock = some j ∨ j = og) → w.heap.size + 2 ≤ j := fun j h => by
    rcases h with h | h
    · exact (hr4.lt j h).1
    · omega
  refine ⟨⟨ps.set k ((ps.getD k (undef, undef)).1, .slice (some ⟨g6, 0, none⟩) (nk + 1) c6), ?_⟩, hfr.trans F7 (fun j hj h => ?_), htb.fr F7 (fun h => ?_), hbb.fr F7 (fun h => ?_), Nat.le_trans hsz F7.size⟩
  · rw [hxi]
    refine (hp.frF F5).put (nv := nv) (vals := valsk) hk (hrows.frF F5) hr5 hsz o ?_ (by rw [hvk]; exact hgr6) ?_
    · rw [hnk]
      exact hown6
    · rw [hvk]
      rcases hat6 with h | h
      · exact .inl h.symm
      · right
        rw [h]
        simp [Value.ownBlock]
  · have := hge j h
    omega
  · have := hge _ h
    omega
  · have := hge _ h
    omega
set_option maxRecDepth 100000 in
set_option maxHeartbeats 4000000 in
theorem groups_any (vg vc bg bc B1 B2 B3 : Nat) (vr : Value) (vals : List Value) (rows : List (List Int)) (ks : List Key) (w : World) (hk : KeysOk ks) (hm : ks.length ≤ 4096) (hm0 : 0 < ks.length) (hn : rows.length ≤ 8) (h3 : ∀ r, r ∈ rows → r.length = 3)
    (hs : w.ownsRow B1 9 1 (.slice (some ⟨bg, 0, none⟩) ks.length bc) ks.length ((ks.map Key.v).map .string)) (hv : w.ownsRow B2 9 1 (.slice (some ⟨vg, 0, none⟩) 3 vc) 3 (abc.map .string)) (hr : RowsAt w B3 vr vals rows) :
    Calls Tryz.prog 12 #[.agg #[.slice (some ⟨vg, 0, none⟩) 3 vc, vr], .slice (some ⟨bg, 0, none⟩) ks.length bc] w (GroupsPost w ks rows) := by
  obtain ⟨A0, c0, hvt⟩ := row_shape hr.own
  subst hvt
  obtain ⟨i29, hi29, hz290, hz291, hz292⟩ := info_parts info29
  obtain ⟨i48, hi48, hz480, hz481, hz482⟩ := info_parts info48
  have HOK := Lib.hid (groupsTo_ok ks rows h3)
  have HS := Lib.hid hs
  have HV := Lib.hid hv
  have HR := Lib.hid hr
  have HK := Lib.hid hk
  have H3 := Lib.hid h3
  clear hs hv hr hk h3
  have hkl : ((ks.length : Int) == 0) = false := beq_eq_false_iff_ne.2 (by omega)
  have hb0 := Blk.new w 29 #[.slice (some ⟨vg, 0, none⟩) 3 vc, .slice A0 rows.length c0]
  have hb1 := Blk.new (w.alloc (.cells #[.slice (some ⟨vg, 0, none⟩) 3 vc, .slice A0 rows.length c0] 29)) 26 #[.slice (some ⟨bg, 0, none⟩) ks.length bc]
  have hz : (w.alloc (.cells #[.slice (some ⟨vg, 0, none⟩) 3 vc, .slice A0 rows.length c0] 29)).heap.size = w.heap.size + 1 := by simp
  rw [hz] at hb1
  have START := Lib.hid (show GInv w #[.slice (some ⟨vg, 0, none⟩) 3 vc, .slice A0 rows.length c0] (.slice (some ⟨bg, 0, none⟩) ks.length bc) ks rows 0 (.slice none 0 0) ((w.alloc (.cells #[.slice (some ⟨vg, 0, none⟩) 3 vc, .slice A0 rows.length c0] 29)).alloc (.cells #[.slice (some ⟨bg, 0, none⟩) ks.length bc] 26)) from
    ⟨⟨[], rfl, World.ownsRow_nil _ _ _ _, fun i hi => absurd hi (Nat.not_lt_zero _), fun i j hi => absurd hi (Nat.not_lt_zero _)⟩, ((Fr.refl _ _).alloc _).alloc _, hb0.alloc _, hb1, by simp⟩)
  clear hb0 hb1 hz
  go_enter Tryz.func12, Tryz.ntmps12
  go_wp2_with fail
  go_loopw [5, 18] (fun ov iv wr => ∃ i : Nat, iv = .int .i64 (i : Int) ∧ i ≤ rows.length ∧ GInv w #[.slice (some ⟨vg, 0, none⟩) 3 vc, .slice A0 rows.length c0] (.slice (some ⟨bg, 0, none⟩) ks.length bc) ks rows i ov wr) (fun _ iv _ => rows.length - (intOf iv).toNat)
  case atStart => exact ⟨0, rfl, Nat.zero_le _, START.out⟩
  case round =>
    obtain ⟨i, rfl, hi, hg⟩ := hrel
    have HG := Lib.hid hg
    clear hg
    by_cases hlt : i < rows.length
    · have hlt' : decide (i < rows.length) = true := by simpa using hlt
      have hrr := HR.out.frF HG.out.fr
      obtain ⟨ga, rfl, _, _, _⟩ := row_form hrr.own (by omega)
      have h3i : (rows.getD i []).length = 3 := H3.out _ (getD_mem hlt)
      have hck : wr.cell? ⟨ga, i, none⟩ = some (vals.getD i undef) := by
        rw [World.ownsRow.cellAt hrr.own i (by omega), List.getD_eq_getElem?_getD, List.getElem?_eq_getElem (by have := hrr.len; omega)]; rfl
      have hek := hrr.each i hlt
      obtain ⟨rg, rc, hvk⟩ := row_pos hek (by rw [h3i]; omega)
      rw [hvk] at hck hek
      rw [h3i] at hck hek
      have hekA : IntRow (wr.alloc (.cells #[.slice (some ⟨rg, 0, none⟩) 3 rc] 48)) 0 (.slice (some ⟨rg, 0, none⟩) 3 rc) (rows.getD i []) := ownsRow_base (hek.fr ((Fr.refl _ _).alloc _) (fun _ _ h => h)) (Nat.zero_le _)
      have hrb := Blk.new wr 48 #[.slice (some ⟨rg, 0, none⟩) 3 rc]
      have HASK := Lib.hid (ask_any HG.out ((Fr.refl _ _).alloc _) (hrb.cell 0) hekA h3i HK.out hm HS.out HV.out H3.out hi hn)
      have HEK := Lib.hid hekA
      have HRB := Lib.hid hrb
      have HXI := Lib.hid (show groupsTo ks rows (i + 1) = grow ks (groupsTo ks rows i) (rows.getD i []) from rfl)
      have H3I := Lib.hid h3i
      clear hrr hek hekA hrb h3i
      go_wp2_with fail
      refine HASK.out.mono ?_
      rintro e w4 ⟨r, rfl, hf4, hr4⟩
      have HF4 := Lib.hid hf4
      have HR4 := Lib.hid hr4
      clear hf4 hr4
      by_cases hr0 : r < 0
      · have hr0' : decide (r < 0) = true := decide_eq_true hr0
        have hno : ∀ j, j < (groupsTo ks rows i).length → alikeB ks (rows.getD i []) (((groupsTo ks rows i).getD j []).headD []) = false := by
          rcases HR4.out with ⟨k, h, _⟩ | ⟨_, h⟩
          · omega
          · exact h
        rw [grow_none hno] at HXI
        clear hno hr0
        obtain ⟨wa, rfl⟩ : ∃ wa, wa = w4 := ⟨w4, rfl⟩
        have hFa : Fr (fun _ => False) wr wa := ((Fr.refl _ wr).alloc _).trans' HF4.out
        obtain ⟨ps0, hps⟩ := HG.out.groups
        have hpa := hps.frF hFa
        have HRKA := Lib.hid (HRB.out.fr HF4.out (fun h => h))
        have HEKA := Lib.hid (HEK.out.fr HF4.out (fun _ _ h => h))
        have htba := HG.out.tb.fr hFa (fun h => h)
        have hbba := HG.out.bb.fr hFa (fun h => h)
        have hsza : w.heap.size + 2 ≤ wa.heap.size := Nat.le_trans HG.out.sz hFa.size
        have HF0A := Lib.hid (HG.out.fr.trans' hFa)
        have hgl := (HOK.out i hi).1
        have HG8A := Lib.hid (fun k (hk : k < (groupsTo ks rows i).length) => Nat.le_trans ((HOK.out i hi).2 _ (getD_mem (d := []) hk)).2.1 (show i ≤ 8 by omega))
        have hstr := ownsRow_fr HV.out (HG.out.fr.trans' hFa) (fun _ _ h => h)
        have HCV := Lib.hid (clone_any vg 3 vc abc wa (by omega) (by omega) (str_cell hstr) rfl)
        have t0 : wa.cell? ⟨w.heap.size, 0, none⟩ = some (.slice (some ⟨vg, 0, none⟩) 3 vc) := htba.cell 0
        clear hps hFa hstr
        generalize groupsTo ks rows i = gs0 at *
        obtain ⟨A0', c0', hov0⟩ := row_shape hpa.own
        subst hov0
        generalize hk0 : gs0.length = k at *
        have HK0 := Lib.hid hk0
        clear hk0
        have HPA := Lib.hid hpa
        have HTBA := Lib.hid htba
        have HBBA := Lib.hid hbba
        clear hpa htba hbba
        go_wp2_with fail
        refine HCV.out.mono ?_
        rintro e wb ⟨Av, cv, rfl, hrowv, hfb⟩
        have hob : wb.ownsRow (w.heap.size + 2) 29 2 (.slice A0' k c0') k (pairs ps0) := by
          have h := ownsRow_fr HPA.out.own hfb (fun _ _ h => h)
          rw [HK0.out] at h
          exact h
        have hszb := hfb.size
        go_wp2_with (at_builtin; refine wpList_append_own_at _ rfl _ _ 50 rfl (w.heap.size + 2) 29 i29 _ 2 48 Tryz.underlying50 hi29 hz290 hz291 hz292 rfl (by decide) _ k (pairs ps0) (by rfl) (hob.alloc _) ⟨wb.heap.size, 0, none⟩ 1 1 [.slice (some ⟨Av, 0, none⟩) 3 cv, .slice none 0 0] (by rfl) rfl (World.news_of_block (heap_alloc_new wb _)) (by intro u hu; simp only [List.mem_cons, List.not_mem_nil, or_false] at hu; rcases hu with rfl | rfl <;> rfl) (by unfold maxLen; omega) (by omega) (by simp; omega) ?_; intro v4 w4 hown4' hgr4 _ hat4; obtain ⟨og', oc', hv4⟩ := row_pos hown4' (by omega); subst hv4)
        have F4 : Fr (fun j => (Value.slice A0' k c0').ownBlock = some j) wa w4 := ((hfb.mono (fun _ _ h => h.elim)).alloc _).trans (Fr.of_grown hgr4) (fun _ _ h => h)
        have hoa := HPA.out.own
        rw [HK0.out] at hoa
        have hp4 := (HPA.out.frF hfb).new ⟨Av, cv, rfl⟩ (ownsRow_base hrowv hsza) _ (by rw [HK0.out]; exact hown4') hgr4
        have hrk4 := HRKA.out.fr F4 (fun h => own_blk_ne hoa HRKA.out (by decide) h)
        have hek4 := HEKA.out.fr F4 (fun j hj h => row_row_ne hoa HEKA.out (by decide) h hj)
        have htb4 := HTBA.out.fr F4 (fun h => absurd (hoa.lt _ h).1 (by omega))
        have hbb4 := HBBA.out.fr F4 (fun h => absurd (hoa.lt _ h).1 (by omega))
        have hsz4 : w.heap.size + 2 ≤ w4.heap.size := Nat.le_trans hsza F4.size
        have HF04 := Lib.hid (HF0A.out.trans F4 (fun j hj h => absurd (hoa.lt _ h).1 (by omega)))
        have hkl2 : k < (gs0 ++ [[]]).length := by rw [List.length_append, HK0.out]; simp
        have HG8 := Lib.hid (show ∀ j, j < (gs0 ++ [[]]).length → ((gs0 ++ [[]]).getD j []).length ≤ 8 from fun j hj => by
          rw [List.length_append, List.length_singleton, HK0.out] at hj
          by_cases e : j < k
          · rw [(getD_app (x := [])).1 j (by rw [HK0.out]; exact e)]
            exact HG8A.out j e
          · have e2 : j = gs0.length := by rw [HK0.out]; omega
            rw [e2, getD_app.2]
            exact Nat.zero_le 8)
        have HNK := Lib.hid (show ((ps0 ++ [(Value.slice (some ⟨Av, 0, none⟩) 3 cv, Value.slice none 0 0)]).getD k (undef, undef)).2.ownBlock ≠ some wr.heap.size from fun e => by
          have hl := HPA.out.len
          rw [HK0.out] at hl
          rw [← hl, getD_app.2] at e
          cases e)
        have HXI2 := Lib.hid (show groupsTo ks rows (i + 1) = (gs0 ++ [[]]).set k ((gs0 ++ [[]]).getD k [] ++ [rows.getD i []]) by
          rw [HXI.out, ← HK0.out, getD_app.2, List.nil_append, List.set_append_right _ _ (Nat.le_refl _), Nat.sub_self]
          rfl)
        have HGM0 : (gs0 ++ [[]]).length = k + 1 := by rw [List.length_append, HK0.out]; rfl
        clear HXI HG8A
        have HXI := HXI2
        generalize gs0 ++ [[]] = gs at *
        generalize ps0 ++ [(Value.slice (some ⟨Av, 0, none⟩) 3 cv, Value.slice none 0 0)] = ps at *
        have HGM := Lib.hid HGM0
        clear HGM0 hown4' hgr4 hat4 hob hoa hrowv hfb F4 t0
        have hown4 := hp4.own
        rw [HGM.out] at hown4
        obtain ⟨og, rfl⟩ : ∃ og, og = og' := ⟨og', rfl⟩
        have hgk := hp4.each k hkl2
        obtain ⟨valsk, hrowsk⟩ := hgk.rows
        obtain ⟨Ak, ck, hvk'⟩ := row_shape hrowsk.own
        have hcell := (World.ownsRow.cellAt hown4 (k * 2 + 1) (by omega)).trans (pairs_at ps k (by rw [hp4.len]; exact hkl2)).2
        have hfz := hown4.frozenAt (k * 2 + 1)
        rw [hvk'] at hcell
        have hogl := (hown4.lt og rfl).2
        have r0 : w4.cell? ⟨wr.heap.size, 0, none⟩ = some (.slice (some ⟨rg, 0, none⟩) 3 rc) := hrk4.cell 0
        have HCELL := Lib.hid hcell
        have HOWN4 := Lib.hid hown4
        have HP4 := Lib.hid hp4
        have HRK := Lib.hid hrowsk
        have HVK := Lib.hid hvk'
        have HRO := Lib.hid (show w4.ownsRow (w.heap.size + 2) 48 1 (.slice Ak (gs.getD k []).length ck) (gs.getD k []).length valsk by have := hrowsk.own; rw [hvk'] at this; exact this)
        have HNE := Lib.hid (show (Value.slice Ak (gs.getD k []).length ck).ownBlock ≠ some og from fun e => row_row_ne HRO.out hown4 (by decide) e rfl)
        have HNE2 := Lib.hid (show (Value.slice Ak (gs.getD k []).length ck).ownBlock ≠ some wr.heap.size from fun e => HNK.out (by rw [hvk']; exact e))
        have HSF := Lib.hid (fun (S : Nat → Prop) wz (hf : Fr S w4 wz) (hn : ¬ S wr.heap.size) => cell_frS hf hn r0)
        have HNOG := Lib.hid (show wr.heap.size ≠ og from fun e => own_blk_ne hown4 hrk4 (by decide) (by rw [e]; rfl))
        have HTB4 := Lib.hid htb4
        have HBB4 := Lib.hid hbb4
        clear htb4 hbb4 hrk4
        have HCL := Lib.hid (fun wy (hf : Fr (fun _ => False) w4 wy) => cloneI_any rg rc 0 _ wy H3I.out (hek4.fr hf (fun _ _ h => h)))
        have hkk : (k : Int) < (k : Int) + 1 := by omega
        have hglk := HG8.out k hkl2
        generalize hgkl : (gs.getD k []).length = nk at *
        have HGKL := Lib.hid hgkl
        clear hgkl
        have HKL := Lib.hid hkl2
        clear hgk hrowsk hvk' hown4 hp4
        go_wp2_with fail
        refine wp_region_noPanic ?_
        refine wp_region_held_drew (S := (fun w' => w'.cell? ⟨wr.heap.size, 0, none⟩ = some (.slice (some ⟨rg, 0, none⟩) 3 rc))) (by kernel_rfl) ?_ (fun hHeld => ?_)
        · try dsimp only
          (first | exact HSF.out _ _ ((Fr.refl (fun _ => False) _).drew) (fun h => h) | exact HSF.out _ _ F5 (fun h => h) | exact HSF.out _ _ (F5.alloc _) (fun h => h) | exact HSF.out _ _ F6 HNE2.out | exact HSF.out _ _ F7 HNE7.out)
        refine wpAnyH_take (i := 0) (oi := _) (v := ?_) (by simp only [List.getElem?_toArray, List.getElem?_cons_zero]; rfl) (by kernel_rfl) (by kernel_rfl) (by kernel_rfl) (fun _ _ _ h => h) (Or.inl ⟨by rfl, ?_⟩) (by assumption) ?_
        rotate_left
        · intro w hSw
          try dsimp only at hSw
          go_simp
          all_goals (with_reducible rfl)
        try simp only [Act.put, List.setIfInBounds_toArray, List.set_cons_zero, List.set_cons_succ]
        refine wpAnyH_take (i := 1) (oi := _) (v := ?_) (by simp only [List.getElem?_toArray, List.getElem?_cons_zero, List.getElem?_cons_succ]; rfl) (by kernel_rfl) (by kernel_rfl) (by kernel_rfl) (fun _ _ _ h => h) (Or.inl ⟨by rfl, ?_⟩) (by assumption) ?_
        rotate_left
        · intro w hSw
          try dsimp only at hSw
          go_simp
          all_goals (with_reducible rfl)
        try simp only [Act.put, List.setIfInBounds_toArray, List.set_cons_zero, List.set_cons_succ]
        refine wpAnyH_take (i := 2) (oi := _) (v := ?_) (by simp only [List.getElem?_toArray, List.getElem?_cons_zero, List.getElem?_cons_succ]; rfl) (by kernel_rfl) (by kernel_rfl) (by kernel_rfl) (fun _ _ _ h => h) (Or.inl ⟨by rfl, ?_⟩) (by assumption) ?_
        rotate_left
        · intro w hSw
          try dsimp only at hSw
          go_simp
          all_goals (with_reducible rfl)
        try simp only [Act.put, List.setIfInBounds_toArray, List.set_cons_zero, List.set_cons_succ]
        refine wpAnyH_take (i := 3) (oi := _) (v := ?_) (by simp only [List.getElem?_toArray, List.getElem?_cons_zero, List.getElem?_cons_succ]; rfl) (by kernel_rfl) (by kernel_rfl) (by kernel_rfl) (fun _ _ _ h => h) (Or.inl ⟨by rfl, ?_⟩) (by assumption) ?_
        rotate_left
        · intro w hSw
          try dsimp only at hSw
          go_simp
          all_goals (with_reducible rfl)
        try simp only [Act.put, List.setIfInBounds_toArray, List.set_cons_zero, List.set_cons_succ]
        refine wpAnyH_take (i := 4) (oi := _) (v := ?_) (by simp only [List.getElem?_toArray, List.getElem?_cons_zero, List.getElem?_cons_succ]; rfl) (by kernel_rfl) (by kernel_rfl) (by kernel_rfl) (fun _ _ _ h => h) (Or.inl ⟨by rfl, ?_⟩) (by assumption) ?_
        rotate_left
        · intro w hSw
          try dsimp only at hSw
          go_simp
          all_goals (with_reducible rfl)
        try simp only [Act.put, List.setIfInBounds_toArray, List.set_cons_zero, List.set_cons_succ]
        refine wpAnyH_take (i := 5) (oi := _) (v := ?_) (by simp only [List.getElem?_toArray, List.getElem?_cons_zero, List.getElem?_cons_succ]; rfl) (by kernel_rfl) (by kernel_rfl) (by kernel_rfl) (fun _ _ _ h => h) (Or.inl ⟨by rfl, ?_⟩) (by assumption) ?_
        rotate_left
        · intro w hSw
          try dsimp only at hSw
          go_simp
          all_goals (with_reducible rfl)
        try simp only [Act.put, List.setIfInBounds_toArray, List.set_cons_zero, List.set_cons_succ]
        refine wpAnyH_take (i := 7) (oi := _) (v := ?_) (by simp only [List.getElem?_toArray, List.getElem?_cons_zero, List.getElem?_cons_succ]; rfl) (by kernel_rfl) (by kernel_rfl) (by kernel_rfl) (fun _ _ _ h => h) (Or.inl ⟨by rfl, ?_⟩) (by assumption) ?_
        rotate_left
        · intro w hSw
          try dsimp only at hSw
          go_simp
          all_goals (with_reducible rfl)
        try simp only [Act.put, List.setIfInBounds_toArray, List.set_cons_zero, List.set_cons_succ]
        refine wpAnyH_ready (rs := [6, 8]) (by kernel_rfl) (by simp) ?_
        refine AllReadyH.cons (o := _) (by simp only [List.getElem?_toArray, List.getElem?_cons_zero, List.getElem?_cons_succ]; rfl) (fun K hK => ?_) ?_
        · skip
          go_simp
          refine hK.out _ _ ?_ (fun hHeld => ?_)
          · try dsimp only
            (first | exact HSF.out _ _ ((Fr.refl (fun _ => False) _).drew) (fun h => h) | exact HSF.out _ _ F5 (fun h => h) | exact HSF.out _ _ (F5.alloc _) (fun h => h) | exact HSF.out _ _ F6 HNE2.out | exact HSF.out _ _ F7 HNE7.out)
          clear hK K
          try simp only [Act.put, List.setIfInBounds_toArray, List.set_cons_zero, List.set_cons_succ]
          refine wpAnyH_ready (rs := [8]) (by kernel_rfl) (by simp) ?_
          refine AllReadyH.cons (o := _) (by simp only [List.getElem?_toArray, List.getElem?_cons_zero, List.getElem?_cons_succ]; rfl) (fun K hK => ?_) ?_
          · skip
            go_simp
            go_at_call 43
            refine (HCL.out _ ((Fr.refl _ _).drew)).mono ?_
            rintro e w5 ⟨A5, c5, rfl, hr5, hf5⟩
            have F5 : Fr (fun _ => False) w4 w5 := ((Fr.refl _ _).drew).trans' hf5
            have c5k := cell_fr F5 HCELL.out
            have h5s := F5.size
            have hog5 : og < w5.heap.size := by omega
            refine hK.out _ _ ?_ (fun hHeld => ?_)
            · try dsimp only
              (first | exact HSF.out _ _ ((Fr.refl (fun _ => False) _).drew) (fun h => h) | exact HSF.out _ _ F5 (fun h => h) | exact HSF.out _ _ (F5.alloc _) (fun h => h) | exact HSF.out _ _ F6 HNE2.out | exact HSF.out _ _ F7 HNE7.out)
            clear hK K
            try simp only [Act.put, List.setIfInBounds_toArray, List.set_cons_zero, List.set_cons_succ]
            refine wpAnyH_ready (rs := [9]) (by kernel_rfl) (by simp) ?_
            refine AllReadyH.cons (o := _) (by simp only [List.getElem?_toArray, List.getElem?_cons_zero, List.getElem?_cons_succ]; rfl) (fun K hK => ?_) ?_
            · skip
              go_simp
              refine hK.out _ _ ?_ (fun hHeld => ?_)
              · try dsimp only
                (first | exact HSF.out _ _ ((Fr.refl (fun _ => False) _).drew) (fun h => h) | exact HSF.out _ _ F5 (fun h => h) | exact HSF.out _ _ (F5.alloc _) (fun h => h) | exact HSF.out _ _ F6 HNE2.out | exact HSF.out _ _ F7 HNE7.out)
              clear hK K
              try simp only [Act.put, List.setIfInBounds_toArray, List.set_cons_zero, List.set_cons_succ]
              refine wpAnyH_ready (rs := [10]) (by kernel_rfl) (by simp) ?_
              refine AllReadyH.cons (o := _) (by simp only [List.getElem?_toArray, List.getElem?_cons_zero, List.getElem?_cons_succ]; rfl) (fun K hK => ?_) ?_
              · skip
                refine step_append_lies _ rfl (.tmp 43) (.tmp 46) 27 (by rfl) (w.heap.size + 2) 48 i48 _ 1 24 Tryz.underlying27 hi48 hz480 hz481 hz482 rfl (by decide) _ nk valsk (by rfl) ((ownsRow_fr HRO.out F5 (fun _ _ h => h)).alloc _) ⟨w5.heap.size, 0, none⟩ 1 1 [.slice (some ⟨A5, 0, none⟩) 3 c5] (by rfl) rfl (World.news_of_block (heap_alloc_new w5 _)) (by intro u hu; rw [List.mem_singleton] at hu; rw [hu]; rfl) (by omega) (by unfold maxLen; omega) (by omega) (by simp; omega) (w5.heap.size + 1) (by simp) ?_
                intro g6 c6 w6 hown6 hgr6 hat6 hlt6
                have F6 : Fr (fun j => (Value.slice Ak nk ck).ownBlock = some j) w4 w6 := ((F5.mono (fun _ _ h => h.elim)).alloc _).trans (Fr.of_grown hgr6) (fun _ _ h => h)
                have hb6 := ownsRow_fr HOWN4.out F6 (fun j hj h => HNE.out (by rw [h]; exact hj.symm ▸ rfl))
                have c6k : w6.cell? ⟨og, k * 2 + 1, none⟩ = some (.slice Ak nk ck) := (cell_frS F6 HNE.out HCELL.out)
                have f6k := hb6.frozenAt (k * 2 + 1)
                have h6s := F6.size
                refine hK.out _ _ ?_ (fun hHeld => ?_)
                · try dsimp only
                  (first | exact HSF.out _ _ ((Fr.refl (fun _ => False) _).drew) (fun h => h) | exact HSF.out _ _ F5 (fun h => h) | exact HSF.out _ _ (F5.alloc _) (fun h => h) | exact HSF.out _ _ F6 HNE2.out | exact HSF.out _ _ F7 HNE7.out)
                clear hK K
                try simp only [Act.put, List.setIfInBounds_toArray, List.set_cons_zero, List.set_cons_succ]
                refine wpAnyH_take (i := 11) (oi := _) (v := ?_) (by simp only [List.getElem?_toArray, List.getElem?_cons_zero, List.getElem?_cons_succ]; rfl) (by kernel_rfl) (by kernel_rfl) (by kernel_rfl) (fun _ _ _ h => h) (Or.inl ⟨by rfl, ?_⟩) (by assumption) ?_
                rotate_left
                · intro w hSw
                  try dsimp only at hSw
                  go_simp
                  all_goals (with_reducible rfl)
                try simp only [Act.put, List.setIfInBounds_toArray, List.set_cons_zero, List.set_cons_succ]
                refine wpAnyH_take (i := 12) (oi := _) (v := ?_) (by simp only [List.getElem?_toArray, List.getElem?_cons_zero, List.getElem?_cons_succ]; rfl) (by kernel_rfl) (by kernel_rfl) (by kernel_rfl) (fun _ _ _ h => h) (Or.inl ⟨by rfl, ?_⟩) (by assumption) ?_
                rotate_left
                · intro w hSw
                  try dsimp only at hSw
                  go_simp
                  all_goals (with_reducible rfl)
                try simp only [Act.put, List.setIfInBounds_toArray, List.set_cons_zero, List.set_cons_succ]
                refine wpAnyH_ready (rs := [13]) (by kernel_rfl) (by simp) ?_
                refine AllReadyH.cons (o := _) (by simp only [List.getElem?_toArray, List.getElem?_cons_zero, List.getElem?_cons_succ]; rfl) (fun K hK => ?_) ?_
                · skip
                  go_simp
                  have F7 : Fr (fun j => (Value.slice Ak nk ck).ownBlock = some j ∨ j = og) w4 (w6.setCell ⟨og, k * 2 + 1, none⟩ (.slice (some ⟨g6, 0, none⟩) (nk + 1) c6)) := (F6.mono (fun _ _ h => .inl h)).setCell ⟨og, k * 2 + 1, none⟩ (fun _ => .inr rfl) _
                  have HNE7 := Lib.hid (show ¬ ((Value.slice Ak nk ck).ownBlock = some wr.heap.size ∨ wr.heap.size = og) from fun h => h.elim HNE2.out HNOG.out)
                  refine hK.out _ _ ?_ (fun hHeld => ?_)
                  · try dsimp only
                    (first | exact HSF.out _ _ ((Fr.refl (fun _ => False) _).drew) (fun h => h) | exact HSF.out _ _ F5 (fun h => h) | exact HSF.out _ _ (F5.alloc _) (fun h => h) | exact HSF.out _ _ F6 HNE2.out | exact HSF.out _ _ F7 HNE7.out)
                  clear hK K
                  try simp only [Act.put, List.setIfInBounds_toArray, List.set_cons_zero, List.set_cons_succ]
                  refine wpAnyH_done (by kernel_rfl) ?_ _
                  refine NoPanic.normal ?_
                  have STEP := Lib.hid (GInv.step HF04.out HTB4.out HBB4.out hsz4 HP4.out (by first | exact HKL.out | (rw [HGM.out]; exact HKL.out)) HRK.out HVK.out HGKL.out HXI.out F5 hr5 _ hown6 hgr6 hat6)
                  clear F5 F6 F7 hr5 hf5 hown6 hgr6 hat6 hb6 c6k f6k c5k
                  go_wp2_with fail
                  go_roundw
                  case rel => exact ⟨i + 1, by go_num, hlt, STEP.out⟩
                  case measure => simp [intOf]; omega
                exact AllReadyH.nil
              exact AllReadyH.nil
            exact AllReadyH.nil
          exact AllReadyH.nil
        refine AllReadyH.cons (o := _) (by simp only [List.getElem?_toArray, List.getElem?_cons_zero, List.getElem?_cons_succ]; rfl) (fun K hK => ?_) ?_
        · skip
          go_simp
          go_at_call 43
          refine (HCL.out _ ((Fr.refl _ _).drew)).mono ?_
          rintro e w5 ⟨A5, c5, rfl, hr5, hf5⟩
          have F5 : Fr (fun _ => False) w4 w5 := ((Fr.refl _ _).drew).trans' hf5
          have c5k := cell_fr F5 HCELL.out
          have h5s := F5.size
          have hog5 : og < w5.heap.size := by omega
          refine hK.out _ _ ?_ (fun hHeld => ?_)
          · try dsimp only
            (first | exact HSF.out _ _ ((Fr.refl (fun _ => False) _).drew) (fun h => h) | exact HSF.out _ _ F5 (fun h => h) | exact HSF.out _ _ (F5.alloc _) (fun h => h) | exact HSF.out _ _ F6 HNE2.out | exact HSF.out _ _ F7 HNE7.out)
          clear hK K
          try simp only [Act.put, List.setIfInBounds_toArray, List.set_cons_zero, List.set_cons_succ]
          refine wpAnyH_ready (rs := [6, 9]) (by kernel_rfl) (by simp) ?_
          refine AllReadyH.cons (o := _) (by simp only [List.getElem?_toArray, List.getElem?_cons_zero, List.getElem?_cons_succ]; rfl) (fun K hK => ?_) ?_
          · skip
            go_simp
            refine hK.out _ _ ?_ (fun hHeld => ?_)
            · try dsimp only
              (first | exact HSF.out _ _ ((Fr.refl (fun _ => False) _).drew) (fun h => h) | exact HSF.out _ _ F5 (fun h => h) | exact HSF.out _ _ (F5.alloc _) (fun h => h) | exact HSF.out _ _ F6 HNE2.out | exact HSF.out _ _ F7 HNE7.out)
            clear hK K
            try simp only [Act.put, List.setIfInBounds_toArray, List.set_cons_zero, List.set_cons_succ]
            refine wpAnyH_ready (rs := [9]) (by kernel_rfl) (by simp) ?_
            refine AllReadyH.cons (o := _) (by simp only [List.getElem?_toArray, List.getElem?_cons_zero, List.getElem?_cons_succ]; rfl) (fun K hK => ?_) ?_
            · skip
              go_simp
              refine hK.out _ _ ?_ (fun hHeld => ?_)
              · try dsimp only
                (first | exact HSF.out _ _ ((Fr.refl (fun _ => False) _).drew) (fun h => h) | exact HSF.out _ _ F5 (fun h => h) | exact HSF.out _ _ (F5.alloc _) (fun h => h) | exact HSF.out _ _ F6 HNE2.out | exact HSF.out _ _ F7 HNE7.out)
              clear hK K
              try simp only [Act.put, List.setIfInBounds_toArray, List.set_cons_zero, List.set_cons_succ]
              refine wpAnyH_ready (rs := [10]) (by kernel_rfl) (by simp) ?_
              refine AllReadyH.cons (o := _) (by simp only [List.getElem?_toArray, List.getElem?_cons_zero, List.getElem?_cons_succ]; rfl) (fun K hK => ?_) ?_
              · skip
                refine step_append_lies _ rfl (.tmp 43) (.tmp 46) 27 (by rfl) (w.heap.size + 2) 48 i48 _ 1 24 Tryz.underlying27 hi48 hz480 hz481 hz482 rfl (by decide) _ nk valsk (by rfl) ((ownsRow_fr HRO.out F5 (fun _ _ h => h)).alloc _) ⟨w5.heap.size, 0, none⟩ 1 1 [.slice (some ⟨A5, 0, none⟩) 3 c5] (by rfl) rfl (World.news_of_block (heap_alloc_new w5 _)) (by intro u hu; rw [List.mem_singleton] at hu; rw [hu]; rfl) (by omega) (by unfold maxLen; omega) (by omega) (by simp; omega) (w5.heap.size + 1) (by simp) ?_
                intro g6 c6 w6 hown6 hgr6 hat6 hlt6
                have F6 : Fr (fun j => (Value.slice Ak nk ck).ownBlock = some j) w4 w6 := ((F5.mono (fun _ _ h => h.elim)).alloc _).trans (Fr.of_grown hgr6) (fun _ _ h => h)
                have hb6 := ownsRow_fr HOWN4.out F6 (fun j hj h => HNE.out (by rw [h]; exact hj.symm ▸ rfl))
                have c6k : w6.cell? ⟨og, k * 2 + 1, none⟩ = some (.slice Ak nk ck) := (cell_frS F6 HNE.out HCELL.out)
                have f6k := hb6.frozenAt (k * 2 + 1)
                have h6s := F6.size
                refine hK.out _ _ ?_ (fun hHeld => ?_)
                · try dsimp only
                  (first | exact HSF.out _ _ ((Fr.refl (fun _ => False) _).drew) (fun h => h) | exact HSF.out _ _ F5 (fun h => h) | exact HSF.out _ _ (F5.alloc _) (fun h => h) | exact HSF.out _ _ F6 HNE2.out | exact HSF.out _ _ F7 HNE7.out)
                clear hK K
                try simp only [Act.put, List.setIfInBounds_toArray, List.set_cons_zero, List.set_cons_succ]
                refine wpAnyH_take (i := 11) (oi := _) (v := ?_) (by simp only [List.getElem?_toArray, List.getElem?_cons_zero, List.getElem?_cons_succ]; rfl) (by kernel_rfl) (by kernel_rfl) (by kernel_rfl) (fun _ _ _ h => h) (Or.inl ⟨by rfl, ?_⟩) (by assumption) ?_
                rotate_left
                · intro w hSw
                  try dsimp only at hSw
                  go_simp
                  all_goals (with_reducible rfl)
                try simp only [Act.put, List.setIfInBounds_toArray, List.set_cons_zero, List.set_cons_succ]
                refine wpAnyH_take (i := 12) (oi := _) (v := ?_) (by simp only [List.getElem?_toArray, List.getElem?_cons_zero, List.getElem?_cons_succ]; rfl) (by kernel_rfl) (by kernel_rfl) (by kernel_rfl) (fun _ _ _ h => h) (Or.inl ⟨by rfl, ?_⟩) (by assumption) ?_
                rotate_left
                · intro w hSw
                  try dsimp only at hSw
                  go_simp
                  all_goals (with_reducible rfl)
                try simp only [Act.put, List.setIfInBounds_toArray, List.set_cons_zero, List.set_cons_succ]
                refine wpAnyH_ready (rs := [13]) (by kernel_rfl) (by simp) ?_
                refine AllReadyH.cons (o := _) (by simp only [List.getElem?_toArray, List.getElem?_cons_zero, List.getElem?_cons_succ]; rfl) (fun K hK => ?_) ?_
                · skip
                  go_simp
                  have F7 : Fr (fun j => (Value.slice Ak nk ck).ownBlock = some j ∨ j = og) w4 (w6.setCell ⟨og, k * 2 + 1, none⟩ (.slice (some ⟨g6, 0, none⟩) (nk + 1) c6)) := (F6.mono (fun _ _ h => .inl h)).setCell ⟨og, k * 2 + 1, none⟩ (fun _ => .inr rfl) _
                  have HNE7 := Lib.hid (show ¬ ((Value.slice Ak nk ck).ownBlock = some wr.heap.size ∨ wr.heap.size = og) from fun h => h.elim HNE2.out HNOG.out)
                  refine hK.out _ _ ?_ (fun hHeld => ?_)
                  · try dsimp only
                    (first | exact HSF.out _ _ ((Fr.refl (fun _ => False) _).drew) (fun h => h) | exact HSF.out _ _ F5 (fun h => h) | exact HSF.out _ _ (F5.alloc _) (fun h => h) | exact HSF.out _ _ F6 HNE2.out | exact HSF.out _ _ F7 HNE7.out)
                  clear hK K
                  try simp only [Act.put, List.setIfInBounds_toArray, List.set_cons_zero, List.set_cons_succ]
                  refine wpAnyH_done (by kernel_rfl) ?_ _
                  refine NoPanic.normal ?_
                  have STEP := Lib.hid (GInv.step HF04.out HTB4.out HBB4.out hsz4 HP4.out (by first | exact HKL.out | (rw [HGM.out]; exact HKL.out)) HRK.out HVK.out HGKL.out HXI.out F5 hr5 _ hown6 hgr6 hat6)
                  clear F5 F6 F7 hr5 hf5 hown6 hgr6 hat6 hb6 c6k f6k c5k
                  go_wp2_with fail
                  go_roundw
                  case rel => exact ⟨i + 1, by go_num, hlt, STEP.out⟩
                  case measure => simp [intOf]; omega
                exact AllReadyH.nil
              exact AllReadyH.nil
            exact AllReadyH.nil
          refine AllReadyH.cons (o := _) (by simp only [List.getElem?_toArray, List.getElem?_cons_zero, List.getElem?_cons_succ]; rfl) (fun K hK => ?_) ?_
          · skip
            go_simp
            refine hK.out _ _ ?_ (fun hHeld => ?_)
            · try dsimp only
              (first | exact HSF.out _ _ ((Fr.refl (fun _ => False) _).drew) (fun h => h) | exact HSF.out _ _ F5 (fun h => h) | exact HSF.out _ _ (F5.alloc _) (fun h => h) | exact HSF.out _ _ F6 HNE2.out | exact HSF.out _ _ F7 HNE7.out)
            clear hK K
            try simp only [Act.put, List.setIfInBounds_toArray, List.set_cons_zero, List.set_cons_succ]
            refine wpAnyH_ready (rs := [6]) (by kernel_rfl) (by simp) ?_
            refine AllReadyH.cons (o := _) (by simp only [List.getElem?_toArray, List.getElem?_cons_zero, List.getElem?_cons_succ]; rfl) (fun K hK => ?_) ?_
            · skip
              go_simp
              refine hK.out _ _ ?_ (fun hHeld => ?_)
              · try dsimp only
                (first | exact HSF.out _ _ ((Fr.refl (fun _ => False) _).drew) (fun h => h) | exact HSF.out _ _ F5 (fun h => h) | exact HSF.out _ _ (F5.alloc _) (fun h => h) | exact HSF.out _ _ F6 HNE2.out | exact HSF.out _ _ F7 HNE7.out)
              clear hK K
              try simp only [Act.put, List.setIfInBounds_toArray, List.set_cons_zero, List.set_cons_succ]
              refine wpAnyH_ready (rs := [10]) (by kernel_rfl) (by simp) ?_
              refine AllReadyH.cons (o := _) (by simp only [List.getElem?_toArray, List.getElem?_cons_zero, List.getElem?_cons_succ]; rfl) (fun K hK => ?_) ?_
              · skip
                refine step_append_lies _ rfl (.tmp 43) (.tmp 46) 27 (by rfl) (w.heap.size + 2) 48 i48 _ 1 24 Tryz.underlying27 hi48 hz480 hz481 hz482 rfl (by decide) _ nk valsk (by rfl) ((ownsRow_fr HRO.out F5 (fun _ _ h => h)).alloc _) ⟨w5.heap.size, 0, none⟩ 1 1 [.slice (some ⟨A5, 0, none⟩) 3 c5] (by rfl) rfl (World.news_of_block (heap_alloc_new w5 _)) (by intro u hu; rw [List.mem_singleton] at hu; rw [hu]; rfl) (by omega) (by unfold maxLen; omega) (by omega) (by simp; omega) (w5.heap.size + 1) (by simp) ?_
                intro g6 c6 w6 hown6 hgr6 hat6 hlt6
                have F6 : Fr (fun j => (Value.slice Ak nk ck).ownBlock = some j) w4 w6 := ((F5.mono (fun _ _ h => h.elim)).alloc _).trans (Fr.of_grown hgr6) (fun _ _ h => h)
                have hb6 := ownsRow_fr HOWN4.out F6 (fun j hj h => HNE.out (by rw [h]; exact hj.symm ▸ rfl))
                have c6k : w6.cell? ⟨og, k * 2 + 1, none⟩ = some (.slice Ak nk ck) := (cell_frS F6 HNE.out HCELL.out)
                have f6k := hb6.frozenAt (k * 2 + 1)
                have h6s := F6.size
                refine hK.out _ _ ?_ (fun hHeld => ?_)
                · try dsimp only
                  (first | exact HSF.out _ _ ((Fr.refl (fun _ => False) _).drew) (fun h => h) | exact HSF.out _ _ F5 (fun h => h) | exact HSF.out _ _ (F5.alloc _) (fun h => h) | exact HSF.out _ _ F6 HNE2.out | exact HSF.out _ _ F7 HNE7.out)
                clear hK K
                try simp only [Act.put, List.setIfInBounds_toArray, List.set_cons_zero, List.set_cons_succ]
                refine wpAnyH_take (i := 11) (oi := _) (v := ?_) (by simp only [List.getElem?_toArray, List.getElem?_cons_zero, List.getElem?_cons_succ]; rfl) (by kernel_rfl) (by kernel_rfl) (by kernel_rfl) (fun _ _ _ h => h) (Or.inl ⟨by rfl, ?_⟩) (by assumption) ?_
                rotate_left
                · intro w hSw
                  try dsimp only at hSw
                  go_simp
                  all_goals (with_reducible rfl)
                try simp only [Act.put, List.setIfInBounds_toArray, List.set_cons_zero, List.set_cons_succ]
                refine wpAnyH_take (i := 12) (oi := _) (v := ?_) (by simp only [List.getElem?_toArray, List.getElem?_cons_zero, List.getElem?_cons_succ]; rfl) (by kernel_rfl) (by kernel_rfl) (by kernel_rfl) (fun _ _ _ h => h) (Or.inl ⟨by rfl, ?_⟩) (by assumption) ?_
                rotate_left
                · intro w hSw
                  try dsimp only at hSw
                  go_simp
                  all_goals (with_reducible rfl)
                try simp only [Act.put, List.setIfInBounds_toArray, List.set_cons_zero, List.set_cons_succ]
                refine wpAnyH_ready (rs := [13]) (by kernel_rfl) (by simp) ?_
                refine AllReadyH.cons (o := _) (by simp only [List.getElem?_toArray, List.getElem?_cons_zero, List.getElem?_cons_succ]; rfl) (fun K hK => ?_) ?_
                · skip
                  go_simp
                  have F7 : Fr (fun j => (Value.slice Ak nk ck).ownBlock = some j ∨ j = og) w4 (w6.setCell ⟨og, k * 2 + 1, none⟩ (.slice (some ⟨g6, 0, none⟩) (nk + 1) c6)) := (F6.mono (fun _ _ h => .inl h)).setCell ⟨og, k * 2 + 1, none⟩ (fun _ => .inr rfl) _
                  have HNE7 := Lib.hid (show ¬ ((Value.slice Ak nk ck).ownBlock = some wr.heap.size ∨ wr.heap.size = og) from fun h => h.elim HNE2.out HNOG.out)
                  refine hK.out _ _ ?_ (fun hHeld => ?_)
                  · try dsimp only
                    (first | exact HSF.out _ _ ((Fr.refl (fun _ => False) _).drew) (fun h => h) | exact HSF.out _ _ F5 (fun h => h) | exact HSF.out _ _ (F5.alloc _) (fun h => h) | exact HSF.out _ _ F6 HNE2.out | exact HSF.out _ _ F7 HNE7.out)
                  clear hK K
                  try simp only [Act.put, List.setIfInBounds_toArray, List.set_cons_zero, List.set_cons_succ]
                  refine wpAnyH_done (by kernel_rfl) ?_ _
                  refine NoPanic.normal ?_
                  have STEP := Lib.hid (GInv.step HF04.out HTB4.out HBB4.out hsz4 HP4.out (by first | exact HKL.out | (rw [HGM.out]; exact HKL.out)) HRK.out HVK.out HGKL.out HXI.out F5 hr5 _ hown6 hgr6 hat6)
                  clear F5 F6 F7 hr5 hf5 hown6 hgr6 hat6 hb6 c6k f6k c5k
                  go_wp2_with fail
                  go_roundw
                  case rel => exact ⟨i + 1, by go_num, hlt, STEP.out⟩
                  case measure => simp [intOf]; omega
                exact AllReadyH.nil
              exact AllReadyH.nil
            exact AllReadyH.nil
          exact AllReadyH.nil
        exact AllReadyH.nil
      · have hr0' : decide (r < 0) = false := decide_eq_false hr0
        obtain ⟨k, hrk, hkl2, hkt, hkn⟩ : ∃ k : Nat, r = (k : Int) ∧ k < (groupsTo ks rows i).length ∧ alikeB ks (rows.getD i []) (((groupsTo ks rows i).getD k []).headD []) = true ∧ ∀ j, j < k → alikeB ks (rows.getD i []) (((groupsTo ks rows i).getD j []).headD []) = false := by
          rcases HR4.out with h | ⟨h, _⟩
          · exact h
          · omega
        subst hrk
        rw [grow_some hkl2 hkt hkn] at HXI
        clear hr0 hkt hkn
        have hF4 : Fr (fun _ => False) wr w4 := ((Fr.refl _ wr).alloc _).trans' HF4.out
        obtain ⟨ps, hps⟩ := HG.out.groups
        have hp4 := hps.frF hF4
        have HNKA := Lib.hid (show ∀ j, j < (groupsTo ks rows i).length → (ps.getD j (undef, undef)).2.ownBlock ≠ some wr.heap.size from fun j hj e => by
          obtain ⟨vals', hr'⟩ := (hps.each j hj).rows
          exact Nat.lt_irrefl _ (hr'.own.lt _ e).2)
        have hrk4 := HRB.out.fr HF4.out (fun h => h)
        have hek4 := HEK.out.fr HF4.out (fun _ _ h => h)
        have htb4 := HG.out.tb.fr hF4 (fun h => h)
        have hbb4 := HG.out.bb.fr hF4 (fun h => h)
        have hsz4 : w.heap.size + 2 ≤ w4.heap.size := Nat.le_trans HG.out.sz hF4.size
        have HF04 := Lib.hid (HG.out.fr.trans' hF4)
        have hgl := (HOK.out i hi).1
        have HG8 := Lib.hid (fun k (hk : k < (groupsTo ks rows i).length) => Nat.le_trans ((HOK.out i hi).2 _ (getD_mem (d := []) hk)).2.1 (show i ≤ 8 by omega))
        clear hps hF4
        generalize groupsTo ks rows i = gs at *
        have HNK := Lib.hid (HNKA.out k hkl2)
        generalize hgm : gs.length = m at *
        have HGM := Lib.hid hgm
        have hown4 := hp4.own
        rw [HGM.out] at hown4
        obtain ⟨og, oc, hov⟩ := row_pos hown4 (by omega)
        subst hov
        have hgk := hp4.each k (by rw [HGM.out]; exact hkl2)
        obtain ⟨valsk, hrowsk⟩ := hgk.rows
        obtain ⟨Ak, ck, hvk'⟩ := row_shape hrowsk.own
        have hcell := (World.ownsRow.cellAt hown4 (k * 2 + 1) (by omega)).trans (pairs_at ps k (by rw [hp4.len, HGM.out]; exact hkl2)).2
        have hfz := hown4.frozenAt (k * 2 + 1)
        rw [hvk'] at hcell
        have hogl := (hown4.lt og rfl).2
        have r0 : w4.cell? ⟨wr.heap.size, 0, none⟩ = some (.slice (some ⟨rg, 0, none⟩) 3 rc) := hrk4.cell 0
        have HCELL := Lib.hid hcell
        have HOWN4 := Lib.hid hown4
        have HP4 := Lib.hid hp4
        have HRK := Lib.hid hrowsk
        have HVK := Lib.hid hvk'
        have HRO := Lib.hid (show w4.ownsRow (w.heap.size + 2) 48 1 (.slice Ak (gs.getD k []).length ck) (gs.getD k []).length valsk by have := hrowsk.own; rw [hvk'] at this; exact this)
        have HNE := Lib.hid (show (Value.slice Ak (gs.getD k []).length ck).ownBlock ≠ some og from fun e => row_row_ne HRO.out hown4 (by decide) e rfl)
        have HNE2 := Lib.hid (show (Value.slice Ak (gs.getD k []).length ck).ownBlock ≠ some wr.heap.size from fun e => HNK.out (by rw [hvk']; exact e))
        have HSF := Lib.hid (fun (S : Nat → Prop) wz (hf : Fr S w4 wz) (hn : ¬ S wr.heap.size) => cell_frS hf hn r0)
        have HNOG := Lib.hid (show wr.heap.size ≠ og from fun e => own_blk_ne hown4 hrk4 (by decide) (by rw [e]; rfl))
        have HTB4 := Lib.hid htb4
        have HBB4 := Lib.hid hbb4
        clear htb4 hbb4 hrk4
        have HCL := Lib.hid (fun wy (hf : Fr (fun _ => False) w4 wy) => cloneI_any rg rc 0 _ wy H3I.out (hek4.fr hf (fun _ _ h => h)))
        have hkk : ((k : Int) < (m : Int)) := by omega
        have hglk := HG8.out k hkl2
        generalize hgkl : (gs.getD k []).length = nk at *
        have HGKL := Lib.hid hgkl
        clear hgkl
        have HKL := Lib.hid hkl2
        clear hgk hrowsk hvk' hown4 hp4 hgm
        go_wp2_with fail
        refine wp_region_noPanic ?_
        refine wp_region_held_drew (S := (fun w' => w'.cell? ⟨wr.heap.size, 0, none⟩ = some (.slice (some ⟨rg, 0, none⟩) 3 rc))) (by kernel_rfl) ?_ (fun hHeld => ?_)
        · try dsimp only
          (first | exact HSF.out _ _ ((Fr.refl (fun _ => False) _).drew) (fun h => h) | exact HSF.out _ _ F5 (fun h => h) | exact HSF.out _ _ (F5.alloc _) (fun h => h) | exact HSF.out _ _ F6 HNE2.out | exact HSF.out _ _ F7 HNE7.out)
        refine wpAnyH_take (i := 0) (oi := _) (v := ?_) (by simp only [List.getElem?_toArray, List.getElem?_cons_zero]; rfl) (by kernel_rfl) (by kernel_rfl) (by kernel_rfl) (fun _ _ _ h => h) (Or.inl ⟨by rfl, ?_⟩) (by assumption) ?_
        rotate_left
        · intro w hSw
          try dsimp only at hSw
          go_simp
          all_goals (with_reducible rfl)
        try simp only [Act.put, List.setIfInBounds_toArray, List.set_cons_zero, List.set_cons_succ]
        refine wpAnyH_take (i := 1) (oi := _) (v := ?_) (by simp only [List.getElem?_toArray, List.getElem?_cons_zero, List.getElem?_cons_succ]; rfl) (by kernel_rfl) (by kernel_rfl) (by kernel_rfl) (fun _ _ _ h => h) (Or.inl ⟨by rfl, ?_⟩) (by assumption) ?_
        rotate_left
        · intro w hSw
          try dsimp only at hSw
          go_simp
          all_goals (with_reducible rfl)
        try simp only [Act.put, List.setIfInBounds_toArray, List.set_cons_zero, List.set_cons_succ]
        refine wpAnyH_take (i := 2) (oi := _) (v := ?_) (by simp only [List.getElem?_toArray, List.getElem?_cons_zero, List.getElem?_cons_succ]; rfl) (by kernel_rfl) (by kernel_rfl) (by kernel_rfl) (fun _ _ _ h => h) (Or.inl ⟨by rfl, ?_⟩) (by assumption) ?_
        rotate_left
        · intro w hSw
          try dsimp only at hSw
          go_simp
          all_goals (with_reducible rfl)
        try simp only [Act.put, List.setIfInBounds_toArray, List.set_cons_zero, List.set_cons_succ]
        refine wpAnyH_take (i := 3) (oi := _) (v := ?_) (by simp only [List.getElem?_toArray, List.getElem?_cons_zero, List.getElem?_cons_succ]; rfl) (by kernel_rfl) (by kernel_rfl) (by kernel_rfl) (fun _ _ _ h => h) (Or.inl ⟨by rfl, ?_⟩) (by assumption) ?_
        rotate_left
        · intro w hSw
          try dsimp only at hSw
          go_simp
          all_goals (with_reducible rfl)
        try simp only [Act.put, List.setIfInBounds_toArray, List.set_cons_zero, List.set_cons_succ]
        refine wpAnyH_take (i := 4) (oi := _) (v := ?_) (by simp only [List.getElem?_toArray, List.getElem?_cons_zero, List.getElem?_cons_succ]; rfl) (by kernel_rfl) (by kernel_rfl) (by kernel_rfl) (fun _ _ _ h => h) (Or.inl ⟨by rfl, ?_⟩) (by assumption) ?_
        rotate_left
        · intro w hSw
          try dsimp only at hSw
          go_simp
          all_goals (with_reducible rfl)
        try simp only [Act.put, List.setIfInBounds_toArray, List.set_cons_zero, List.set_cons_succ]
        refine wpAnyH_take (i := 5) (oi := _) (v := ?_) (by simp only [List.getElem?_toArray, List.getElem?_cons_zero, List.getElem?_cons_succ]; rfl) (by kernel_rfl) (by kernel_rfl) (by kernel_rfl) (fun _ _ _ h => h) (Or.inl ⟨by rfl, ?_⟩) (by assumption) ?_
        rotate_left
        · intro w hSw
          try dsimp only at hSw
          go_simp
          all_goals (with_reducible rfl)
        try simp only [Act.put, List.setIfInBounds_toArray, List.set_cons_zero, List.set_cons_succ]
        refine wpAnyH_take (i := 7) (oi := _) (v := ?_) (by simp only [List.getElem?_toArray, List.getElem?_cons_zero, List.getElem?_cons_succ]; rfl) (by kernel_rfl) (by kernel_rfl) (by kernel_rfl) (fun _ _ _ h => h) (Or.inl ⟨by rfl, ?_⟩) (by assumption) ?_
        rotate_left
        · intro w hSw
          try dsimp only at hSw
          go_simp
          all_goals (with_reducible rfl)
        try simp only [Act.put, List.setIfInBounds_toArray, List.set_cons_zero, List.set_cons_succ]
        refine wpAnyH_ready (rs := [6, 8]) (by kernel_rfl) (by simp) ?_
        refine AllReadyH.cons (o := _) (by simp only [List.getElem?_toArray, List.getElem?_cons_zero, List.getElem?_cons_succ]; rfl) (fun K hK => ?_) ?_
        · skip
          go_simp
          refine hK.out _ _ ?_ (fun hHeld => ?_)
          · try dsimp only
            (first | exact HSF.out _ _ ((Fr.refl (fun _ => False) _).drew) (fun h => h) | exact HSF.out _ _ F5 (fun h => h) | exact HSF.out _ _ (F5.alloc _) (fun h => h) | exact HSF.out _ _ F6 HNE2.out | exact HSF.out _ _ F7 HNE7.out)
          clear hK K
          try simp only [Act.put, List.setIfInBounds_toArray, List.set_cons_zero, List.set_cons_succ]
          refine wpAnyH_ready (rs := [8]) (by kernel_rfl) (by simp) ?_
          refine AllReadyH.cons (o := _) (by simp only [List.getElem?_toArray, List.getElem?_cons_zero, List.getElem?_cons_succ]; rfl) (fun K hK => ?_) ?_
          · skip
            go_simp
            go_at_call 43
            refine (HCL.out _ ((Fr.refl _ _).drew)).mono ?_
            rintro e w5 ⟨A5, c5, rfl, hr5, hf5⟩
            have F5 : Fr (fun _ => False) w4 w5 := ((Fr.refl _ _).drew).trans' hf5
            have c5k := cell_fr F5 HCELL.out
            have h5s := F5.size
            have hog5 : og < w5.heap.size := by omega
            refine hK.out _ _ ?_ (fun hHeld => ?_)
            · try dsimp only
              (first | exact HSF.out _ _ ((Fr.refl (fun _ => False) _).drew) (fun h => h) | exact HSF.out _ _ F5 (fun h => h) | exact HSF.out _ _ (F5.alloc _) (fun h => h) | exact HSF.out _ _ F6 HNE2.out | exact HSF.out _ _ F7 HNE7.out)
            clear hK K
            try simp only [Act.put, List.setIfInBounds_toArray, List.set_cons_zero, List.set_cons_succ]
            refine wpAnyH_ready (rs := [9]) (by kernel_rfl) (by simp) ?_
            refine AllReadyH.cons (o := _) (by simp only [List.getElem?_toArray, List.getElem?_cons_zero, List.getElem?_cons_succ]; rfl) (fun K hK => ?_) ?_
            · skip
              go_simp
              refine hK.out _ _ ?_ (fun hHeld => ?_)
              · try dsimp only
                (first | exact HSF.out _ _ ((Fr.refl (fun _ => False) _).drew) (fun h => h) | exact HSF.out _ _ F5 (fun h => h) | exact HSF.out _ _ (F5.alloc _) (fun h => h) | exact HSF.out _ _ F6 HNE2.out | exact HSF.out _ _ F7 HNE7.out)
              clear hK K
              try simp only [Act.put, List.setIfInBounds_toArray, List.set_cons_zero, List.set_cons_succ]
              refine wpAnyH_ready (rs := [10]) (by kernel_rfl) (by simp) ?_
              refine AllReadyH.cons (o := _) (by simp only [List.getElem?_toArray, List.getElem?_cons_zero, List.getElem?_cons_succ]; rfl) (fun K hK => ?_) ?_
              · skip
                refine step_append_lies _ rfl (.tmp 43) (.tmp 46) 27 (by rfl) (w.heap.size + 2) 48 i48 _ 1 24 Tryz.underlying27 hi48 hz480 hz481 hz482 rfl (by decide) _ nk valsk (by rfl) ((ownsRow_fr HRO.out F5 (fun _ _ h => h)).alloc _) ⟨w5.heap.size, 0, none⟩ 1 1 [.slice (some ⟨A5, 0, none⟩) 3 c5] (by rfl) rfl (World.news_of_block (heap_alloc_new w5 _)) (by intro u hu; rw [List.mem_singleton] at hu; rw [hu]; rfl) (by omega) (by unfold maxLen; omega) (by omega) (by simp; omega) (w5.heap.size + 1) (by simp) ?_
                intro g6 c6 w6 hown6 hgr6 hat6 hlt6
                have F6 : Fr (fun j => (Value.slice Ak nk ck).ownBlock = some j) w4 w6 := ((F5.mono (fun _ _ h => h.elim)).alloc _).trans (Fr.of_grown hgr6) (fun _ _ h => h)
                have hb6 := ownsRow_fr HOWN4.out F6 (fun j hj h => HNE.out (by rw [h]; exact hj.symm ▸ rfl))
                have c6k : w6.cell? ⟨og, k * 2 + 1, none⟩ = some (.slice Ak nk ck) := (cell_frS F6 HNE.out HCELL.out)
                have f6k := hb6.frozenAt (k * 2 + 1)
                have h6s := F6.size
                refine hK.out _ _ ?_ (fun hHeld => ?_)
                · try dsimp only
                  (first | exact HSF.out _ _ ((Fr.refl (fun _ => False) _).drew) (fun h => h) | exact HSF.out _ _ F5 (fun h => h) | exact HSF.out _ _ (F5.alloc _) (fun h => h) | exact HSF.out _ _ F6 HNE2.out | exact HSF.out _ _ F7 HNE7.out)
                clear hK K
                try simp only [Act.put, List.setIfInBounds_toArray, List.set_cons_zero, List.set_cons_succ]
                refine wpAnyH_take (i := 11) (oi := _) (v := ?_) (by simp only [List.getElem?_toArray, List.getElem?_cons_zero, List.getElem?_cons_succ]; rfl) (by kernel_rfl) (by kernel_rfl) (by kernel_rfl) (fun _ _ _ h => h) (Or.inl ⟨by rfl, ?_⟩) (by assumption) ?_
                rotate_left
                · intro w hSw
                  try dsimp only at hSw
                  go_simp
                  all_goals (with_reducible rfl)
                try simp only [Act.put, List.setIfInBounds_toArray, List.set_cons_zero, List.set_cons_succ]
                refine wpAnyH_take (i := 12) (oi := _) (v := ?_) (by simp only [List.getElem?_toArray, List.getElem?_cons_zero, List.getElem?_cons_succ]; rfl) (by kernel_rfl) (by kernel_rfl) (by kernel_rfl) (fun _ _ _ h => h) (Or.inl ⟨by rfl, ?_⟩) (by assumption) ?_
                rotate_left
                · intro w hSw
                  try dsimp only at hSw
                  go_simp
                  all_goals (with_reducible rfl)
                try simp only [Act.put, List.setIfInBounds_toArray, List.set_cons_zero, List.set_cons_succ]
                refine wpAnyH_ready (rs := [13]) (by kernel_rfl) (by simp) ?_
                refine AllReadyH.cons (o := _) (by simp only [List.getElem?_toArray, List.getElem?_cons_zero, List.getElem?_cons_succ]; rfl) (fun K hK => ?_) ?_
                · skip
                  go_simp
                  have F7 : Fr (fun j => (Value.slice Ak nk ck).ownBlock = some j ∨ j = og) w4 (w6.setCell ⟨og, k * 2 + 1, none⟩ (.slice (some ⟨g6, 0, none⟩) (nk + 1) c6)) := (F6.mono (fun _ _ h => .inl h)).setCell ⟨og, k * 2 + 1, none⟩ (fun _ => .inr rfl) _
                  have HNE7 := Lib.hid (show ¬ ((Value.slice Ak nk ck).ownBlock = some wr.heap.size ∨ wr.heap.size = og) from fun h => h.elim HNE2.out HNOG.out)
                  refine hK.out _ _ ?_ (fun hHeld => ?_)
                  · try dsimp only
                    (first | exact HSF.out _ _ ((Fr.refl (fun _ => False) _).drew) (fun h => h) | exact HSF.out _ _ F5 (fun h => h) | exact HSF.out _ _ (F5.alloc _) (fun h => h) | exact HSF.out _ _ F6 HNE2.out | exact HSF.out _ _ F7 HNE7.out)
                  clear hK K
                  try simp only [Act.put, List.setIfInBounds_toArray, List.set_cons_zero, List.set_cons_succ]
                  refine wpAnyH_done (by kernel_rfl) ?_ _
                  refine NoPanic.normal ?_
                  have STEP := Lib.hid (GInv.step HF04.out HTB4.out HBB4.out hsz4 HP4.out (by first | exact HKL.out | (rw [HGM.out]; exact HKL.out)) HRK.out HVK.out HGKL.out HXI.out F5 hr5 _ hown6 hgr6 hat6)
                  clear F5 F6 F7 hr5 hf5 hown6 hgr6 hat6 hb6 c6k f6k c5k
                  go_wp2_with fail
                  go_roundw
                  case rel => exact ⟨i + 1, by go_num, hlt, STEP.out⟩
                  case measure => simp [intOf]; omega
                exact AllReadyH.nil
              exact AllReadyH.nil
            exact AllReadyH.nil
          exact AllReadyH.nil
        refine AllReadyH.cons (o := _) (by simp only [List.getElem?_toArray, List.getElem?_cons_zero, List.getElem?_cons_succ]; rfl) (fun K hK => ?_) ?_
        · skip
          go_simp
          go_at_call 43
          refine (HCL.out _ ((Fr.refl _ _).drew)).mono ?_
          rintro e w5 ⟨A5, c5, rfl, hr5, hf5⟩
          have F5 : Fr (fun _ => False) w4 w5 := ((Fr.refl _ _).drew).trans' hf5
          have c5k := cell_fr F5 HCELL.out
          have h5s := F5.size
          have hog5 : og < w5.heap.size := by omega
          refine hK.out _ _ ?_ (fun hHeld => ?_)
          · try dsimp only
            (first | exact HSF.out _ _ ((Fr.refl (fun _ => False) _).drew) (fun h => h) | exact HSF.out _ _ F5 (fun h => h) | exact HSF.out _ _ (F5.alloc _) (fun h => h) | exact HSF.out _ _ F6 HNE2.out | exact HSF.out _ _ F7 HNE7.out)
          clear hK K
          try simp only [Act.put, List.setIfInBounds_toArray, List.set_cons_zero, List.set_cons_succ]
          refine wpAnyH_ready (rs := [6, 9]) (by kernel_rfl) (by simp) ?_
          refine AllReadyH.cons (o := _) (by simp only [List.getElem?_toArray, List.getElem?_cons_zero, List.getElem?_cons_succ]; rfl) (fun K hK => ?_) ?_
          · skip
            go_simp
            refine hK.out _ _ ?_ (fun hHeld => ?_)
            · try dsimp only
              (first | exact HSF.out _ _ ((Fr.refl (fun _ => False) _).drew) (fun h => h) | exact HSF.out _ _ F5 (fun h => h) | exact HSF.out _ _ (F5.alloc _) (fun h => h) | exact HSF.out _ _ F6 HNE2.out | exact HSF.out _ _ F7 HNE7.out)
            clear hK K
            try simp only [Act.put, List.setIfInBounds_toArray, List.set_cons_zero, List.set_cons_succ]
            refine wpAnyH_ready (rs := [9]) (by kernel_rfl) (by simp) ?_
            refine AllReadyH.cons (o := _) (by simp only [List.getElem?_toArray, List.getElem?_cons_zero, List.getElem?_cons_succ]; rfl) (fun K hK => ?_) ?_
            · skip
              go_simp
              refine hK.out _ _ ?_ (fun hHeld => ?_)
              · try dsimp only
                (first | exact HSF.out _ _ ((Fr.refl (fun _ => False) _).drew) (fun h => h) | exact HSF.out _ _ F5 (fun h => h) | exact HSF.out _ _ (F5.alloc _) (fun h => h) | exact HSF.out _ _ F6 HNE2.out | exact HSF.out _ _ F7 HNE7.out)
              clear hK K
              try simp only [Act.put, List.setIfInBounds_toArray, List.set_cons_zero, List.set_cons_succ]
              refine wpAnyH_ready (rs := [10]) (by kernel_rfl) (by simp) ?_
              refine AllReadyH.cons (o := _) (by simp only [List.getElem?_toArray, List.getElem?_cons_zero, List.getElem?_cons_succ]; rfl) (fun K hK => ?_) ?_
              · skip
                refine step_append_lies _ rfl (.tmp 43) (.tmp 46) 27 (by rfl) (w.heap.size + 2) 48 i48 _ 1 24 Tryz.underlying27 hi48 hz480 hz481 hz482 rfl (by decide) _ nk valsk (by rfl) ((ownsRow_fr HRO.out F5 (fun _ _ h => h)).alloc _) ⟨w5.heap.size, 0, none⟩ 1 1 [.slice (some ⟨A5, 0, none⟩) 3 c5] (by rfl) rfl (World.news_of_block (heap_alloc_new w5 _)) (by intro u hu; rw [List.mem_singleton] at hu; rw [hu]; rfl) (by omega) (by unfold maxLen; omega) (by omega) (by simp; omega) (w5.heap.size + 1) (by simp) ?_
                intro g6 c6 w6 hown6 hgr6 hat6 hlt6
                have F6 : Fr (fun j => (Value.slice Ak nk ck).ownBlock = some j) w4 w6 := ((F5.mono (fun _ _ h => h.elim)).alloc _).trans (Fr.of_grown hgr6) (fun _ _ h => h)
                have hb6 := ownsRow_fr HOWN4.out F6 (fun j hj h => HNE.out (by rw [h]; exact hj.symm ▸ rfl))
                have c6k : w6.cell? ⟨og, k * 2 + 1, none⟩ = some (.slice Ak nk ck) := (cell_frS F6 HNE.out HCELL.out)
                have f6k := hb6.frozenAt (k * 2 + 1)
                have h6s := F6.size
                refine hK.out _ _ ?_ (fun hHeld => ?_)
                · try dsimp only
                  (first | exact HSF.out _ _ ((Fr.refl (fun _ => False) _).drew) (fun h => h) | exact HSF.out _ _ F5 (fun h => h) | exact HSF.out _ _ (F5.alloc _) (fun h => h) | exact HSF.out _ _ F6 HNE2.out | exact HSF.out _ _ F7 HNE7.out)
                clear hK K
                try simp only [Act.put, List.setIfInBounds_toArray, List.set_cons_zero, List.set_cons_succ]
                refine wpAnyH_take (i := 11) (oi := _) (v := ?_) (by simp only [List.getElem?_toArray, List.getElem?_cons_zero, List.getElem?_cons_succ]; rfl) (by kernel_rfl) (by kernel_rfl) (by kernel_rfl) (fun _ _ _ h => h) (Or.inl ⟨by rfl, ?_⟩) (by assumption) ?_
                rotate_left
                · intro w hSw
                  try dsimp only at hSw
                  go_simp
                  all_goals (with_reducible rfl)
                try simp only [Act.put, List.setIfInBounds_toArray, List.set_cons_zero, List.set_cons_succ]
                refine wpAnyH_take (i := 12) (oi := _) (v := ?_) (by simp only [List.getElem?_toArray, List.getElem?_cons_zero, List.getElem?_cons_succ]; rfl) (by kernel_rfl) (by kernel_rfl) (by kernel_rfl) (fun _ _ _ h => h) (Or.inl ⟨by rfl, ?_⟩) (by assumption) ?_
                rotate_left
                · intro w hSw
                  try dsimp only at hSw
                  go_simp
                  all_goals (with_reducible rfl)
                try simp only [Act.put, List.setIfInBounds_toArray, List.set_cons_zero, List.set_cons_succ]
                refine wpAnyH_ready (rs := [13]) (by kernel_rfl) (by simp) ?_
                refine AllReadyH.cons (o := _) (by simp only [List.getElem?_toArray, List.getElem?_cons_zero, List.getElem?_cons_succ]; rfl) (fun K hK => ?_) ?_
                · skip
                  go_simp
                  have F7 : Fr (fun j => (Value.slice Ak nk ck).ownBlock = some j ∨ j = og) w4 (w6.setCell ⟨og, k * 2 + 1, none⟩ (.slice (some ⟨g6, 0, none⟩) (nk + 1) c6)) := (F6.mono (fun _ _ h => .inl h)).setCell ⟨og, k * 2 + 1, none⟩ (fun _ => .inr rfl) _
                  have HNE7 := Lib.hid (show ¬ ((Value.slice Ak nk ck).ownBlock = some wr.heap.size ∨ wr.heap.size = og) from fun h => h.elim HNE2.out HNOG.out)
                  refine hK.out _ _ ?_ (fun hHeld => ?_)
                  · try dsimp only
                    (first | exact HSF.out _ _ ((Fr.refl (fun _ => False) _).drew) (fun h => h) | exact HSF.out _ _ F5 (fun h => h) | exact HSF.out _ _ (F5.alloc _) (fun h => h) | exact HSF.out _ _ F6 HNE2.out | exact HSF.out _ _ F7 HNE7.out)
                  clear hK K
                  try simp only [Act.put, List.setIfInBounds_toArray, List.set_cons_zero, List.set_cons_succ]
                  refine wpAnyH_done (by kernel_rfl) ?_ _
                  refine NoPanic.normal ?_
                  have STEP := Lib.hid (GInv.step HF04.out HTB4.out HBB4.out hsz4 HP4.out (by first | exact HKL.out | (rw [HGM.out]; exact HKL.out)) HRK.out HVK.out HGKL.out HXI.out F5 hr5 _ hown6 hgr6 hat6)
                  clear F5 F6 F7 hr5 hf5 hown6 hgr6 hat6 hb6 c6k f6k c5k
                  go_wp2_with fail
                  go_roundw
                  case rel => exact ⟨i + 1, by go_num, hlt, STEP.out⟩
                  case measure => simp [intOf]; omega
                exact AllReadyH.nil
              exact AllReadyH.nil
            exact AllReadyH.nil
          refine AllReadyH.cons (o := _) (by simp only [List.getElem?_toArray, List.getElem?_cons_zero, List.getElem?_cons_succ]; rfl) (fun K hK => ?_) ?_
          · skip
            go_simp
            refine hK.out _ _ ?_ (fun hHeld => ?_)
            · try dsimp only
              (first | exact HSF.out _ _ ((Fr.refl (fun _ => False) _).drew) (fun h => h) | exact HSF.out _ _ F5 (fun h => h) | exact HSF.out _ _ (F5.alloc _) (fun h => h) | exact HSF.out _ _ F6 HNE2.out | exact HSF.out _ _ F7 HNE7.out)
            clear hK K
            try simp only [Act.put, List.setIfInBounds_toArray, List.set_cons_zero, List.set_cons_succ]
            refine wpAnyH_ready (rs := [6]) (by kernel_rfl) (by simp) ?_
            refine AllReadyH.cons (o := _) (by simp only [List.getElem?_toArray, List.getElem?_cons_zero, List.getElem?_cons_succ]; rfl) (fun K hK => ?_) ?_
            · skip
              go_simp
              refine hK.out _ _ ?_ (fun hHeld => ?_)
              · try dsimp only
                (first | exact HSF.out _ _ ((Fr.refl (fun _ => False) _).drew) (fun h => h) | exact HSF.out _ _ F5 (fun h => h) | exact HSF.out _ _ (F5.alloc _) (fun h => h) | exact HSF.out _ _ F6 HNE2.out | exact HSF.out _ _ F7 HNE7.out)
              clear hK K
              try simp only [Act.put, List.setIfInBounds_toArray, List.set_cons_zero, List.set_cons_succ]
              refine wpAnyH_ready (rs := [10]) (by kernel_rfl) (by simp) ?_
              refine AllReadyH.cons (o := _) (by simp only [List.getElem?_toArray, List.getElem?_cons_zero, List.getElem?_cons_succ]; rfl) (fun K hK => ?_) ?_
              · skip
                refine step_append_lies _ rfl (.tmp 43) (.tmp 46) 27 (by rfl) (w.heap.size + 2) 48 i48 _ 1 24 Tryz.underlying27 hi48 hz480 hz481 hz482 rfl (by decide) _ nk valsk (by rfl) ((ownsRow_fr HRO.out F5 (fun _ _ h => h)).alloc _) ⟨w5.heap.size, 0, none⟩ 1 1 [.slice (some ⟨A5, 0, none⟩) 3 c5] (by rfl) rfl (World.news_of_block (heap_alloc_new w5 _)) (by intro u hu; rw [List.mem_singleton] at hu; rw [hu]; rfl) (by omega) (by unfold maxLen; omega) (by omega) (by simp; omega) (w5.heap.size + 1) (by simp) ?_
                intro g6 c6 w6 hown6 hgr6 hat6 hlt6
                have F6 : Fr (fun j => (Value.slice Ak nk ck).ownBlock = some j) w4 w6 := ((F5.mono (fun _ _ h => h.elim)).alloc _).trans (Fr.of_grown hgr6) (fun _ _ h => h)
                have hb6 := ownsRow_fr HOWN4.out F6 (fun j hj h => HNE.out (by rw [h]; exact hj.symm ▸ rfl))
                have c6k : w6.cell? ⟨og, k * 2 + 1, none⟩ = some (.slice Ak nk ck) := (cell_frS F6 HNE.out HCELL.out)
                have f6k := hb6.frozenAt (k * 2 + 1)
                have h6s := F6.size
                refine hK.out _ _ ?_ (fun hHeld => ?_)
                · try dsimp only
                  (first | exact HSF.out _ _ ((Fr.refl (fun _ => False) _).drew) (fun h => h) | exact HSF.out _ _ F5 (fun h => h) | exact HSF.out _ _ (F5.alloc _) (fun h => h) | exact HSF.out _ _ F6 HNE2.out | exact HSF.out _ _ F7 HNE7.out)
                clear hK K
                try simp only [Act.put, List.setIfInBounds_toArray, List.set_cons_zero, List.set_cons_succ]
                refine wpAnyH_take (i := 11) (oi := _) (v := ?_) (by simp only [List.getElem?_toArray, List.getElem?_cons_zero, List.getElem?_cons_succ]; rfl) (by kernel_rfl) (by kernel_rfl) (by kernel_rfl) (fun _ _ _ h => h) (Or.inl ⟨by rfl, ?_⟩) (by assumption) ?_
                rotate_left
                · intro w hSw
                  try dsimp only at hSw
                  go_simp
                  all_goals (with_reducible rfl)
                try simp only [Act.put, List.setIfInBounds_toArray, List.set_cons_zero, List.set_cons_succ]
                refine wpAnyH_take (i := 12) (oi := _) (v := ?_) (by simp only [List.getElem?_toArray, List.getElem?_cons_zero, List.getElem?_cons_succ]; rfl) (by kernel_rfl) (by kernel_rfl) (by kernel_rfl) (fun _ _ _ h => h) (Or.inl ⟨by rfl, ?_⟩) (by assumption) ?_
                rotate_left
                · intro w hSw
                  try dsimp only at hSw
                  go_simp
                  all_goals (with_reducible rfl)
                try simp only [Act.put, List.setIfInBounds_toArray, List.set_cons_zero, List.set_cons_succ]
                refine wpAnyH_ready (rs := [13]) (by kernel_rfl) (by simp) ?_
                refine AllReadyH.cons (o := _) (by simp only [List.getElem?_toArray, List.getElem?_cons_zero, List.getElem?_cons_succ]; rfl) (fun K hK => ?_) ?_
                · skip
                  go_simp
                  have F7 : Fr (fun j => (Value.slice Ak nk ck).ownBlock = some j ∨ j = og) w4 (w6.setCell ⟨og, k * 2 + 1, none⟩ (.slice (some ⟨g6, 0, none⟩) (nk + 1) c6)) := (F6.mono (fun _ _ h => .inl h)).setCell ⟨og, k * 2 + 1, none⟩ (fun _ => .inr rfl) _
                  have HNE7 := Lib.hid (show ¬ ((Value.slice Ak nk ck).ownBlock = some wr.heap.size ∨ wr.heap.size = og) from fun h => h.elim HNE2.out HNOG.out)
                  refine hK.out _ _ ?_ (fun hHeld => ?_)
                  · try dsimp only
                    (first | exact HSF.out _ _ ((Fr.refl (fun _ => False) _).drew) (fun h => h) | exact HSF.out _ _ F5 (fun h => h) | exact HSF.out _ _ (F5.alloc _) (fun h => h) | exact HSF.out _ _ F6 HNE2.out | exact HSF.out _ _ F7 HNE7.out)
                  clear hK K
                  try simp only [Act.put, List.setIfInBounds_toArray, List.set_cons_zero, List.set_cons_succ]
                  refine wpAnyH_done (by kernel_rfl) ?_ _
                  refine NoPanic.normal ?_
                  have STEP := Lib.hid (GInv.step HF04.out HTB4.out HBB4.out hsz4 HP4.out (by first | exact HKL.out | (rw [HGM.out]; exact HKL.out)) HRK.out HVK.out HGKL.out HXI.out F5 hr5 _ hown6 hgr6 hat6)
                  clear F5 F6 F7 hr5 hf5 hown6 hgr6 hat6 hb6 c6k f6k c5k
                  go_wp2_with fail
                  go_roundw
                  case rel => exact ⟨i + 1, by go_num, hlt, STEP.out⟩
                  case measure => simp [intOf]; omega
                exact AllReadyH.nil
              exact AllReadyH.nil
            exact AllReadyH.nil
          exact AllReadyH.nil
        exact AllReadyH.nil
    · have hlt' : decide (i < rows.length) = false := by simpa using hlt
      have hin : i = rows.length := by omega
      subst hin
      go_wp2_with fail
      go_ret
      obtain ⟨ps, hps⟩ := HG.out.groups
      exact ⟨_, ps, rfl, hps, HG.out.fr⟩

end Go.Proofs.YtflhmieeidnpgaaGreatDoor
