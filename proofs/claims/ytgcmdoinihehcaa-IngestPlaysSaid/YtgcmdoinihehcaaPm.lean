/- The document's buffer: Instant and Mark walked. -/
import Derived.Test.YtgcmdoinihehcaaWk
import Derived.Test.YtgcmdoinihehcaaAc
import Derived.Test.YtgcmdoinihehcaaPq
import Derived.Test.YtgcmdoinihehcaaRw
import Derived.Test.YtgcmdoinihehcaaAs
import Derived.WalkKit
import Derived.WalkLawsBesides
import Derived.WalkSpells
import Derived.Deep.QuietTactic
import Derived.BigRegion
import Derived.BigQuiet
import Derived.Lib.Hide
import Derived.Outline
import Derived.Deep.AppendLies
import Derived.Deep.RegionLaw
import Derived.Deep.RegionWith
import Derived.Deep.RegionHeld3
import Derived.Deep.LoopGhost
import Derived.Deep.DeepFit
import Derived.Laws.ResultCell
import Derived.Deep.MidRow
import Derived.StillTailTactics
import Derived.OpenShut
namespace Go.Proofs.Ytgcmdoinihehcaa
set_option linter.unusedVariables false
open Go.RowKit Go

theorem Fr.cell {S : Nat → Prop} {w w' : World} (h : Fr S w w') {a : Addr} (ha : a.block < w.heap.size) (hn : ¬ S a.block) : w'.cell? a = w.cell? a := World.cell?_of_block (h.block a.block ha hn)

abbrev bCells (lat room : Int) (vw vs vc : Value) (num late : Int) (closed : Bool) : Array Value := #[.int .i64 lat, .int .i64 room, vw, vs, vc, .int .i64 num, .int .i64 late, .bool closed]

/-- Is it an instant? By the document. -/
theorem rinst_any (t : Int) (w : World) : Calls Try.prog 29 #[.int .i64 t] w fun e w' => e = .returned (.bool (inst t)) ∧ w = w' := by
  by_cases h : -1152921504606846976 ≤ t
  · have fin := Lib.hid (show inst t = decide (t ≤ 1152921504606846976) by simp [inst, h])
    go_enter Try.func29, Try.ntmps29
    go_wp2
    go_ret
    exact ⟨by rw [fin.out]; rfl, rfl⟩
  · have fin := Lib.hid (show inst t = false by simp [inst, h])
    go_enter Try.func29, Try.ntmps29
    go_wp2
    go_ret
    exact ⟨by rw [fin.out]; rfl, rfl⟩

def ints (l : List Int) : List Value := l.map (Value.int .i64)
theorem ints_one (l : List Int) : ∀ u ∈ ints l, u.oneCell' = true := by
  intro u hu
  unfold ints at hu
  rw [List.mem_map] at hu
  obtain ⟨x, _, rfl⟩ := hu
  rfl
theorem ints_append (a b : List Int) : ints a ++ ints b = ints (a ++ b) := by simp [ints]
theorem ints_get (l : List Int) {k : Nat} (h : k < l.length) : (ints l)[k]? = some (.int .i64 (l.getD k 0)) := by
  simp [ints, List.getD_eq_getElem?_getD, h]
theorem markL_take (lat : Int) (l : List Int) {k : Nat} (h : k < l.length) : markL lat (l.take (k + 1)) = markStep lat (markL lat (l.take k)) (l.getD k 0) := by
  rw [← markL_snoc, List.take_succ_eq_append_getElem h, List.getD_eq_getElem?_getD, List.getElem?_eq_getElem h]
  rfl

set_option maxRecDepth 100000 in
theorem rmark_any (lat room : Int) (vw vs vc : Value) (num late : Int) (closed : Bool) (n0 : Nat) (ls lc : List Int) (w : World) (hn : n0 ≤ w.heap.size) (hs : w.ownsRow n0 3 1 vs ls.length (ints ls)) (hc : w.ownsRow n0 3 1 vc lc.length (ints lc))
    (hls : ls.length ≤ 1000) (hlc : lc.length ≤ 1000) (h0 : 0 ≤ lat) (h1 : lat ≤ 1152921504606846976) (hin : ∀ x ∈ ls ++ lc, inst x = true) :
    Calls Try.prog 28 #[.agg (bCells lat room vw vs vc num late closed)] w fun e w' => e = .returned (.tuple #[.int .i64 (markL lat (ls ++ lc)).1, .bool (markL lat (ls ++ lc)).2]) ∧ Fr (fun _ => False) w w' := by
  obtain ⟨i3, hi3, hz30, hz31, hz32⟩ := info_parts info_int
  go_enter Try.func28, Try.ntmps28
  go_wp2_with fail
  have cs : (w.alloc (.cells (bCells lat room vw vs vc num late closed) 54)).cell? ⟨w.heap.size, 3, none⟩ = some vs := by simp
  have cc : (w.alloc (.cells (bCells lat room vw vs vc num late closed) 54)).cell? ⟨w.heap.size, 4, none⟩ = some vc := by simp
  have cl : (w.alloc (.cells (bCells lat room vw vs vc num late closed) 54)).cell? ⟨w.heap.size, 0, none⟩ = some (.int .i64 lat) := by simp
  have hs1 := hs.alloc (.cells (bCells lat room vw vs vc num late closed) 54)
  have hc1 := hc.alloc (.cells (bCells lat room vw vs vc num late closed) 54)
  have hz : (w.alloc (.cells (bCells lat room vw vs vc num late closed) 54)).heap.size = w.heap.size + 1 := by simp
  have hf1 : Fr (fun _ => False) w (w.alloc (.cells (bCells lat room vw vs vc num late closed) 54)) := (Fr.refl _ _).alloc _
  generalize w.alloc (.cells (bCells lat room vw vs vc num late closed) 54) = w1 at *
  have hlit := World.ownsRow_lit (base := w.heap.size + 1) (size := 1) (e := 3) w1.drew #[] 0 (by show _ ≤ w1.heap.size; omega) (by decide) rfl
  have HF1 := Lib.hid hf1
  have HZ := Lib.hid hz
  have hz1 : w.heap.size < w1.heap.size := by omega
  have HIN := Lib.hid hin
  clear hf1 hz hin
  have hc0 := hc1
  have hs2 := ownsRow_fr hs1 (((Fr.refl (fun _ => False) w1).drew).alloc (.cells #[] 3)) (fun _ _ h => h)
  have hb1 : w.heap.size + 1 ≤ w1.heap.size := by omega
  go_region_held3 (fun w' => w'.cell? ⟨w.heap.size, 3, none⟩ = some vs ∧ w'.cell? ⟨w.heap.size, 4, none⟩ = some vc)
    (first | exact S2 | exact S1 | go_keep)
    (first
      | (refine step_append_rows rfl _ _ 39 (by rfl) (w.heap.size + 1) 3 i3 _ 1 8 Try.underlying39 hi3 hz30 hz31 hz32 rfl (by decide) _ 0 [] (by rfl) hlit n0 vs ls.length (ints ls) (by rfl) hs2 (ints_one ls) (by unfold maxLen; omega) (by omega) (by simp; omega) ?_; intro v1 w2 hown1 hgr1 hat1; have F1 : Fr (fun j => w.heap.size + 1 ≤ j) w1 w2 := (((Fr.refl _ w1).alloc _).drew).trans (Fr.of_grown hgr1) (fun i _ e => by (have e2 : w1.heap.size = i := by injection e); omega); have hsz2 := F1.size; have S1 : w2.cell? ⟨w.heap.size, 3, none⟩ = some vs ∧ w2.cell? ⟨w.heap.size, 4, none⟩ = some vc := ⟨(F1.cell hz1 (by show ¬ _ ≤ w.heap.size; omega)).trans cs, (F1.cell hz1 (by show ¬ _ ≤ w.heap.size; omega)).trans cc⟩)
      | (refine step_append_rows rfl _ _ 39 (by rfl) (w.heap.size + 1) 3 i3 _ 1 8 Try.underlying39 hi3 hz30 hz31 hz32 rfl (by decide) v1 _ _ (by rfl) hown1 n0 vc lc.length (ints lc) (by rfl) (ownsRow_fr hc0 F1 (fun j hj e => by (have := (World.ownsRow.lt hc j hj).2); omega)) (ints_one lc) (by unfold maxLen; omega) (by omega) (by omega) ?_; intro v2 w3 hown2 hgr2 hat2; have F2 : Fr (fun j => w.heap.size + 1 ≤ j) w1 w3 := F1.trans (Fr.of_grown hgr2) (fun i _ e => (World.ownsRow.lt hown1 i e).1); have S2 : w3.cell? ⟨w.heap.size, 3, none⟩ = some vs ∧ w3.cell? ⟨w.heap.size, 4, none⟩ = some vc := ⟨(F2.cell hz1 (by show ¬ _ ≤ w.heap.size; omega)).trans cs, (F2.cell hz1 (by show ¬ _ ≤ w.heap.size; omega)).trans cc⟩))
  have hl := ints_append ls lc
  have hll : ls.length + lc.length = (ls ++ lc).length := by simp
  rw [List.nil_append, hl, Nat.zero_add, hll] at hown2
  have cl3 := (F2.cell (a := ⟨w.heap.size, 0, none⟩) hz1 (by show ¬ _ ≤ w.heap.size; omega)).trans cl
  have F3 := F2
  have hlen : (ls ++ lc).length ≤ 2000 := by simp; omega
  clear hs hc hs1 hc0 hs2 hlit cs cc cl hown1 hgr1 hat1 F1 S1 hgr2 hat2 S2 F2 hl hll hls hlc hb1
  obtain ⟨l, hl9⟩ : ∃ l, l = ls ++ lc := ⟨_, rfl⟩
  rw [← hl9] at hown2 hlen HIN
  have HL := Lib.hid hl9
  clear hl9
  obtain ⟨A, c, hv⟩ := row_shape hown2
  subst hv
  obtain ⟨n, hn9⟩ : ∃ n, n = l.length := ⟨_, rfl⟩
  have hsz3 := F3.size
  rw [← hn9] at hown2 hlen ⊢
  have HN := Lib.hid hn9
  clear hn9
  go_wp2_with fail
  go_loopw [17, 4, 5] (fun iv mv kv wr => ∃ (k : Nat), iv = .int .i64 (k : Int) ∧ k ≤ n ∧ mv = .int .i64 (markL lat (l.take k)).1 ∧ kv = .bool (markL lat (l.take k)).2 ∧ Fr (fun _ => False) w3 wr) (fun iv _ _ _ => n - (intOf iv).toNat)
  case atStart => exact ⟨0, rfl, Nat.zero_le _, rfl, rfl, Fr.refl _ _⟩
  case round =>
    obtain ⟨k, rfl, hk, rfl, rfl, hfr⟩ := hrel
    by_cases hlt : k < n
    · have hstep := markL_take lat l (k := k) (by rw [← HN.out]; exact hlt)
      have hcell : wr.cell? ⟨w.heap.size, 0, none⟩ = some (.int .i64 lat) := (hfr.cell (by show w.heap.size < _; omega) (fun h => h)).trans cl3
      obtain ⟨g, hg, -, hgl, hgc⟩ := row_form hown2 (by omega)
      subst hg
      have hel : wr.cell? ⟨g, k, none⟩ = some (.int .i64 (l.getD k 0)) := by
        rw [hfr.cell hgl (fun h => h), World.ownsRow.cellAt hown2 k (by omega)]
        exact ints_get l (by rw [← HN.out]; exact hlt)
      have hx := HIN.out (l.getD k 0) (by rw [List.getD_eq_getElem?_getD, List.getElem?_eq_getElem (by rw [← HN.out]; exact hlt)]; simp)
      have hx2 := inst_bd hx
      obtain ⟨hx3, hx4⟩ := hx2
      clear hx
      generalize l.getD k 0 = x at *
      unfold markStep at hstep
      generalize markL lat (l.take k) = p at *
      obtain ⟨m, ok⟩ := p
      simp only at hstep
      have hlt' : (k : Int) < (n : Int) := by omega
      have hkn : decide (n ≤ k) = false := decide_eq_false (by omega)
      cases ok with
      | false =>
        rw [if_pos (.inl rfl)] at hstep
        have HS := Lib.hid hstep
        clear hstep
        go_wp2_with fail
        go_big_quiet (fail)
        go_wp2_with fail
        go_big_quiet (fail)
        go_wp2_with fail
        go_roundw
        case rel => exact ⟨k + 1, by go_num, by omega, by rw [HS.out], by rw [HS.out], by first | exact hfr | exact hfr.drewN _⟩
        case measure => simp [intOf]; omega
      | true =>
        by_cases hm : m < x - lat
        · rw [if_pos (.inr hm)] at hstep
          have HS := Lib.hid hstep
          clear hstep
          have hd : decide (m < x - lat) = true := decide_eq_true hm
          go_wp2_with fail
          go_big_quiet (fail)
          go_wp2_with fail
          go_big_quiet (fail)
          go_wp2_with fail
          go_roundw
          case rel => exact ⟨k + 1, by go_num, by omega, by rw [HS.out], by rw [HS.out], by first | exact hfr | exact hfr.drewN _⟩
          case measure => simp [intOf]; omega
        · rw [if_neg (fun h => by (rcases h with h | h); (exact absurd h (by simp)); (exact hm h))] at hstep
          have HS := Lib.hid hstep
          clear hstep
          have hd : decide (m < x - lat) = false := decide_eq_false hm
          go_wp2_with fail
          go_big_quiet (fail)
          go_wp2_with fail
          go_roundw
          case rel => exact ⟨k + 1, by go_num, by omega, by rw [HS.out], by rw [HS.out], by first | exact hfr | exact hfr.drewN _⟩
          case measure => simp [intOf]; omega
    · have hkn : k = n := by omega
      subst hkn
      have hge : (k : Int) ≤ (k : Int) := Int.le_refl _
      have ht : l.take k = l := by rw [HN.out]; exact List.take_length
      have HT := Lib.hid ht
      clear ht
      go_wp2_with fail
      go_ret2
      refine ⟨by rw [HT.out, HL.out]; rfl, ?_⟩
      exact HF1.out.trans (F3.trans hfr fun _ _ h => h.elim) fun i hi e => by omega

end Go.Proofs.Ytgcmdoinihehcaa
