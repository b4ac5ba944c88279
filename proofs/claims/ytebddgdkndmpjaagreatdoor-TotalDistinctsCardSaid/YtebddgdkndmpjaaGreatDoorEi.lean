/- Distinct, Minus, Same: walked. -/
import Derived.Test.YtebddgdkndmpjaaGreatDoorEe
import Derived.Test.YtebddgdkndmpjaaGreatDoorEf
import Derived.Test.YtebddgdkndmpjaaGreatDoorDe
import Derived.Deep.CutBlock
import Derived.Deep.RegionLawGrows
import Derived.Deep.Cut
import Derived.Deep.CutRange
import Derived.WalkKit
import Derived.WalkLawsBesides
import Derived.WalkSpells
import Derived.Deep.QuietTactic
import Derived.BigRegion
import Derived.BigQuiet
import Derived.Lib.Hide
import Derived.Outline
import Derived.Deep.AppendLies
import Derived.Deep.RegionLaw
import Derived.Deep.RegionWith
import Derived.Deep.RegionHeld3
import Derived.Deep.LoopGhost
import Derived.Deep.DeepFit
import Derived.Laws.ResultCell
import Derived.Laws.RangeAny
import Derived.Deep.MidRow
import Derived.StillTailTactics
import Derived.OpenShut
namespace Go.Proofs.YtebddgdkndmpjaaGreatDoor
set_option linter.unusedVariables false
open Go.RowKit Go

/-- Is a name among some? -/
def hasN (l : List (List Int)) (s : ByteArray) : Bool := l.any fun x => decide (nameB x = s)
theorem hasN_push (l : List (List Int)) (x : List Int) (s : ByteArray) : hasN (l ++ [x]) s = (hasN l s || decide (nameB x = s)) := by
  unfold hasN
  rw [List.any_append]
  simp
/-- Has a name come among the first rows? -/
def seenF (rows : List (List Int)) (k : Nat) (s : ByteArray) : Option Value := if hasN (rows.take k) s = true then some (.bool true) else none
/-- The rows that come first by their names. -/
def keepD (rows : List (List Int)) (i : Nat) : Bool := !hasN (rows.take i) (nameB (rows.getD i []))
theorem take_push (rows : List (List Int)) (k : Nat) (hk : k < rows.length) : rows.take (k + 1) = rows.take k ++ [rows.getD k []] := by rw [List.take_add_one, List.getD_eq_getElem?_getD, List.getElem?_eq_getElem hk]; rfl
theorem seenF_step (rows : List (List Int)) (k : Nat) (hk : k < rows.length) : (fun x => if x = nameB (rows.getD k []) then some (Value.bool true) else seenF rows k x) = seenF rows (k + 1) := by
  funext x
  unfold seenF
  rw [take_push rows k hk, hasN_push]
  by_cases hx : x = nameB (rows.getD k [])
  · rw [if_pos hx, if_pos (by rw [hx]; simp)]
  · rw [if_neg hx, decide_eq_false (fun e => hx e.symm), Bool.or_false]
theorem seenF_get (rows : List (List Int)) (k : Nat) : (seenF rows k (nameB (rows.getD k []))).getD (.bool false) = .bool (!keepD rows k) := by
  unfold seenF keepD
  rw [Bool.not_not]
  cases hasN (rows.take k) (nameB (rows.getD k [])) with
  | true => rfl
  | false => rfl
/-- What the closure of Distinct keeps. -/
def SeenI (rows : List (List Int)) (sb mb : Nat) (k : Nat) (w : World) : Prop := Blk w sb 142 #[.map (some mb)] ∧ SMap w mb (seenF rows k) ∧ Tb w
theorem Tb.frM {w w' : World} {mb : Nat} (h : Tb w) (hmb : 4 ≤ mb) (hf : Fr (fun j => j = mb) w w') : Tb w' := var_frS hf (fun g hg h => by
  have e : Tryz.prog.globalNamed "internal/strconv.uint64pow10" = some 3 := by kernel_rfl
  rw [e] at hg
  injection hg with hg
  omega) h
theorem zero4 (w : World) : (zeroValue 4).run Tryz.prog w = .ok (.bool false) w := by kernel_rfl

set_option maxRecDepth 100000 in
set_option maxHeartbeats 4000000 in
theorem fresh_any (A : Option Addr) (n c B sb mb i : Nat) (rows : List (List Int)) (w : World) (V R : Option Addr) (m vc nr rc : Nat) (hi : i < rows.length) (hl : (rows.getD i []).length = n) (hn : n ≤ 4096) (hlo : ∀ k, k < n → -1 ≤ (rows.getD i []).getD k 0 ∧ (rows.getD i []).getD k 0 ≤ 1000000) (hmb : 4 ≤ mb)
    (hS : SeenI rows sb mb i w) (hr : IntRow w B (.slice A n c) (rows.getD i [])) :
    Calls Tryz.prog 67 #[.agg #[.slice V m vc, .slice R nr rc], .slice A n c, .pointer (some ⟨sb, 0, none⟩)] w (KeepPost mb (SeenI rows sb mb) (keepD rows) i w) := by
  obtain ⟨hb, hm, ht⟩ := hS
  have hf0 : Fr (fun _ => False) w (w.alloc (.cells #[.slice V m vc, .slice R nr rc] 63)) := (Fr.refl _ _).alloc _
  have HN := Lib.hid (fun w hg hr => name_any A n c B (rows.getD i []) w hl hn hlo hg hr)
  have HSG := Lib.hid (seenF_get rows i)
  have HSS := Lib.hid (seenF_step rows i hi)
  generalize nameB (rows.getD i []) = nm at *
  obtain ⟨q, hq⟩ : ∃ q, q = keepD rows i := ⟨_, rfl⟩
  rw [← hq] at HSG
  have HQ := Lib.hid hq
  have HB := Lib.hid (hb.fr hf0 (fun h => h))
  have HM := Lib.hid (hm.fr hf0 (fun h => h))
  have HT := Lib.hid (ht.frF hf0)
  have HR := Lib.hid (hr.fr hf0 (fun _ _ h => h))
  have HF0 := Lib.hid hf0
  clear hb hm ht hr hq hlo hl hf0
  go_enter Tryz.func67, Tryz.ntmps67
  go_wp2_with fail
  generalize w.alloc (.cells #[.slice V m vc, .slice R nr rc] 63) = w1 at *
  have c0 : w1.cell? ⟨sb, 0, none⟩ = some (.map (some mb)) := HB.out.cell 0
  have hsl := HB.out.lt
  go_region_law (first
    | (go_simp; go_at_call 68; refine (HN.out _ (HT.out.frF (by repeat' (first | exact Fr.refl _ _ | refine Fr.drew ?_))) (HR.out.fr (by repeat' (first | exact Fr.refl _ _ | refine Fr.drew ?_)) (fun _ _ h => h))).mono ?_; rintro e w2 ⟨rfl, hf2⟩; have F2 : Fr (fun _ => False) w1 w2 := Fr.trans' (by repeat' (first | exact Fr.refl _ _ | refine Fr.drew ?_)) hf2; have c2 : w2.cell? ⟨sb, 0, none⟩ = some (.map (some mb)) := (HB.out.fr F2 (fun h => h)).cell 0; have hlk := run_lookup_s (HM.out.fr F2 (fun h => h)) 142 4 Tryz.underlying142 (.bool false) (zero4 w2) nm; rw [HSG.out] at hlk)
    | fail)
  all_goals
    have HF2 := Lib.hid F2
    have HT2 := Lib.hid (HT.out.frF F2)
    have HR2 := Lib.hid (HR.out.fr F2 (fun _ _ h => h))
    have HM2 := Lib.hid (HM.out.fr F2 (fun h => h))
    have HB2 := Lib.hid (HB.out.fr F2 (fun h => h))
    have hsl2 := HB2.out.lt
    clear F2 hf2 hlk c0
    go_wp2_with fail
    go_region_law (first
      | (go_simp; go_at_call 68; refine (HN.out _ (HT2.out.frF (by repeat' (first | exact Fr.refl _ _ | refine Fr.drew ?_))) (HR2.out.fr (by repeat' (first | exact Fr.refl _ _ | refine Fr.drew ?_)) (fun _ _ h => h))).mono ?_; rintro e w3 ⟨rfl, hf3⟩; have F3 : Fr (fun _ => False) w2 w3 := Fr.trans' (by repeat' (first | exact Fr.refl _ _ | refine Fr.drew ?_)) hf3; have c3 : w3.cell? ⟨sb, 0, none⟩ = some (.map (some mb)) := (HB2.out.fr F3 (fun h => h)).cell 0; obtain ⟨w4, hup, hm4, hf4⟩ := run_mapUpdate_s (HM2.out.fr F3 (fun h => h)) 142 4 Tryz.underlying142 nm (.bool true))
      | fail)
    all_goals
      have hb3 := HB2.out.fr F3 (fun h => h)
      have hm3 := HM2.out.fr F3 (fun h => h)
      have HP := Lib.hid (show KeepPost mb (SeenI rows sb mb) (keepD rows) i w (.returned (.bool q)) w4 from
        ⟨by rw [HQ.out], ⟨hb3.fr hf4 (fun e => hm3.ne_blk hb3 e.symm), by rw [HSS.out] at hm4; exact hm4, (HT2.out.frF F3).frM hmb hf4⟩, (((HF0.out.trans' HF2.out).trans' F3).mono (T := fun j => j = mb) (fun _ _ h => h.elim)).trans' hf4⟩)
      clear hb3 hm3 hf3 F3 c3 hup hm4 hf4 c2
      go_wp2_with fail
      go_ret
      exact HP.out
theorem enters67 : ∀ args w, (callFunc 67 args).run Tryz.prog w = .ok (.enter 67 args) w := fun args w => by kernel_rfl
theorem getD_shape {w : World} {B : Nat} {v : Value} {xs : List Int} {n : Nat} (h : IntRow w B v xs) (hl : xs.length = n) : ∃ A c, v = .slice A n c := by
  obtain ⟨A, c, e⟩ := row_shape h
  exact ⟨A, c, by rw [e, hl]⟩

set_option maxRecDepth 100000 in
set_option maxHeartbeats 4000000 in
/-- Each row once. -/
theorem distinct_any (m vc B B2 : Nat) (V : Option Addr) (vr : Value) (vals : List Value) (rows : List (List Int)) (ss : List ByteArray) (w : World) (hm : m ≤ 4096) (hV : m = 0 → V = none ∧ vc = 0) (hn : rows.length ≤ 4096)
    (hl : ∀ i, i < rows.length → (rows.getD i []).length = m) (hlo : ∀ i, i < rows.length → ∀ k, k < m → -1 ≤ (rows.getD i []).getD k 0 ∧ (rows.getD i []).getD k 0 ≤ 1000000) (hsz : 4 ≤ w.heap.size) (ht : Tb w)
    (hs : w.ownsRow B 9 1 (.slice V m vc) m (ss.map .string)) (hr : RowsAt w B2 vr vals rows) :
    Calls Tryz.prog 20 #[.agg #[.slice V m vc, vr]] w (FilterPost w m ss (keepL rows (keepD rows) rows.length)) := by
  obtain ⟨A, c, hvr⟩ := row_shape hr.own
  subst hvr
  have hmk : ∀ w, (Instr.makeMap 142 none).run Tryz.prog w = .ok (.map (some w.heap.size)) (w.alloc (.map #[] 0)) := fun w => rfl
  have hmf : ∀ (fn : Fn) (first cap : Array Value) (w : World), (Instr.makeFunc fn first cap).run Tryz.prog w = .ok (.func fn first cap) w := fun _ _ _ _ => rfl
  obtain ⟨w1, hw1⟩ : ∃ w1, w1 = (w.alloc (.cells #[.slice V m vc, .slice A rows.length c] 63)).alloc (.cells #[.slice none 0 0, .slice none 0 0] 63) := ⟨_, rfl⟩
  have hz1 : w1.heap.size = w.heap.size + 2 := by rw [hw1]; simp
  obtain ⟨w3, hw3⟩ : ∃ w3, w3 = (w1.alloc (.map #[] 0)).alloc (.cells #[.map (some (w.heap.size + 1 + 1))] 142) := ⟨_, rfl⟩
  have hz3 : w3.heap.size = w.heap.size + 4 := by rw [hw3]; simp [hz1]
  have hf1 : Fr (fun _ => False) w w1 := by rw [hw1]; exact ((Fr.refl _ _).alloc _).alloc _
  have hf3 : Fr (fun _ => False) w w3 := by rw [hw3]; exact (hf1.alloc _).alloc _
  have hblk : Blk w3 (w.heap.size + 3) 142 #[.map (some (w.heap.size + 2))] := by
    have h := Blk.new (w1.alloc (.map #[] 0)) 142 #[.map (some (w.heap.size + 1 + 1))]
    rw [show (w1.alloc (.map #[] 0)).heap.size = w.heap.size + 3 by simp [hz1], ← hw3] at h
    exact h
  have hmap : SMap w3 (w.heap.size + 2) (seenF rows 0) := by
    have h := (SMap.new w1).fr ((Fr.refl (fun _ => False) _).alloc (.cells #[.map (some (w.heap.size + 1 + 1))] 142)) (fun h => h)
    rw [hz1, ← hw3] at h
    have e : seenF rows 0 = fun _ => none := by funext x; rfl
    rw [e]
    exact h
  have hres : Blk w3 (w.heap.size + 1) 63 #[.slice none 0 0, .slice none 0 0] := by
    have h := Blk.new (w.alloc (.cells #[.slice V m vc, .slice A rows.length c] 63)) 63 #[.slice none 0 0, .slice none 0 0]
    rw [show (w.alloc (.cells #[.slice V m vc, .slice A rows.length c] 63)).heap.size = w.heap.size + 1 by simp, ← hw1] at h
    rw [hw3]
    exact (h.alloc _).alloc _
  have htab : Blk w3 w.heap.size 63 #[.slice V m vc, .slice A rows.length c] := by
    rw [hw3, hw1]
    exact (((Blk.new w 63 #[.slice V m vc, .slice A rows.length c]).alloc _).alloc _).alloc _
  have ht3 := ht.frF hf3
  have hs3 := ownsRow_fr hs hf3 (fun _ _ h => h)
  have hr3 := hr.frF hf3
  have HC := Lib.hid (filterG (w.heap.size + 2) (SeenI rows (w.heap.size + 3) (w.heap.size + 2)) (keepD rows) 67 #[.pointer (some ⟨w.heap.size + 3, 0, none⟩)] m vc B B2 V (.slice A rows.length c) vals rows ss w3 hm hV hn hl hs3 hr3 enters67
    ⟨_, hmap⟩ ⟨hblk, hmap, ht3⟩ (fun k w1 w2 hw h hf => ⟨h.1.fr hf (fun e => by omega), h.2.1.fr hf (fun e => by omega), h.2.2.frN (by omega) hf⟩)
    (fun w4 i hi hf hI => by
      have hek := (hr3.each i hi).fr hf (fun j hj h => h.elim (fun h => by have := ((hr3.each i hi).lt j hj).2; omega) (fun h => hmap.ne_row (hr3.each i hi) (by rw [hj, h])))
      obtain ⟨A4, c4, hv4⟩ := getD_shape hek (hl i hi)
      rw [hv4] at hek ⊢
      exact fresh_any A4 m c4 B2 (w.heap.size + 3) (w.heap.size + 2) i rows w4 V A m vc rows.length c hi (hl i hi) hm (hlo i hi) (by omega) hI hek))
  have HT := Lib.hid htab
  have HY := Lib.hid hres
  have HF3 := Lib.hid hf3
  have HW1 := Lib.hid hw1
  have HW3 := Lib.hid hw3
  have HZ1 := Lib.hid hz1
  have HZ3 := Lib.hid hz3
  clear hblk hmap hres htab ht3 hs3 hr3 hf1 hf3 hw1 hw3 hz1 hz3 hs hr hl hlo ht
  go_enter Tryz.func20, Tryz.ntmps20
  go_wp2_with fail
  rw [← HW1.out, ← HW3.out]
  refine HC.out.mono ?_
  rintro e w4 ⟨V1, vc1, vr1, vals1, rfl, hV1, hs4, hr4, hf4⟩
  obtain ⟨A1, c1, hv1⟩ := row_shape hr4.own
  subst hv1
  have hy4 := HY.out.fr hf4 (fun e => by omega)
  have hst := Blk.setAll (vs := [.slice V1 m vc1, .slice A1 (keepL rows (keepD rows) rows.length).length c1]) (old := [.slice none 0 0, .slice none 0 0]) hy4 rfl
  have HTH := Lib.hid (Blk.there (cs := [.slice none 0 0, .slice none 0 0]) hy4 (n := 2) rfl)
  have HST := Lib.hid hst.1
  have hz3 := HZ3.out
  have HS5 := Lib.hid (ownsRow_base (ownsRow_fr hs4 hst.2 (fun j hj e => own_blk_ne hs4 hy4 (by decide) (by rw [hj, e]))) (show w.heap.size ≤ w3.heap.size by omega))
  have HR5 := Lib.hid ((hr4.frB hy4 (by decide) (by decide) hst.2).base (show w.heap.size ≤ w3.heap.size by omega))
  have HFF := Lib.hid ((HF3.out.trans hf4 (fun j hj e => by omega)).trans hst.2 (fun j hj e => by omega))
  have HONE := Lib.hid (show (#[.slice V1 m vc1, .slice A1 (keepL rows (keepD rows) rows.length).length c1] : Array Value).all (·.oneCell') = true from all_oneCell_toArray (by intro v hv; simp only [List.mem_cons, List.not_mem_nil, or_false] at hv; rcases hv with rfl | rfl <;> rfl))
  have hl4 := hy4.lt
  generalize hq : keepL rows (keepD rows) rows.length = R0 at *
  generalize R0.length = qn at *
  clear hs4 hr4 hf4 hy4 hst
  go_wp2_with (refine wpList_store_mid rfl 63 _ _ rfl _ _ _ rfl rfl HTH.out inf63 HONE.out ?_)
  exact bodyPost_ret (v := .agg #[.slice V1 m vc1, .slice A1 qn c1]) (results_cell_row rfl _ _ (w.heap.size + 1) 63 _ (0, 0) _ rfl HST.out Tryz.underlying63 rfl (by kernel_rfl)) rfl ⟨V1, vc1, _, vals1, rfl, hV1, HS5.out, HR5.out, HFF.out⟩

/-- How often a name comes. -/
def cntN (l : List (List Int)) (s : ByteArray) : Nat := (l.filter fun x => decide (nameB x = s)).length
theorem cntN_push (l : List (List Int)) (x : List Int) (s : ByteArray) : cntN (l ++ [x]) s = cntN l s + (if nameB x = s then 1 else 0) := by
  unfold cntN
  rw [List.filter_append, List.length_append]
  congr 1
  by_cases h : nameB x = s
  · rw [if_pos h, List.filter_cons_of_pos (by simpa using h)]; rfl
  · rw [if_neg h, List.filter_cons_of_neg (by simpa using h)]; rfl
theorem cntN_le (l : List (List Int)) (s : ByteArray) : cntN l s ≤ l.length := List.length_filter_le _ _
theorem cntN_no (l : List (List Int)) (s : ByteArray) (h : hasN l s = false) : cntN l s = 0 := by
  unfold cntN
  rw [List.length_eq_zero_iff, List.filter_eq_nil_iff]
  intro x hx
  unfold hasN at h
  rw [List.any_eq_false] at h
  exact h x hx
theorem cntN_take (l : List (List Int)) (s : ByteArray) (k : Nat) : cntN (l.take k) s ≤ cntN l s := by
  unfold cntN
  exact ((List.take_sublist k l).filter _).length_le
/-- What is left of each name: those of one table, less those of another. -/
def goneV (rb ra : List (List Int)) (kb ka : Nat) (s : ByteArray) : Int := (cntN (rb.take kb) s : Int) - (cntN (ra.take ka) s : Int)
def goneF (rb ra : List (List Int)) (kb ka : Nat) (s : ByteArray) : Option Value := if (hasN (rb.take kb) s || hasN (ra.take ka) s) = true then some (.int .i64 (goneV rb ra kb ka s)) else none
theorem goneF_get (rb ra : List (List Int)) (kb ka : Nat) (s : ByteArray) : (goneF rb ra kb ka s).getD (.int .i64 0) = .int .i64 (goneV rb ra kb ka s) := by
  unfold goneF
  cases h1 : hasN (rb.take kb) s <;> cases h2 : hasN (ra.take ka) s
  · rw [if_neg (by decide)]
    unfold goneV
    rw [cntN_no _ _ h1, cntN_no _ _ h2]
    rfl
  all_goals (rw [if_pos (by decide)]; rfl)
theorem goneV_b (rb ra : List (List Int)) (kb ka : Nat) (hk : kb < rb.length) (s : ByteArray) : goneV rb ra (kb + 1) ka s = goneV rb ra kb ka s + (if nameB (rb.getD kb []) = s then 1 else 0) := by
  unfold goneV
  rw [take_push rb kb hk, cntN_push]
  split <;> omega
theorem goneV_a (rb ra : List (List Int)) (kb ka : Nat) (hk : ka < ra.length) (s : ByteArray) : goneV rb ra kb (ka + 1) s = goneV rb ra kb ka s - (if nameB (ra.getD ka []) = s then 1 else 0) := by
  unfold goneV
  rw [take_push ra ka hk, cntN_push]
  split <;> omega
theorem goneF_b (rb ra : List (List Int)) (kb ka : Nat) (hk : kb < rb.length) : (fun x => if x = nameB (rb.getD kb []) then some (Value.int .i64 (goneV rb ra kb ka (nameB (rb.getD kb [])) + 1)) else goneF rb ra kb ka x) = goneF rb ra (kb + 1) ka := by
  funext x
  by_cases hx : x = nameB (rb.getD kb [])
  · rw [if_pos hx]
    unfold goneF
    rw [goneV_b rb ra kb ka hk, take_push rb kb hk, hasN_push, hx, if_pos rfl, if_pos (by simp)]
  · have hx2 : ¬ nameB (rb.getD kb []) = x := fun e => hx e.symm
    rw [if_neg hx]
    unfold goneF
    rw [goneV_b rb ra kb ka hk, take_push rb kb hk, hasN_push, if_neg hx2, decide_eq_false (fun e => hx e.symm), Bool.or_false, Int.add_zero]
theorem goneF_a (rb ra : List (List Int)) (kb ka : Nat) (hk : ka < ra.length) : (fun x => if x = nameB (ra.getD ka []) then some (Value.int .i64 (goneV rb ra kb ka (nameB (ra.getD ka [])) - 1)) else goneF rb ra kb ka x) = goneF rb ra kb (ka + 1) := by
  funext x
  by_cases hx : x = nameB (ra.getD ka [])
  · rw [if_pos hx]
    unfold goneF
    rw [goneV_a rb ra kb ka hk, take_push ra ka hk, hasN_push, hx, if_pos rfl, if_pos (by simp)]
  · have hx2 : ¬ nameB (ra.getD ka []) = x := fun e => hx e.symm
    rw [if_neg hx]
    unfold goneF
    rw [goneV_a rb ra kb ka hk, take_push ra ka hk, hasN_push, if_neg hx2, decide_eq_false (fun e => hx e.symm), Bool.or_false, Int.sub_zero]
theorem goneV_lo (rb ra : List (List Int)) (kb ka : Nat) (s : ByteArray) (hb : rb.length ≤ 4096) (ha : ra.length ≤ 4096) : -4096 ≤ goneV rb ra kb ka s ∧ goneV rb ra kb ka s ≤ 4096 := by
  unfold goneV
  have h1 := cntN_le (rb.take kb) s
  have h2 := cntN_le (ra.take ka) s
  rw [List.length_take] at h1 h2
  omega
/-- The rows that aren't gone. -/
def keepM (rb ra : List (List Int)) (i : Nat) : Bool := decide (goneV rb ra rb.length (i + 1) (nameB (ra.getD i [])) < 0)
theorem keepM_same (rows : List (List Int)) : ∀ k, k ≤ rows.length → keepL rows (keepM rows rows) k = []
  | 0, _ => rfl
  | k + 1, hk => by
    have h : keepM rows rows k = false := by
      unfold keepM goneV
      rw [List.take_length]
      have := cntN_take rows (nameB (rows.getD k [])) (k + 1)
      exact decide_eq_false (by omega)
    rw [keepL_succ, h, if_neg (by decide)]
    exact keepM_same rows k (by omega)
/-- What the closure of Minus keeps. -/
def GoneI (rb ra : List (List Int)) (gb mb : Nat) (k : Nat) (w : World) : Prop := Blk w gb 212 #[.map (some mb)] ∧ SMap w mb (goneF rb ra rb.length k) ∧ Tb w
theorem zero3 (w : World) : (zeroValue 3).run Tryz.prog w = .ok (.int .i64 0) w := by kernel_rfl

set_option maxRecDepth 100000 in
set_option maxHeartbeats 4000000 in
theorem gone_any (A : Option Addr) (n c B gb mb i : Nat) (rb ra : List (List Int)) (w : World) (V R : Option Addr) (m vc nr rc : Nat) (hi : i < ra.length) (hb4 : rb.length ≤ 4096) (ha4 : ra.length ≤ 4096) (hl : (ra.getD i []).length = n) (hn : n ≤ 4096) (hlo : ∀ k, k < n → -1 ≤ (ra.getD i []).getD k 0 ∧ (ra.getD i []).getD k 0 ≤ 1000000) (hmb : 4 ≤ mb)
    (hS : GoneI rb ra gb mb i w) (hr : IntRow w B (.slice A n c) (ra.getD i [])) :
    Calls Tryz.prog 127 #[.agg #[.slice V m vc, .slice R nr rc], .slice A n c, .pointer (some ⟨gb, 0, none⟩)] w (KeepPost mb (GoneI rb ra gb mb) (keepM rb ra) i w) := by
  obtain ⟨hb, hm, ht⟩ := hS
  have hf0 : Fr (fun _ => False) w (w.alloc (.cells #[.slice V m vc, .slice R nr rc] 63)) := (Fr.refl _ _).alloc _
  have HN := Lib.hid (fun w hg hr => name_any A n c B (ra.getD i []) w hl hn hlo hg hr)
  have HSG := Lib.hid (fun k => goneF_get rb ra rb.length k (nameB (ra.getD i [])))
  have HSS := Lib.hid (goneF_a rb ra rb.length i hi)
  have hbd := goneV_lo rb ra rb.length i (nameB (ra.getD i [])) hb4 ha4
  have hst := goneV_a rb ra rb.length i hi (nameB (ra.getD i []))
  rw [if_pos rfl] at hst
  obtain ⟨q, hq⟩ : ∃ q, q = keepM rb ra i := ⟨_, rfl⟩
  have hq2 := hq
  unfold keepM at hq2
  rw [hst] at hq2
  generalize nameB (ra.getD i []) = nm at *
  obtain ⟨g, hg⟩ : ∃ g, g = goneV rb ra rb.length i nm := ⟨_, rfl⟩
  have HG := Lib.hid hg.symm
  rw [← hg] at hbd hst HSS hq2
  clear hg
  have HST := Lib.hid hst
  have hwr : IntKind.i64.wrap (g - 1) = g - 1 := IntWalk.i64_in _ (by omega)
  have HQ := Lib.hid hq
  have HQ2 := Lib.hid hq2
  have HB := Lib.hid (hb.fr hf0 (fun h => h))
  have HM := Lib.hid (hm.fr hf0 (fun h => h))
  have HT := Lib.hid (ht.frF hf0)
  have HR := Lib.hid (hr.fr hf0 (fun _ _ h => h))
  have HF0 := Lib.hid hf0
  clear hb hm ht hr hq hq2 hst hlo hl hf0
  go_enter Tryz.func127, Tryz.ntmps127
  go_wp2_with fail
  generalize w.alloc (.cells #[.slice V m vc, .slice R nr rc] 63) = w1 at *
  have c0 : w1.cell? ⟨gb, 0, none⟩ = some (.map (some mb)) := HB.out.cell 0
  have hsl := HB.out.lt
  go_region_law (first
    | (go_simp; go_at_call 68; refine (HN.out _ (HT.out.frF (by repeat' (first | exact Fr.refl _ _ | refine Fr.drew ?_))) (HR.out.fr (by repeat' (first | exact Fr.refl _ _ | refine Fr.drew ?_)) (fun _ _ h => h))).mono ?_; rintro e w2 ⟨rfl, hf2⟩; have F2 : Fr (fun _ => False) w1 w2 := Fr.trans' (by repeat' (first | exact Fr.refl _ _ | refine Fr.drew ?_)) hf2; have c2 : w2.cell? ⟨gb, 0, none⟩ = some (.map (some mb)) := (HB.out.fr F2 (fun h => h)).cell 0; have hlk := run_lookup_s (HM.out.fr F2 (fun h => h)) 212 3 Tryz.underlying212 (.int .i64 0) (zero3 w2) nm; rw [HSG.out, HG.out] at hlk; obtain ⟨w3, hup, hm3, hf3⟩ := run_mapUpdate_s (HM.out.fr F2 (fun h => h)) 212 3 Tryz.underlying212 nm (.int .i64 (g - 1)))
    | fail)
  all_goals
    have hb2 := HB.out.fr F2 (fun h => h)
    have hm2 := HM.out.fr F2 (fun h => h)
    have HF3 := Lib.hid ((((HF0.out.trans' F2).mono (T := fun j => j = mb) (fun _ _ h => h.elim))).trans' hf3)
    have hb3 := hb2.fr hf3 (fun e => hm2.ne_blk hb2 e.symm)
    have HB3 := Lib.hid hb3
    have HT3 := Lib.hid ((HT.out.frF F2).frM hmb hf3)
    have HR3 := Lib.hid ((HR.out.fr F2 (fun _ _ h => h)).fr hf3 (fun j hj e => hm2.ne_row (HR.out.fr F2 (fun _ _ h => h)) (by rw [hj, e])))
    rw [HSS.out] at hm3
    have HM3 := Lib.hid hm3
    have c3 : w3.cell? ⟨gb, 0, none⟩ = some (.map (some mb)) := hb3.cell 0
    have hsl3 := hb3.lt
    clear hb2 hm2 hb3 F2 hf2 hf3 hlk hup hm3 c2 c0
    go_wp2_with fail
    go_region_law (first
      | (go_simp; go_at_call 68; refine (HN.out _ (HT3.out.frF (by repeat' (first | exact Fr.refl _ _ | refine Fr.drew ?_))) (HR3.out.fr (by repeat' (first | exact Fr.refl _ _ | refine Fr.drew ?_)) (fun _ _ h => h))).mono ?_; rintro e w4 ⟨rfl, hf4⟩; have F4 : Fr (fun _ => False) w3 w4 := Fr.trans' (by repeat' (first | exact Fr.refl _ _ | refine Fr.drew ?_)) hf4; have c4 : w4.cell? ⟨gb, 0, none⟩ = some (.map (some mb)) := (HB3.out.fr F4 (fun h => h)).cell 0; have hlk := run_lookup_s (HM3.out.fr F4 (fun h => h)) 212 3 Tryz.underlying212 (.int .i64 0) (zero3 w4) nm; rw [HSG.out, HST.out] at hlk)
      | fail)
    all_goals
      have HP := Lib.hid (show KeepPost mb (GoneI rb ra gb mb) (keepM rb ra) i w (.returned (.bool (decide (g - 1 < 0)))) w4 from
        ⟨by rw [← HQ.out, HQ2.out], ⟨HB3.out.fr F4 (fun h => h), HM3.out.fr F4 (fun h => h), HT3.out.frF F4⟩, HF3.out.trans F4 (fun _ _ h => h.elim)⟩)
      clear hf4 F4 hlk c4 c3
      go_wp2_with fail
      go_ret
      exact HP.out
theorem enters127 : ∀ args w, (callFunc 127 args).run Tryz.prog w = .ok (.enter 127 args) w := fun args w => by kernel_rfl
theorem eq_vars (m ca cb Ba Bb : Nat) (VA VB : Option Addr) (ss : List ByteArray) (w : World) (hm : m ≤ 4096) (hsa : w.ownsRow Ba 9 1 (.slice VA m ca) m (ss.map .string)) (hsb : w.ownsRow Bb 9 1 (.slice VB m cb) m (ss.map .string)) :
    Calls Tryz.prog 64 #[.slice VA m ca, .slice VB m cb] w fun e w' => e = .returned (.bool true) ∧ ∃ q, w' = w.drewN q := by
  by_cases h0 : m = 0
  · subst h0
    refine (Tryz.slices_Equal_string_empty VA VB ca 0 cb w (by decide)).mono ?_
    rintro e w' ⟨rfl, rfl⟩
    exact ⟨rfl, 0, rfl⟩
  · obtain ⟨ga, rfl, _, _, _⟩ := row_form hsa (by omega)
    obtain ⟨gb, rfl, _, _, _⟩ := row_form hsb (by omega)
    have hl : ss.length = m := by have := hsa.1; simpa using this
    refine (Tryz.slices_Equal_string ga 0 m ca gb 0 m cb ss ss w (by omega) (by omega) (by omega) (by omega) (fun j hj => by rw [Nat.zero_add]; exact str_cell hsa j (by omega)) (fun j hj => by rw [Nat.zero_add]; exact str_cell hsb j (by omega))).mono ?_
    rintro e w' ⟨rfl, q, rfl⟩
    exact ⟨by simp, q, rfl⟩

set_option maxRecDepth 100000 in
set_option maxHeartbeats 4000000 in
/-- The rows that aren't gone. -/
theorem minus_any (m ca cb Ba Bb Ba2 Bb2 : Nat) (VA VB : Option Addr) (vra vrb : Value) (valsa valsb : List Value) (ra rb : List (List Int)) (ss : List ByteArray) (w : World) (hm : m ≤ 4096) (hV : m = 0 → VA = none ∧ ca = 0) (ha4 : ra.length ≤ 4096) (hb4 : rb.length ≤ 4096)
    (hla : ∀ i, i < ra.length → (ra.getD i []).length = m) (hlb : ∀ i, i < rb.length → (rb.getD i []).length = m) (hloa : ∀ i, i < ra.length → ∀ k, k < m → -1 ≤ (ra.getD i []).getD k 0 ∧ (ra.getD i []).getD k 0 ≤ 1000000) (hlob : ∀ i, i < rb.length → ∀ k, k < m → -1 ≤ (rb.getD i []).getD k 0 ∧ (rb.getD i []).getD k 0 ≤ 1000000)
    (hsz : 4 ≤ w.heap.size) (ht : Tb w) (hsa : w.ownsRow Ba 9 1 (.slice VA m ca) m (ss.map .string)) (hra : RowsAt w Ba2 vra valsa ra) (hsb : w.ownsRow Bb 9 1 (.slice VB m cb) m (ss.map .string)) (hrb : RowsAt w Bb2 vrb valsb rb) :
    Calls Tryz.prog 65 #[.agg #[.slice VA m ca, vra], .agg #[.slice VB m cb, vrb]] w (FilterPost w m ss (keepL ra (keepM rb ra) ra.length)) := by
  obtain ⟨RA, rca, hvra⟩ := row_shape hra.own
  obtain ⟨RB, rcb, hvrb⟩ := row_shape hrb.own
  subst hvra hvrb
  have hmk : ∀ w, (Instr.makeMap 212 none).run Tryz.prog w = .ok (.map (some w.heap.size)) (w.alloc (.map #[] 0)) := fun w => rfl
  have hmf : ∀ (fn : Fn) (first cap : Array Value) (w : World), (Instr.makeFunc fn first cap).run Tryz.prog w = .ok (.func fn first cap) w := fun _ _ _ _ => rfl
  obtain ⟨w3, hw3⟩ : ∃ w3, w3 = ((w.alloc (.cells #[.slice VA m ca, .slice RA ra.length rca] 63)).alloc (.cells #[.slice VB m cb, .slice RB rb.length rcb] 63)).alloc (.cells #[.slice none 0 0, .slice none 0 0] 63) := ⟨_, rfl⟩
  have hz3 : w3.heap.size = w.heap.size + 3 := by rw [hw3]; simp
  obtain ⟨w5, hw5⟩ : ∃ w5, w5 = (w3.alloc (.map #[] 0)).alloc (.cells #[.map (some (w.heap.size + 1 + 1 + 1))] 212) := ⟨_, rfl⟩
  have hz5 : w5.heap.size = w.heap.size + 5 := by rw [hw5]; simp [hz3]
  have hf3 : Fr (fun _ => False) w w3 := by rw [hw3]; exact (((Fr.refl _ _).alloc _).alloc _).alloc _
  have hf5 : Fr (fun _ => False) w w5 := by rw [hw5]; exact (hf3.alloc _).alloc _
  have hA : Blk w5 w.heap.size 63 #[.slice VA m ca, .slice RA ra.length rca] := by
    rw [hw5, hw3]
    exact ((((Blk.new w 63 #[.slice VA m ca, .slice RA ra.length rca]).alloc _).alloc _).alloc _).alloc _
  have hB : Blk w5 (w.heap.size + 1) 63 #[.slice VB m cb, .slice RB rb.length rcb] := by
    have h := Blk.new (w.alloc (.cells #[.slice VA m ca, .slice RA ra.length rca] 63)) 63 #[.slice VB m cb, .slice RB rb.length rcb]
    rw [show (w.alloc (.cells #[.slice VA m ca, .slice RA ra.length rca] 63)).heap.size = w.heap.size + 1 by simp] at h
    rw [hw5, hw3]
    exact ((h.alloc _).alloc _).alloc _
  have hY : Blk w5 (w.heap.size + 2) 63 #[.slice none 0 0, .slice none 0 0] := by
    have h := Blk.new ((w.alloc (.cells #[.slice VA m ca, .slice RA ra.length rca] 63)).alloc (.cells #[.slice VB m cb, .slice RB rb.length rcb] 63)) 63 #[.slice none 0 0, .slice none 0 0]
    rw [show ((w.alloc (.cells #[.slice VA m ca, .slice RA ra.length rca] 63)).alloc (.cells #[.slice VB m cb, .slice RB rb.length rcb] 63)).heap.size = w.heap.size + 2 by simp, ← hw3] at h
    rw [hw5]
    exact (h.alloc _).alloc _
  have hblk : Blk w5 (w.heap.size + 4) 212 #[.map (some (w.heap.size + 3))] := by
    have h := Blk.new (w3.alloc (.map #[] 0)) 212 #[.map (some (w.heap.size + 1 + 1 + 1))]
    rw [show (w3.alloc (.map #[] 0)).heap.size = w.heap.size + 4 by simp [hz3], ← hw5] at h
    exact h
  have hmap : SMap w5 (w.heap.size + 3) (goneF rb ra 0 0) := by
    have h := (SMap.new w3).fr ((Fr.refl (fun _ => False) _).alloc (.cells #[.map (some (w.heap.size + 1 + 1 + 1))] 212)) (fun h => h)
    rw [hz3, ← hw5] at h
    have e : goneF rb ra 0 0 = fun _ => none := by funext x; rfl
    rw [e]
    exact h
  have ht5 := ht.frF hf5
  have hsa5 := ownsRow_fr hsa hf5 (fun _ _ h => h)
  have hsb5 := ownsRow_fr hsb hf5 (fun _ _ h => h)
  have hra5 := hra.frF hf5
  have hrb5 := hrb.frF hf5
  have HEQ := Lib.hid (eq_vars m ca cb Ba Bb VA VB ss w5 hm hsa5 hsb5)
  have HA := Lib.hid hA
  have HB := Lib.hid hB
  have HY := Lib.hid hY
  have HG := Lib.hid hblk
  have HM := Lib.hid hmap
  have HT := Lib.hid ht5
  have HSA := Lib.hid hsa5
  have HRA := Lib.hid hra5
  have HRB := Lib.hid hrb5
  have HF5 := Lib.hid hf5
  have HW3 := Lib.hid hw3
  have HW5 := Lib.hid hw5
  have HZ5 := Lib.hid hz5
  have HLA := Lib.hid hla
  have HLB := Lib.hid hlb
  have HLOA := Lib.hid hloa
  have HLOB := Lib.hid hlob
  obtain ⟨mb, hmbe⟩ : ∃ mb, mb = w.heap.size + 3 := ⟨_, rfl⟩
  have hmb4 : 4 ≤ mb := by omega
  rw [← hmbe] at HG HM
  have hmb1 : w.heap.size + 2 < mb := by omega
  have hmb2 : mb < w.heap.size + 4 := by omega
  clear hmbe
  clear hblk hmap hA hB hY ht5 hsa5 hsb5 hra5 hrb5 hf3 hf5 hw3 hw5 hz3 hz5 hsa hra hsb hrb hla hlb hloa hlob ht
  go_enter Tryz.func65, Tryz.ntmps65
  go_wp2_with fail
  rw [← HW3.out, ← HW5.out]
  refine HEQ.out.mono ?_
  rintro e w6 ⟨rfl, q, hq⟩
  have HF6 := Lib.hid (show Fr (fun j => j = mb) w5 w6 by rw [hq]; exact (Fr.refl _ _).drewN q)
  have b1 : w6.cell? ⟨w.heap.size + 1, 1, none⟩ = some (.slice RB rb.length rcb) := (HB.out.fr HF6.out (fun e => by omega)).cell 1
  have hl6 := (HB.out.fr HF6.out (fun e => by omega)).lt
  have HM6 := Lib.hid (show SMap w6 mb (goneF rb ra 0 0) from HM.out.fr (show Fr (fun _ => False) w5 w6 by rw [hq]; exact (Fr.refl _ _).drewN q) (fun h => h))
  clear hq
  go_wp2_with fail
  go_loopw [17] (fun iv wr => ∃ k : Nat, iv = .int .i64 (k : Int) ∧ k ≤ rb.length ∧ SMap wr mb (goneF rb ra k 0) ∧ Fr (fun j => j = mb) w5 wr) (fun iv _ => rb.length - (intOf iv).toNat)
  case atStart => exact ⟨0, rfl, Nat.zero_le _, HM6.out, HF6.out⟩
  case round =>
    obtain ⟨k, rfl, hk, hmp, hf⟩ := hrel
    have HFR := Lib.hid hf
    have HMR := Lib.hid hmp
    have hz5 := HZ5.out
    have hmN := HM.out
    have hrbR := HRB.out.fr hf (fun j hj e => hmN.ne_row HRB.out.own (by rw [hj, e])) (fun i hi j hj e => hmN.ne_row (HRB.out.each i hi) (by rw [hj, e]))
    have hgR := HG.out.fr hf (fun e => by omega)
    have htR := HT.out.frM hmb4 hf
    by_cases hlt : k < rb.length
    · have hlt' : (k : Int) < (rb.length : Int) := by omega
      obtain ⟨ag, rfl, _, _, _⟩ := row_form hrbR.own (by omega)
      obtain ⟨XA, xc, hxv⟩ := getD_shape (hrbR.each k hlt) (HLB.out k hlt)
      have ck : wr.cell? ⟨ag, k, none⟩ = some (.slice XA m xc) := by
        rw [World.ownsRow.cellAt hrbR.own k (by omega), ← hxv, List.getD_eq_getElem?_getD, List.getElem?_eq_getElem (by have := hrbR.len; omega)]; rfl
      have hxr : IntRow wr Bb2 (.slice XA m xc) (rb.getD k []) := by have := hrbR.each k hlt; rw [hxv] at this; exact this
      have HXR := Lib.hid hxr
      have HN := Lib.hid (fun w hg hr => name_any XA m xc Bb2 (rb.getD k []) w (HLB.out k hlt) hm (HLOB.out k hlt) hg hr)
      have HSG := Lib.hid (goneF_get rb ra k 0 (nameB (rb.getD k [])))
      have hss := goneF_b rb ra k 0 hlt
      have hbd := goneV_lo rb ra k 0 (nameB (rb.getD k [])) hb4 ha4
      obtain ⟨g, hg⟩ : ∃ g, g = goneV rb ra k 0 (nameB (rb.getD k [])) := ⟨_, rfl⟩
      rw [← hg] at hbd hss HSG
      generalize nameB (rb.getD k []) = nm at *
      have HSS := Lib.hid hss
      have hwr : IntKind.i64.wrap (g + 1) = g + 1 := IntWalk.i64_in _ (by omega)
      have c0 : wr.cell? ⟨w.heap.size + 1 + 1 + 1 + 1, 0, none⟩ = some (.map (some mb)) := hgR.cell 0
      have hsl := hgR.lt
      have HGR := Lib.hid hgR
      have HTR := Lib.hid htR
      clear hf hmp hrbR hgR htR hxv hxr hg hss b1 hl6
      go_wp2_with fail
      go_region_law (first
        | (go_simp; go_at_call 68; refine (HN.out _ (HTR.out.frF (by repeat' (first | exact Fr.refl _ _ | refine Fr.drew ?_))) (HXR.out.fr (by repeat' (first | exact Fr.refl _ _ | refine Fr.drew ?_)) (fun _ _ h => h))).mono ?_; rintro e w7 ⟨rfl, hf7⟩; have F7 : Fr (fun _ => False) wr w7 := Fr.trans' (by repeat' (first | exact Fr.refl _ _ | refine Fr.drew ?_)) hf7; have c7 : w7.cell? ⟨w.heap.size + 1 + 1 + 1 + 1, 0, none⟩ = some (.map (some mb)) := (HGR.out.fr F7 (fun h => h)).cell 0; have hlk := run_lookup_s (HMR.out.fr F7 (fun h => h)) 212 3 Tryz.underlying212 (.int .i64 0) (zero3 w7) nm; rw [HSG.out] at hlk; obtain ⟨w8, hup, hm8, hf8⟩ := run_mapUpdate_s (HMR.out.fr F7 (fun h => h)) 212 3 Tryz.underlying212 nm (.int .i64 (g + 1)))
        | fail)
      all_goals
        have HF8 := Lib.hid ((HFR.out.trans F7 (fun _ _ h => h.elim)).trans' hf8)
        rw [HSS.out] at hm8
        have HM8 := Lib.hid hm8
        clear hf7 F7 c7 hlk hup hm8 hf8 c0
        go_wp2_with fail
        go_roundw
        case rel => exact ⟨k + 1, by go_num, by omega, HM8.out, HF8.out⟩
        case measure => simp only [intOf]; omega
    · have hlt' : ¬ (k : Int) < (rb.length : Int) := by omega
      obtain rfl : k = rb.length := by omega
      have hsaR := ownsRow_fr HSA.out hf (fun j hj e => hmN.ne_row HSA.out (by rw [hj, e]))
      have hraR := HRA.out.fr hf (fun j hj e => hmN.ne_row HRA.out.own (by rw [hj, e])) (fun i hi j hj e => hmN.ne_row (HRA.out.each i hi) (by rw [hj, e]))
      have hsz5 := hf.size
      have hAR := HA.out.fr hf (fun e => by omega)
      have a0 : wr.cell? ⟨w.heap.size, 0, none⟩ = some (.slice VA m ca) := hAR.cell 0
      have a1 : wr.cell? ⟨w.heap.size, 1, none⟩ = some (.slice RA ra.length rca) := hAR.cell 1
      have hlA := hAR.lt
      have HC := Lib.hid (filterG mb (GoneI rb ra (w.heap.size + 4) mb) (keepM rb ra) 127 #[.pointer (some ⟨w.heap.size + 4, 0, none⟩)] m ca Ba Ba2 VA (.slice RA ra.length rca) valsa ra ss wr hm hV ha4 HLA.out hsaR hraR enters127
        ⟨_, hmp⟩ ⟨hgR, hmp, htR⟩ (fun k w1 w2 hw h hf => ⟨h.1.fr hf (fun e => by omega), h.2.1.fr hf (fun e => by omega), h.2.2.frN (by omega) hf⟩)
        (fun w4 i hi hf hI => by
          have hek := (hraR.each i hi).fr hf (fun j hj h => h.elim (fun h => by have := ((hraR.each i hi).lt j hj).2; omega) (fun h => hmp.ne_row (hraR.each i hi) (by rw [hj, h])))
          obtain ⟨A4, c4, hv4⟩ := getD_shape hek (HLA.out i hi)
          rw [hv4] at hek ⊢
          exact gone_any A4 m c4 Ba2 (w.heap.size + 4) mb i rb ra w4 VA RA m ca ra.length rca hi hb4 ha4 (HLA.out i hi) hm (HLOA.out i hi) hmb4 hI hek))
      have HYR := Lib.hid (HY.out.fr hf (fun e => by omega))
      clear hf hmp hrbR hgR htR hsaR hraR hAR b1 hl6
      go_wp2_with fail
      refine HC.out.mono ?_
      rintro e w4 ⟨V1, vc1, vr1, vals1, rfl, hV1, hs4, hr4, hf4⟩
      obtain ⟨A1, c1, hv1⟩ := row_shape hr4.own
      subst hv1
      have hy4 := HYR.out.fr hf4 (fun e => by omega)
      have hst := Blk.setAll (vs := [.slice V1 m vc1, .slice A1 (keepL ra (keepM rb ra) ra.length).length c1]) (old := [.slice none 0 0, .slice none 0 0]) hy4 rfl
      have HTH := Lib.hid (Blk.there (cs := [.slice none 0 0, .slice none 0 0]) hy4 (n := 2) rfl)
      have HST := Lib.hid hst.1
      have HS5 := Lib.hid (ownsRow_base (ownsRow_fr hs4 hst.2 (fun j hj e => own_blk_ne hs4 hy4 (by decide) (by rw [hj, e]))) (show w.heap.size ≤ wr.heap.size by omega))
      have HR5 := Lib.hid ((hr4.frB hy4 (by decide) (by decide) hst.2).base (show w.heap.size ≤ wr.heap.size by omega))
      have HFF := Lib.hid (((HF5.out.trans HFR.out (fun j hj e => by omega)).trans hf4 (fun j hj e => by omega)).trans hst.2 (fun j hj e => by omega))
      have HONE := Lib.hid (show (#[.slice V1 m vc1, .slice A1 (keepL ra (keepM rb ra) ra.length).length c1] : Array Value).all (·.oneCell') = true from all_oneCell_toArray (by intro v hv; simp only [List.mem_cons, List.not_mem_nil, or_false] at hv; rcases hv with rfl | rfl <;> rfl))
      have hl4 := hy4.lt
      generalize hq : keepL ra (keepM rb ra) ra.length = R0 at *
      generalize R0.length = qn at *
      clear hs4 hr4 hf4 hy4 hst
      go_wp2_with (refine wpList_store_mid rfl 63 _ _ rfl _ _ _ rfl rfl HTH.out inf63 HONE.out ?_)
      exact bodyPost_ret (v := .agg #[.slice V1 m vc1, .slice A1 qn c1]) (results_cell_row rfl _ _ (w.heap.size + 2) 63 _ (0, 0) _ rfl HST.out Tryz.underlying63 rfl (by kernel_rfl)) rfl ⟨V1, vc1, _, vals1, rfl, hV1, HS5.out, HR5.out, HFF.out⟩

/-- A table, whose nil row of vars is so where there are none. -/
def TabAt (w : World) (B m : Nat) (tv : Value) (ss : List ByteArray) (rows : List (List Int)) : Prop :=
  ∃ V vc vr vals, tv = .agg #[.slice V m vc, vr] ∧ (m = 0 → V = none ∧ vc = 0) ∧ w.ownsRow B 9 1 (.slice V m vc) m (ss.map .string) ∧ RowsAt w B vr vals rows
/-- Rows as they may be. -/
def RowsOk (m : Nat) (rows : List (List Int)) : Prop := rows.length ≤ 4096 ∧ (∀ i, i < rows.length → (rows.getD i []).length = m) ∧ ∀ i, i < rows.length → ∀ k, k < m → -1 ≤ (rows.getD i []).getD k 0 ∧ (rows.getD i []).getD k 0 ≤ 1000000

theorem fld63 (x y : Value) (w : World) : (Instr.field 63 (.agg #[x, y]) 1).run Tryz.prog w = .ok y w := by kernel_rfl

set_option maxRecDepth 100000 in
set_option maxHeartbeats 4000000 in
/-- Two tables of the same rows. -/
theorem same_tab (m Ba Bb : Nat) (ta tb : Value) (rows : List (List Int)) (ss : List ByteArray) (w : World) (hm : m ≤ 4096) (hok : RowsOk m rows) (hsz : 4 ≤ w.heap.size) (ht : Tb w) (ha : TabAt w Ba m ta ss rows) (hb : TabAt w Bb m tb ss rows) :
    Calls Tryz.prog 19 #[ta, tb] w (IsB true w) := by
  obtain ⟨VA, ca, vra, valsa, rfl, hV, hsa, hra⟩ := ha
  obtain ⟨VB, cb, vrb, valsb, rfl, _, hsb, hrb⟩ := hb
  obtain ⟨RA, rca, hvra⟩ := row_shape hra.own
  obtain ⟨RB, rcb, hvrb⟩ := row_shape hrb.own
  subst hvra hvrb
  have HEQ := Lib.hid (fun w hsa hsb => eq_vars m ca cb Ba Bb VA VB ss w hm hsa hsb)
  have HMI := Lib.hid (fun w hsz ht hsa hra hsb hrb => minus_any m ca cb Ba Bb Ba Bb VA VB (.slice RA rows.length rca) (.slice RB rows.length rcb) valsa valsb rows rows ss w hm hV hok.1 hok.1 hok.2.1 hok.2.1 hok.2.2 hok.2.2 hsz ht hsa hra hsb hrb)
  rw [keepM_same rows rows.length (Nat.le_refl _)] at HMI
  have hf0 : Fr (fun _ => False) w ((w.alloc (.cells #[.slice VA m ca, .slice RA rows.length rca] 63)).alloc (.cells #[.slice VB m cb, .slice RB rows.length rcb] 63)) := ((Fr.refl _ _).alloc _).alloc _
  have HSA := Lib.hid (ownsRow_fr hsa hf0 (fun _ _ h => h))
  have HSB := Lib.hid (ownsRow_fr hsb hf0 (fun _ _ h => h))
  have HRA := Lib.hid (hra.frF hf0)
  have HRB := Lib.hid (hrb.frF hf0)
  have HT := Lib.hid (ht.frF hf0)
  have HF0 := Lib.hid hf0
  have hlen : rows.length ≤ 4096 := hok.1
  have HA := Lib.hid ((Blk.new w 63 #[.slice VA m ca, .slice RA rows.length rca]).alloc (.cells #[.slice VB m cb, .slice RB rows.length rcb] 63))
  have hbb := Blk.new (w.alloc (.cells #[.slice VA m ca, .slice RA rows.length rca] 63)) 63 #[.slice VB m cb, .slice RB rows.length rcb]
  rw [show (w.alloc (.cells #[.slice VA m ca, .slice RA rows.length rca] 63)).heap.size = w.heap.size + 1 by simp] at hbb
  have HB := Lib.hid hbb
  clear hsa hsb hra hrb ht hok hf0 hbb
  have hfd := fld63
  go_enter Tryz.func19, Tryz.ntmps19
  go_wp2_with fail
  generalize (w.alloc (.cells #[.slice VA m ca, .slice RA rows.length rca] 63)).alloc (.cells #[.slice VB m cb, .slice RB rows.length rcb] 63) = w1 at *
  refine (HEQ.out _ HSA.out HSB.out).mono ?_
  rintro e w2 ⟨rfl, q, hq⟩
  have F2 : Fr (fun _ => False) w1 w2 := by rw [hq]; exact (Fr.refl _ _).drewN q
  have HF2 := Lib.hid F2
  have hA2 := HA.out.fr F2 (fun h => h)
  have hB2 := HB.out.fr F2 (fun h => h)
  have a0 : w2.cell? ⟨w.heap.size, 0, none⟩ = some (.slice VA m ca) := hA2.cell 0
  have a1 : w2.cell? ⟨w.heap.size, 1, none⟩ = some (.slice RA rows.length rca) := hA2.cell 1
  have b0 : w2.cell? ⟨w.heap.size + 1, 0, none⟩ = some (.slice VB m cb) := hB2.cell 0
  have b1 : w2.cell? ⟨w.heap.size + 1, 1, none⟩ = some (.slice RB rows.length rcb) := hB2.cell 1
  have hlA := hA2.lt
  have hlB := hB2.lt
  have hs2 := F2.size
  have hs1 := HF0.out.size
  have HM2 := Lib.hid (HMI.out w2 (by omega) (HT.out.frF F2) (ownsRow_fr HSA.out F2 (fun _ _ h => h)) (HRA.out.frF F2) (ownsRow_fr HSB.out F2 (fun _ _ h => h)) (HRB.out.frF F2))
  clear hq F2 hA2 hB2
  go_wp2_with fail
  refine HM2.out.mono ?_
  rintro e w3 ⟨V1, vc1, vr1, vals1, rfl, _, _, hr3, hf3⟩
  obtain ⟨A1, c1, hv1⟩ := row_shape hr3.own
  have hv2 : vr1 = .slice A1 0 c1 := hv1
  subst hv2
  have HF3 := Lib.hid ((HF0.out.trans' HF2.out).trans' hf3)
  clear hr3 hf3 hv1
  go_wp2_with fail
  go_ret
  exact ⟨rfl, HF3.out⟩

end Go.Proofs.YtebddgdkndmpjaaGreatDoor
