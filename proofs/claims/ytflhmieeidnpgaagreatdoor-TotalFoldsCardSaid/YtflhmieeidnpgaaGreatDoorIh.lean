/- The document's numbers: integer, Parse, AsInt: walked. -/
import Derived.Test.YtflhmieeidnpgaaGreatDoorIg
import Derived.Test.YtflhmieeidnpgaaGreatDoorIe
import Derived.Deep.CutBlock
import Derived.Deep.RegionLawGrows
import Derived.Deep.Cut
import Derived.Deep.CutRange
import Derived.WalkKit
import Derived.WalkLawsBesides
import Derived.WalkSpells
import Derived.Deep.QuietTactic
import Derived.BigRegion
import Derived.BigQuiet
import Derived.Lib.Hide
import Derived.Outline
import Derived.Deep.AppendLies
import Derived.Deep.RegionLaw
import Derived.Deep.RegionWith
import Derived.Deep.RegionHeld3
import Derived.Deep.LoopGhost
import Derived.Deep.DeepFit
import Derived.Laws.ResultCell
import Derived.Laws.RangeAny
import Derived.Deep.MidRow
import Derived.StillTailTactics
import Derived.OpenShut
import Derived.IntWalk
namespace Go.Proofs.YtflhmieeidnpgaaGreatDoor
set_option linter.unusedVariables false
open Go.RowKit Go


/-- A literal of an integer, the document's. -/
def intD (n : Int) : DT := ⟨2, ⟨(Lib.itoa n).toArray⟩, xInt, ⟨#[]⟩⟩
theorem intD_ref (n : Int) : (intTm n).ref = intD n := rfl
set_option maxRecDepth 100000 in
set_option maxHeartbeats 4000000 in
theorem integer_any (B : Nat) (x : Value) (a : Int) (w : World) (hla : (digs a.natAbs).length ≤ 1000) (ha : IsBig w B x a) :
    Calls Tryz.prog 30 #[x] w fun e w' => e = .returned (.agg (intD a).cells) ∧ Fr (fun _ => False) w w' := by
  obtain ⟨A1, c1, rfl, hra⟩ := ha.open_
  have HT := Lib.hid (fun wy (hf : Fr (fun _ => False) w wy) => dtext_any B _ a wy hla (ha.fr hf))
  obtain ⟨na, hna⟩ : ∃ n, (digs a.natAbs).length = n := ⟨_, rfl⟩
  obtain ⟨sa, hsa⟩ : ∃ s, decide (a < 0) = s := ⟨_, rfl⟩
  unfold intD DT.cells
  dsimp only
  generalize (⟨(Lib.itoa a).toArray⟩ : ByteArray) = s at *
  have HX := Lib.hid (show xInt = ⟨#[104, 116, 116, 112, 58, 47, 47, 119, 119, 119, 46, 119, 51, 46, 111, 114, 103, 47, 50, 48, 48, 49, 47, 88, 77, 76, 83, 99, 104, 101, 109, 97, 35, 105, 110, 116, 101, 103, 101, 114]⟩ from rfl)
  generalize xInt = xi at *
  rw [hna, hsa] at HT ⊢
  clear hna hsa hra ha
  go_enter Tryz.func30, Tryz.ntmps30
  go_wp2_with fail
  refine (HT.out _ (((Fr.refl _ _).alloc _).alloc _)).mono ?_
  rintro e w1 ⟨rfl, hf1⟩
  have hz := Blk.new (w.alloc (.cells #[.bool sa, .slice A1 na c1] 83)) 41 #[.int .i64 0, .string ⟨#[]⟩, .string ⟨#[]⟩, .string ⟨#[]⟩]
  rw [show (w.alloc (.cells #[.bool sa, .slice A1 na c1] 83)).heap.size = w.heap.size + 1 by simp] at hz
  have hz1 := hz.fr hf1 (fun h => h)
  have HZ := Lib.hid hz1
  have HF1 := Lib.hid ((((Fr.refl (fun _ => False) w).alloc _).alloc _).trans' hf1)
  have z0 := hz1.cell 0
  have z1 := hz1.cell 1
  have z2 := hz1.cell 2
  have z3 := hz1.cell 3
  have y0 := hz1.frozen 0
  have y1 := hz1.frozen 1
  have y2 := hz1.frozen 2
  have y3 := hz1.frozen 3
  simp only [List.getElem?_toArray, List.getElem?_cons_zero, List.getElem?_cons_succ] at z0 z1 z2 z3
  clear hf1 hz hz1
  go_wp2_with fail
  rw [← HX.out]
  exact bodyPost_ret (v := .agg #[.int .i64 2, .string s, .string xi, .string ⟨#[]⟩]) (results_cell_row rfl _ _ (w.heap.size + 1) 41 _ (0, 0) _ rfl ((((HZ.out.set_ 0 (.int .i64 2)).set_ 1 (.string s)).set_ 2 (.string xi)).set_ 3 (.string ⟨#[]⟩)) Tryz.underlying41 rfl (by kernel_rfl)) rfl ⟨rfl, (((HF1.out.setCell ⟨w.heap.size + 1, 0, none⟩ (fun h => absurd h (by simp)) (.int .i64 2)).setCell ⟨w.heap.size + 1, 1, none⟩ (fun h => absurd h (by simp)) (.string s)).setCell ⟨w.heap.size + 1, 2, none⟩ (fun h => absurd h (by simp)) (.string xi)).setCell ⟨w.heap.size + 1, 3, none⟩ (fun h => absurd h (by simp)) (.string ⟨#[]⟩)⟩

theorem blist_get (s : ByteArray) (i : Nat) : byteAt s i = ((s.data.toList.getD i 0).toNat : Int) := rfl
theorem unsign_sign {l : List UInt8} (h0 : 0 < l.length) (h : (l.getD 0 0).toNat = 43 ∨ (l.getD 0 0).toNat = 45) : unsign l = l.drop 1 := by
  cases l with
  | nil => simp at h0
  | cons c r =>
    show (if c.toNat = 43 ∨ c.toNat = 45 then r else c :: r) = r
    rw [if_pos (show c.toNat = 43 ∨ c.toNat = 45 from h)]
theorem unsign_plain {l : List UInt8} (h : ¬ ((l.getD 0 0).toNat = 43 ∨ (l.getD 0 0).toNat = 45)) : unsign l = l.drop 0 := by
  cases l with
  | nil => rfl
  | cons c r =>
    show (if c.toNat = 43 ∨ c.toNat = 45 then r else c :: r) = c :: r
    rw [if_neg (show ¬ (c.toNat = 43 ∨ c.toNat = 45) from h)]
theorem sval_sgn {l : List UInt8} (h0 : 0 < l.length) : sval l = sgn (decide ((l.getD 0 0).toNat = 45)) (dval (bdigs (unsign l))) := by
  have h := uvalF_digs (unsign l) 0
  cases l with
  | nil => simp at h0
  | cons c r =>
    unfold sval sgn
    have hc : (c :: r).head? = some 45 ↔ decide (((c :: r).getD 0 0).toNat = 45) = true := by
      simp only [List.head?_cons, Option.some.injEq, List.getD_cons_zero, decide_eq_true_eq]
      constructor
      · intro h
        rw [h]
        rfl
      · intro h
        apply UInt8.toNat_inj.1
        rw [h]
        rfl
    by_cases e : (c :: r).head? = some 45
    · rw [if_pos e, if_pos (hc.1 e)]
      omega
    · rw [if_neg e, if_neg (fun h => e (hc.2 h))]
      omega
theorem bdigs_step (l : List UInt8) (k : Nat) (h0 : 0 < k) (hk : k ≤ l.length) : bdigs (l.drop (k - 1)) = bdigs (l.drop k) ++ [(l.getD (k - 1) 0).toNat - 48] := by
  have e : l.drop (k - 1) = l.getD (k - 1) 0 :: l.drop k := by
    rw [List.drop_eq_getElem_cons (by omega), List.getD_eq_getElem?_getD, List.getElem?_eq_getElem (by omega), show k - 1 + 1 = k by omega]
    rfl
  rw [e]
  unfold bdigs
  rw [List.map_cons, List.reverse_cons]
theorem bdigs_len (l : List UInt8) : (bdigs l).length = l.length := by simp [bdigs]
theorem dig_off {l : List UInt8} {m k : Nat} (hm : m ≤ k) (hk : k < l.length) (h : ¬ (48 ≤ (l.getD k 0).toNat ∧ (l.getD k 0).toNat ≤ 57)) : digB (l.drop m) = false := by
  cases hd : digB (l.drop m) with
  | false => rfl
  | true =>
    refine absurd (digB_iff.1 hd (l.getD k 0) ?_) h
    rw [List.getD_eq_getElem?_getD, List.getElem?_eq_getElem hk]
    show l[k] ∈ _
    have : l[k] = (l.drop m)[k - m]'(by rw [List.length_drop]; omega) := by
      rw [List.getElem_drop]
      congr 1
      omega
    rw [this]
    exact List.getElem_mem _
theorem dig_all {l : List UInt8} {m : Nat} (h : ∀ j, m ≤ j → j < l.length → 48 ≤ (l.getD j 0).toNat ∧ (l.getD j 0).toNat ≤ 57) : digB (l.drop m) = true := by
  refine digB_iff.2 (fun b hb => ?_)
  obtain ⟨i, hi, rfl⟩ := List.getElem_of_mem hb
  rw [List.length_drop] at hi
  have := h (m + i) (by omega) (by omega)
  rw [List.getD_eq_getElem?_getD, List.getElem?_eq_getElem (by omega)] at this
  rw [List.getElem_drop]
  exact this
def ParsePost (v c : Int) (w : World) (e : Ending) (w' : World) : Prop := ∃ x, e = .returned (.tuple #[x, .int .i64 c]) ∧ IsBig w' w.heap.size x v ∧ Fr (fun _ => False) w w'
theorem big_zero (w : World) (B : Nat) : IsBig w B (.agg #[.bool false, .slice none 0 0]) 0 := ⟨none, 0, by rw [show digs (0 : Int).natAbs = [] from digs_zero]; rfl, by rw [show digs (0 : Int).natAbs = [] from digs_zero]; exact DRow.nil _ _⟩

theorem IsBig.set_ {w : World} {B : Nat} {v : Value} {n : Int} (h : IsBig w B v n) (g i : Nat) (hg : g < B) (u : Value) : IsBig (w.setCell ⟨g, i, none⟩ u) B v n := by
  obtain ⟨A, c, h1, h2⟩ := h
  exact ⟨A, c, h1, ownsRow_set h2 g i hg u⟩
theorem IsBig.base {w : World} {B B' : Nat} {v : Value} {n : Int} (h : IsBig w B v n) (hB : B' ≤ B) : IsBig w B' v n := by
  obtain ⟨A, c, h1, h2⟩ := h
  exact ⟨A, c, h1, ownsRow_base h2 hB⟩
theorem par_row (s : ByteArray) (n k : Nat) (ck : Int) (h0 : 0 < k) (hk : k ≤ s.data.toList.length) (hn : s.data.toList.length = n) (hc : ck = ((s.data.toList.getD (k - 1) 0).toNat : Int)) (hlo : 48 ≤ ck) {w : World} {B g cap : Nat}
    (h : w.ownsRow B 3 1 (.slice (some ⟨g, 0, none⟩) (n - k + 1) cap) (n - k + 1) (((bdigs (s.data.toList.drop k)).map fun d : Nat => Value.int .i64 (d : Int)) ++ [.int .i64 (ck - 48)])) :
    DRow w B (.slice (some ⟨g, 0, none⟩) (n - k + 1) cap) (bdigs (s.data.toList.drop (k - 1))) := by
  unfold DRow
  rw [bdigs_len, List.length_drop, hn, show n - (k - 1) = n - k + 1 by omega, bdigs_step _ k h0 hk, List.map_append, List.map_singleton, show (((s.data.toList.getD (k - 1) 0).toNat - 48 : Nat) : Int) = ck - 48 by omega]
  exact h
set_option maxRecDepth 100000 in
set_option maxHeartbeats 4000000 in
theorem dparse_any (s : ByteArray) (hs : s.size ≤ 4096) (w : World) : Calls Tryz.prog 69 #[.string s] w (ParsePost (vParse s.data.toList).1 (vParse s.data.toList).2 w) := by
  obtain ⟨i3, hi3, hz30, hz31, hz32⟩ := info_parts info3
  obtain ⟨v, c, hvc⟩ : ∃ v c, vParse s.data.toList = (v, c) := ⟨_, _, rfl⟩
  rw [hvc]
  have HVC := Lib.hid hvc
  dsimp only
  have hll : s.data.toList.length = s.size := by simp
  have HLL := Lib.hid hll
  obtain ⟨n, hn⟩ : ∃ n, s.size = n := ⟨_, rfl⟩
  have HN := Lib.hid hn
  have hR := (Blk.new w 83 #[.bool false, .slice none 0 0]).alloc (.cells #[.bool false, .slice none 0 0] 83)
  have HR := Lib.hid hR
  have hL := Blk.new (w.alloc (.cells #[.bool false, .slice none 0 0] 83)) 83 #[.bool false, .slice none 0 0]
  rw [show (w.alloc (.cells #[.bool false, .slice none 0 0] 83)).heap.size = w.heap.size + 1 by simp] at hL
  have HL := Lib.hid hL
  have HIX := Lib.hid (fun (i : Nat) (h : i < s.size) (w : World) => run_index_at h w)
  rw [hn] at hs
  have HRS := Lib.hid (fun (sg : Bool) => (Blk.new w 83 #[.bool false, .slice none 0 0]).alloc (.cells #[.bool sg, .slice none 0 0] 83))
  have HLS := Lib.hid (fun (sg : Bool) => show Blk ((w.alloc (.cells #[.bool false, .slice none 0 0] 83)).alloc (.cells #[.bool sg, .slice none 0 0] 83)) (w.heap.size + 1) 83 #[.bool sg, .slice none 0 0] from by
    have h := Blk.new (w.alloc (.cells #[.bool false, .slice none 0 0] 83)) 83 #[.bool sg, .slice none 0 0]
    rw [show (w.alloc (.cells #[.bool false, .slice none 0 0] 83)).heap.size = w.heap.size + 1 by simp] at h
    exact h)
  have FFX := Lib.hid (fun (sg : Bool) => ((Fr.refl (fun _ => False) w).alloc (.cells #[.bool false, .slice none 0 0] 83)).alloc (.cells #[.bool sg, .slice none 0 0] 83))
  clear hR hL hvc hll HR HL
  by_cases h0 : n = 0
  · subst h0
    have hn1 : (((0 : Nat) : Int) == 0) = true := rfl
    have hus : unsign s.data.toList = [] := by rw [List.eq_nil_of_length_eq_zero (l := s.data.toList) (by rw [HLL.out, HN.out])]; rfl
    have HUS := Lib.hid hus
    clear hus
    go_enter Tryz.func69, Tryz.ntmps69
    obtain ⟨rfl, rfl⟩ := Prod.mk.inj (HVC.out.symm.trans (vParse_none (.inl HUS.out)))
    go_wp2_with fail
    exact bodyPost_ret (v := .tuple #[.agg #[.bool false, .slice none 0 0], .int .i64 1]) (results_c2 rfl _ _ w.heap.size 83 _ (0, 0) _ rfl (HRS.out false) Tryz.underlying83 rfl (by kernel_rfl) _ rfl) rfl ⟨_, rfl, big_zero _ _, FFX.out false⟩
  · have hn0 : (0 : Int) < (n : Int) := by omega
    have hx0 : ∀ w, (Instr.index 9 (.string s) (.int .i64 0)).run Tryz.prog w = .ok (.int .u8 (byteAt s 0)) w := fun w => HIX.out 0 (by omega) w
    obtain ⟨b0, hb0⟩ : ∃ b, byteAt s 0 = b := ⟨_, rfl⟩
    rw [hb0] at hx0
    have hbn : b0 = ((s.data.toList.getD 0 0).toNat : Int) := by rw [← hb0]; rfl
    have HBN := Lib.hid hbn
    have hsz : (s.size : Int) = (n : Int) := by omega
    clear hb0 hbn hn
    by_cases hplus : b0 = 43
    · have hb1 : (b0 == 43) = true := by simp [hplus]
      have HUS := Lib.hid (unsign_sign (l := s.data.toList) (by rw [HLL.out, HN.out]; omega) (by have := HBN.out; omega))
      have hss := sval_sgn (l := s.data.toList) (by rw [HLL.out, HN.out]; omega)
      rw [HUS.out, show decide ((s.data.toList.getD 0 0).toNat = 45) = false by simp only [decide_eq_false_iff_not]; have := HBN.out; omega] at hss
      have HSV := Lib.hid hss.symm
      clear hss
      subst hplus
      by_cases hn1 : n = 1
      · subst hn1
        have HUN := Lib.hid (show unsign s.data.toList = [] by rw [HUS.out]; exact List.drop_of_length_le (by rw [HLL.out, HN.out]; exact Nat.le_refl _))
        go_enter Tryz.func69, Tryz.ntmps69
        obtain ⟨rfl, rfl⟩ := Prod.mk.inj (HVC.out.symm.trans (vParse_none (.inl HUN.out)))
        go_wp2_with fail
        exact bodyPost_ret (v := .tuple #[.agg #[.bool false, .slice none 0 0], .int .i64 1]) (results_c2 rfl _ _ w.heap.size 83 _ (0, 0) _ rfl (HRS.out false) Tryz.underlying83 rfl (by kernel_rfl) _ rfl) rfl ⟨_, rfl, big_zero _ _, FFX.out false⟩
      
      · have hn2 : ((n : Int) == 1) = false := by simp; omega
        go_enter Tryz.func69, Tryz.ntmps69
        go_wp2_with fail
        go_loopw [6] (fun iv wr => ∃ (k : Nat) (A : Option Addr) (cp : Nat), iv = .int .i64 ((k : Int) - 1) ∧ 1 ≤ k ∧ k ≤ n ∧ (∀ j, k ≤ j → j < n → 48 ≤ (s.data.toList.getD j 0).toNat ∧ (s.data.toList.getD j 0).toNat ≤ 57) ∧ Blk wr (w.heap.size + 1) 83 #[.bool false, .slice A (n - k) cp] ∧ DRow wr (w.heap.size + 2) (.slice A (n - k) cp) (bdigs (s.data.toList.drop k)) ∧ Blk wr w.heap.size 83 #[.bool false, .slice none 0 0] ∧ Fr (fun _ => False) w wr ∧ w.heap.size + 2 ≤ wr.heap.size) (fun iv _ => (intOf iv + 1).toNat)
        case atStart => exact ⟨n, none, 0, rfl, by omega, Nat.le_refl _, fun j h1 h2 => absurd h2 (by omega), by rw [Nat.sub_self]; exact HLS.out false, by rw [List.drop_of_length_le (by rw [HLL.out, HN.out]; exact Nat.le_refl _), Nat.sub_self]; exact DRow.nil _ _, HRS.out false, FFX.out false, by simp⟩
        case round =>
          obtain ⟨k, A, cp, rfl, hk1, hk2, hdg, hbl, hrow, hbr, hf, hsz2⟩ := hrel
          have HDG := Lib.hid hdg
          have HBL := Lib.hid hbl
          have HROW := Lib.hid hrow
          have HBR := Lib.hid hbr
          have HF := Lib.hid hf
          have b0' : wr.cell? ⟨w.heap.size + 1, 0, none⟩ = some (.bool false) := hbl.cell 0
          have b1' : wr.cell? ⟨w.heap.size + 1, 1, none⟩ = some (.slice A (n - k) cp) := hbl.cell 1
          have f0' := hbl.frozen 0
          have f1' := hbl.frozen 1
          have r0 : wr.cell? ⟨w.heap.size, 0, none⟩ = some (.bool false) := hbr.cell 0
          have r1 : wr.cell? ⟨w.heap.size, 1, none⟩ = some (.slice none 0 0) := hbr.cell 1
          have s0 := hbr.frozen 0
          have s1 := hbr.frozen 1
          clear hdg hbl hrow hbr hf
          by_cases hkf : k = 1
          · subst hkf
            have hall := dig_all (l := s.data.toList) (m := 1) (fun j h1 h2 => HDG.out j h1 (by rw [← HN.out, ← HLL.out]; exact h2))
            have hne : unsign s.data.toList ≠ [] := by
              rw [HUS.out]
              intro e
              have h := congrArg List.length e
              rw [List.length_drop, HLL.out, HN.out] at h
              simp only [List.length_nil] at h
              omega
            have hvp := vParse_val hne (by rw [HUS.out]; exact hall)
            rw [HVC.out] at hvp
            have hdl : (bdigs (s.data.toList.drop 1)).length ≤ 4096 := by
              rw [bdigs_len, List.length_drop, HLL.out, HN.out]
              omega
            have hnd : (digs (sval s.data.toList).natAbs).length ≤ 4096 := by
              rw [sval_abs, HUS.out]
              exact Nat.le_trans (digs_len _ _ (dval_lt _ (bdigs_lt hall))) hdl
            have htr := trim_any false (w.heap.size + 2) (.slice A (n - 1) cp) (bdigs (s.data.toList.drop 1)) wr hdl (bdigs_lt hall) HROW.out
            rw [HSV.out] at htr
            have HTR := Lib.hid htr
            have HVP := Lib.hid hvp
            have hlt8 : w.heap.size + 1 < wr.heap.size := by omega
            have hlt9 : w.heap.size < wr.heap.size := by omega
            clear htr hvp hne hall hdl
            generalize sval s.data.toList = sv at *
            have HFT := Lib.hid (fun wy v h => fits_any (w.heap.size + 2) v sv wy hnd h)
            obtain ⟨q, hq⟩ : ∃ q, decide (-9223372036854775808 ≤ sv ∧ sv ≤ 9223372036854775807) = q := ⟨_, rfl⟩
            rw [hq] at HFT
            have HQ := Lib.hid hq
            clear hq hnd
            go_wp2_with fail
            with_reducible refine HTR.out.mono ?_
            rintro e w1 ⟨v1, rfl, hbig, hf1⟩
            obtain ⟨A5, c5, rfl, hr5⟩ := hbig.open_
            have hbl1 := HBL.out.fr hf1 (fun h => h)
            have hbr1 := HBR.out.fr hf1 (fun h => h)
            have HBL1 := Lib.hid hbl1
            have HBR1 := Lib.hid hbr1
            have HR5 := Lib.hid hr5
            have HF1 := Lib.hid (HF.out.trans' hf1)
            have p0 := hbl1.cell 0
            have p1 := hbl1.cell 1
            have q0 := hbl1.frozen 0
            have q1 := hbl1.frozen 1
            simp only [List.getElem?_toArray, List.getElem?_cons_zero, List.getElem?_cons_succ] at p0 p1
            clear b0' b1' f0' f1' r0 r1 s0 s1 hbig hf1 hbl1 hbr1 hr5
            have HBG : Hid (IsBig ((w1.setCell ⟨w.heap.size + 1, 0, none⟩ (.bool (decide (sv < 0)))).setCell ⟨w.heap.size + 1, 1, none⟩ (.slice A5 (digs sv.natAbs).length c5)) (w.heap.size + 2) (.agg #[.bool (decide (sv < 0)), .slice A5 (digs sv.natAbs).length c5]) sv) := Lib.hid ⟨A5, c5, rfl, ownsRow_set (ownsRow_set HR5.out (w.heap.size + 1) 0 (by omega) _) (w.heap.size + 1) 1 (by omega) _⟩
            have HF2 := Lib.hid ((HF1.out.setCell ⟨w.heap.size + 1, 0, none⟩ (fun h => absurd h (by simp)) (.bool (decide (sv < 0)))).setCell ⟨w.heap.size + 1, 1, none⟩ (fun h => absurd h (by simp)) (.slice A5 (digs sv.natAbs).length c5))
            have HBL2 := Lib.hid (show Blk _ (w.heap.size + 1) 83 #[.bool (decide (sv < 0)), .slice A5 (digs sv.natAbs).length c5] from (HBL1.out.set_ 0 (.bool (decide (sv < 0)))).set_ 1 (.slice A5 (digs sv.natAbs).length c5))
            have HBR2 := Lib.hid ((HBR1.out.far (p := ⟨w.heap.size + 1, 0, none⟩) (by simp) (.bool (decide (sv < 0)))).far (p := ⟨w.heap.size + 1, 1, none⟩) (by simp) (.slice A5 (digs sv.natAbs).length c5))
            go_wp2_with fail
            with_reducible refine (HFT.out _ _ HBG.out).mono ?_
            rintro e w3 ⟨rfl, hf3⟩
            have hbl3 := HBL2.out.fr hf3 (fun h => h)
            have hbr3 := HBR2.out.fr hf3 (fun h => h)
            have HBR3 := Lib.hid hbr3
            have HF3 := Lib.hid (HF2.out.trans' hf3)
            have HBG3 := Lib.hid (HBG.out.fr hf3)
            have t0 := hbl3.cell 0
            have t1 := hbl3.cell 1
            have u0 := hbr3.cell 0
            have u1 := hbr3.cell 1
            have y0 := hbr3.frozen 0
            have y1 := hbr3.frozen 1
            simp only [List.getElem?_toArray, List.getElem?_cons_zero, List.getElem?_cons_succ] at t0 t1 u0 u1
            clear hbl3 hbr3 hf3 p0 p1 q0 q1
            cases q with
            | true =>
              have hvp := HVP.out
              rw [if_pos (of_decide_eq_true HQ.out)] at hvp
              obtain ⟨rfl, rfl⟩ := Prod.mk.inj hvp
              clear hvp
              go_wp2_with fail
              exact bodyPost_ret (v := .tuple #[.agg #[.bool (decide (v < 0)), .slice A5 (digs v.natAbs).length c5], .int .i64 0]) (results_c2 rfl _ _ w.heap.size 83 _ (0, 0) _ rfl (show Blk _ w.heap.size 83 #[.bool (decide (v < 0)), .slice A5 (digs v.natAbs).length c5] from (HBR3.out.set_ 0 (.bool (decide (v < 0)))).set_ 1 (.slice A5 (digs v.natAbs).length c5)) Tryz.underlying83 rfl (by kernel_rfl) _ rfl) rfl ⟨_, rfl, IsBig.base (IsBig.set_ (IsBig.set_ HBG3.out w.heap.size 0 (by omega) _) w.heap.size 1 (by omega) _) (by omega), ((HF3.out).setCell ⟨w.heap.size, 0, none⟩ (fun h => absurd h (Nat.lt_irrefl _)) (.bool (decide (v < 0)))).setCell ⟨w.heap.size, 1, none⟩ (fun h => absurd h (Nat.lt_irrefl _)) (.slice A5 (digs v.natAbs).length c5)⟩
            | false =>
              have hvp := HVP.out
              rw [if_neg (of_decide_eq_false HQ.out)] at hvp
              obtain ⟨rfl, rfl⟩ := Prod.mk.inj hvp
              clear hvp
              go_wp2_with fail
              exact bodyPost_ret (v := .tuple #[.agg #[.bool false, .slice none 0 0], .int .i64 9]) (results_c2 rfl _ _ w.heap.size 83 _ (0, 0) _ rfl (show Blk _ w.heap.size 83 #[.bool false, .slice none 0 0] from (HBR3.out.set_ 0 (.bool false)).set_ 1 (.slice none 0 0)) Tryz.underlying83 rfl (by kernel_rfl) _ rfl) rfl ⟨_, rfl, big_zero _ _, ((HF3.out).setCell ⟨w.heap.size, 0, none⟩ (fun h => absurd h (Nat.lt_irrefl _)) (.bool false)).setCell ⟨w.heap.size, 1, none⟩ (fun h => absurd h (Nat.lt_irrefl _)) (.slice none 0 0)⟩
          · have hkk : ((k - 1 : Nat) : Int) = (k : Int) - 1 := by omega
            have hge : (1 : Int) ≤ (k : Int) - 1 := by omega
            have hix : ∀ w, (Instr.index 9 (.string s) (.int .i64 ((k : Int) - 1))).run Tryz.prog w = .ok (.int .u8 (byteAt s (k - 1))) w := fun w => by
              have h := HIX.out (k - 1) (by omega) w
              rw [hkk] at h
              exact h
            obtain ⟨ck, hck⟩ : ∃ b, byteAt s (k - 1) = b := ⟨_, rfl⟩
            rw [hck] at hix
            have hcn : ck = ((s.data.toList.getD (k - 1) 0).toNat : Int) := by rw [← hck]; rfl
            have HCN := Lib.hid hcn
            have hc0 : 0 ≤ ck := by omega
            clear hck hcn
            by_cases hlo : ck < 48
            · obtain ⟨rfl, rfl⟩ := Prod.mk.inj (HVC.out.symm.trans (vParse_none (.inr (by rw [HUS.out]; exact dig_off (l := s.data.toList) (m := 1) (k := k - 1) (by omega) (by rw [HLL.out, HN.out]; omega) (by have := HCN.out; omega)))))
              go_wp2_with fail
              exact bodyPost_ret (v := .tuple #[.agg #[.bool false, .slice none 0 0], .int .i64 1]) (results_c2 rfl _ _ w.heap.size 83 _ (0, 0) _ rfl (show Blk _ w.heap.size 83 #[.bool false, .slice none 0 0] from ((HBR.out).set_ 0 (.bool false)).set_ 1 (.slice none 0 0)) Tryz.underlying83 rfl (by kernel_rfl) _ rfl) rfl ⟨_, rfl, big_zero _ _, ((HF.out).setCell ⟨w.heap.size, 0, none⟩ (fun h => absurd h (Nat.lt_irrefl _)) (.bool false)).setCell ⟨w.heap.size, 1, none⟩ (fun h => absurd h (Nat.lt_irrefl _)) (.slice none 0 0)⟩
            · by_cases hhi : 57 < ck
              · obtain ⟨rfl, rfl⟩ := Prod.mk.inj (HVC.out.symm.trans (vParse_none (.inr (by rw [HUS.out]; exact dig_off (l := s.data.toList) (m := 1) (k := k - 1) (by omega) (by rw [HLL.out, HN.out]; omega) (by have := HCN.out; omega)))))
                go_wp2_with fail
                exact bodyPost_ret (v := .tuple #[.agg #[.bool false, .slice none 0 0], .int .i64 1]) (results_c2 rfl _ _ w.heap.size 83 _ (0, 0) _ rfl (show Blk _ w.heap.size 83 #[.bool false, .slice none 0 0] from ((HBR.out).set_ 0 (.bool false)).set_ 1 (.slice none 0 0)) Tryz.underlying83 rfl (by kernel_rfl) _ rfl) rfl ⟨_, rfl, big_zero _ _, ((HF.out).setCell ⟨w.heap.size, 0, none⟩ (fun h => absurd h (Nat.lt_irrefl _)) (.bool false)).setCell ⟨w.heap.size, 1, none⟩ (fun h => absurd h (Nat.lt_irrefl _)) (.slice none 0 0)⟩
              · have hw : IntKind.u8.wrap (ck - 48) = ck - 48 := IntWalk.u8_in _ (by omega)
                have hw2 : IntKind.i64.wrap (ck - 48) = ck - 48 := IntWalk.i64_in _ (by omega)
                have h63 : n - k + 1 ≤ maxLen := (by unfold maxLen; omega)
                have hby : (n - k + 1) * 8 ≤ 140737488355328 := (by omega)
                have hne : (Value.slice A (n - k) cp).ownBlock ≠ some (w.heap.size + 1) := fun e => absurd (World.ownsRow.lt HROW.out _ e).1 (by omega)
                have hne0 : (Value.slice A (n - k) cp).ownBlock ≠ some w.heap.size := fun e => absurd (World.ownsRow.lt HROW.out _ e).1 (by omega)
                have hlb := bdigs_len (s.data.toList.drop k)
                rw [List.length_drop, HLL.out, HN.out] at hlb
                have HLB := Lib.hid hlb
                have hr0 := HROW.out
                unfold DRow at hr0
                rw [hlb] at hr0
                have HROW2 := Lib.hid hr0
                clear hlb hr0
                have hlt8 : w.heap.size + 1 < wr.heap.size := by omega
                have hlt9 : w.heap.size < wr.heap.size := by omega
                go_wp2_with fail
                go_region_law ((refine step_append_lies _ (by rfl) _ _ 48 (by rfl) (w.heap.size + 2) 3 i3 _ 1 8 Tryz.underlying48 hi3 hz30 hz31 hz32 rfl (by decide) (.slice A (n - k) cp) (n - k) ((bdigs (s.data.toList.drop k)).map fun d : Nat => Value.int .i64 (d : Int)) (by rfl) (by exact HROW2.out.alloc _) ⟨wr.heap.size, 0, none⟩ 1 1 [.int .i64 (ck - 48)] (by rfl) rfl (by exact World.news_of_block (heap_alloc_new wr _)) (by intro u hu; rw [List.mem_singleton] at hu; rw [hu]; rfl) (by decide) h63 hby (by simp; omega) (wr.heap.size + 1) (by simp) ?_; intro g cap w6 hown6 hgr6 hor6 hlt6; have hbl6 : Blk w6 (w.heap.size + 1) 83 _ := Blk.fr (w := (wr.alloc _).drew) (HBL.out.alloc _) (Fr.of_grown hgr6) hne; have d1 := hbl6.cell 1; have e1 := hbl6.frozen 1))
                all_goals
                  have F6 : Fr (fun j => (Value.slice A (n - k) cp).ownBlock = some j) wr w6 := (((Fr.refl _ wr).alloc _).drew).trans (Fr.of_grown hgr6) (fun _ _ h => h)
                  have HBR6 := Lib.hid (HBR.out.fr F6 hne0)
                  have HBL6 := Lib.hid hbl6
                  have HF6 := Lib.hid (HF.out.trans F6 (fun j hj h => absurd (World.ownsRow.lt HROW.out j h).1 (by omega)))
                  have hsz6 := F6.size
                  have HO6 := Lib.hid (par_row s n k ck (by omega) (by rw [HLL.out, HN.out]; exact hk2) (by rw [HLL.out, HN.out]) HCN.out (by omega) hown6)
                  clear hown6 hgr6 hor6 hlt6 hbl6 d1 e1 F6
                  go_wp2_with fail
                  go_roundw
                  case rel => exact ⟨k - 1, some ⟨g, 0, none⟩, cap, by rw [hkk], by omega, by omega, fun j h1 h2 => (by
                    by_cases e : j = k - 1
                    · rw [e]
                      have := HCN.out
                      omega
                    · exact HDG.out j (by omega) h2), by rw [show n - (k - 1) = n - k + 1 by omega]; exact HBL6.out.set_ 1 _, by rw [show n - (k - 1) = n - k + 1 by omega]; exact ownsRow_set HO6.out (w.heap.size + 1) 1 (by omega) _, HBR6.out.far (by simp) _, HF6.out.setCell ⟨w.heap.size + 1, 1, none⟩ (fun h => absurd h (by simp)) _, by rw [show (w6.setCell ⟨w.heap.size + 1, 1, none⟩ (.slice (some ⟨g, 0, none⟩) (n - k + 1) cap)).heap.size = w6.heap.size by simp [World.setCell]]; omega⟩
                  case measure => simp only [intOf]; omega
    · by_cases hminus : b0 = 45
      · have hb1 : (b0 == 43) = false := by simp [hplus]
        have HUS := Lib.hid (unsign_sign (l := s.data.toList) (by rw [HLL.out, HN.out]; omega) (by have := HBN.out; omega))
        have hss := sval_sgn (l := s.data.toList) (by rw [HLL.out, HN.out]; omega)
        rw [HUS.out, show decide ((s.data.toList.getD 0 0).toNat = 45) = true by simp only [decide_eq_true_eq]; have := HBN.out; omega] at hss
        have HSV := Lib.hid hss.symm
        clear hss
        subst hminus
        by_cases hn1 : n = 1
        · subst hn1
          have HUN := Lib.hid (show unsign s.data.toList = [] by rw [HUS.out]; exact List.drop_of_length_le (by rw [HLL.out, HN.out]; exact Nat.le_refl _))
          go_enter Tryz.func69, Tryz.ntmps69
          obtain ⟨rfl, rfl⟩ := Prod.mk.inj (HVC.out.symm.trans (vParse_none (.inl HUN.out)))
          go_wp2_with fail
          exact bodyPost_ret (v := .tuple #[.agg #[.bool false, .slice none 0 0], .int .i64 1]) (results_c2 rfl _ _ w.heap.size 83 _ (0, 0) _ rfl (HRS.out true) Tryz.underlying83 rfl (by kernel_rfl) _ rfl) rfl ⟨_, rfl, big_zero _ _, FFX.out true⟩
        
        · have hn2 : ((n : Int) == 1) = false := by simp; omega
          go_enter Tryz.func69, Tryz.ntmps69
          go_wp2_with fail
          go_loopw [6] (fun iv wr => ∃ (k : Nat) (A : Option Addr) (cp : Nat), iv = .int .i64 ((k : Int) - 1) ∧ 1 ≤ k ∧ k ≤ n ∧ (∀ j, k ≤ j → j < n → 48 ≤ (s.data.toList.getD j 0).toNat ∧ (s.data.toList.getD j 0).toNat ≤ 57) ∧ Blk wr (w.heap.size + 1) 83 #[.bool true, .slice A (n - k) cp] ∧ DRow wr (w.heap.size + 2) (.slice A (n - k) cp) (bdigs (s.data.toList.drop k)) ∧ Blk wr w.heap.size 83 #[.bool false, .slice none 0 0] ∧ Fr (fun _ => False) w wr ∧ w.heap.size + 2 ≤ wr.heap.size) (fun iv _ => (intOf iv + 1).toNat)
          case atStart => exact ⟨n, none, 0, rfl, by omega, Nat.le_refl _, fun j h1 h2 => absurd h2 (by omega), by rw [Nat.sub_self]; exact HLS.out true, by rw [List.drop_of_length_le (by rw [HLL.out, HN.out]; exact Nat.le_refl _), Nat.sub_self]; exact DRow.nil _ _, HRS.out true, FFX.out true, by simp⟩
          case round =>
            obtain ⟨k, A, cp, rfl, hk1, hk2, hdg, hbl, hrow, hbr, hf, hsz2⟩ := hrel
            have HDG := Lib.hid hdg
            have HBL := Lib.hid hbl
            have HROW := Lib.hid hrow
            have HBR := Lib.hid hbr
            have HF := Lib.hid hf
            have b0' : wr.cell? ⟨w.heap.size + 1, 0, none⟩ = some (.bool true) := hbl.cell 0
            have b1' : wr.cell? ⟨w.heap.size + 1, 1, none⟩ = some (.slice A (n - k) cp) := hbl.cell 1
            have f0' := hbl.frozen 0
            have f1' := hbl.frozen 1
            have r0 : wr.cell? ⟨w.heap.size, 0, none⟩ = some (.bool false) := hbr.cell 0
            have r1 : wr.cell? ⟨w.heap.size, 1, none⟩ = some (.slice none 0 0) := hbr.cell 1
            have s0 := hbr.frozen 0
            have s1 := hbr.frozen 1
            clear hdg hbl hrow hbr hf
            by_cases hkf : k = 1
            · subst hkf
              have hall := dig_all (l := s.data.toList) (m := 1) (fun j h1 h2 => HDG.out j h1 (by rw [← HN.out, ← HLL.out]; exact h2))
              have hne : unsign s.data.toList ≠ [] := by
                rw [HUS.out]
                intro e
                have h := congrArg List.length e
                rw [List.length_drop, HLL.out, HN.out] at h
                simp only [List.length_nil] at h
                omega
              have hvp := vParse_val hne (by rw [HUS.out]; exact hall)
              rw [HVC.out] at hvp
              have hdl : (bdigs (s.data.toList.drop 1)).length ≤ 4096 := by
                rw [bdigs_len, List.length_drop, HLL.out, HN.out]
                omega
              have hnd : (digs (sval s.data.toList).natAbs).length ≤ 4096 := by
                rw [sval_abs, HUS.out]
                exact Nat.le_trans (digs_len _ _ (dval_lt _ (bdigs_lt hall))) hdl
              have htr := trim_any true (w.heap.size + 2) (.slice A (n - 1) cp) (bdigs (s.data.toList.drop 1)) wr hdl (bdigs_lt hall) HROW.out
              rw [HSV.out] at htr
              have HTR := Lib.hid htr
              have HVP := Lib.hid hvp
              have hlt8 : w.heap.size + 1 < wr.heap.size := by omega
              have hlt9 : w.heap.size < wr.heap.size := by omega
              clear htr hvp hne hall hdl
              generalize sval s.data.toList = sv at *
              have HFT := Lib.hid (fun wy v h => fits_any (w.heap.size + 2) v sv wy hnd h)
              obtain ⟨q, hq⟩ : ∃ q, decide (-9223372036854775808 ≤ sv ∧ sv ≤ 9223372036854775807) = q := ⟨_, rfl⟩
              rw [hq] at HFT
              have HQ := Lib.hid hq
              clear hq hnd
              go_wp2_with fail
              with_reducible refine HTR.out.mono ?_
              rintro e w1 ⟨v1, rfl, hbig, hf1⟩
              obtain ⟨A5, c5, rfl, hr5⟩ := hbig.open_
              have hbl1 := HBL.out.fr hf1 (fun h => h)
              have hbr1 := HBR.out.fr hf1 (fun h => h)
              have HBL1 := Lib.hid hbl1
              have HBR1 := Lib.hid hbr1
              have HR5 := Lib.hid hr5
              have HF1 := Lib.hid (HF.out.trans' hf1)
              have p0 := hbl1.cell 0
              have p1 := hbl1.cell 1
              have q0 := hbl1.frozen 0
              have q1 := hbl1.frozen 1
              simp only [List.getElem?_toArray, List.getElem?_cons_zero, List.getElem?_cons_succ] at p0 p1
              clear b0' b1' f0' f1' r0 r1 s0 s1 hbig hf1 hbl1 hbr1 hr5
              have HBG : Hid (IsBig ((w1.setCell ⟨w.heap.size + 1, 0, none⟩ (.bool (decide (sv < 0)))).setCell ⟨w.heap.size + 1, 1, none⟩ (.slice A5 (digs sv.natAbs).length c5)) (w.heap.size + 2) (.agg #[.bool (decide (sv < 0)), .slice A5 (digs sv.natAbs).length c5]) sv) := Lib.hid ⟨A5, c5, rfl, ownsRow_set (ownsRow_set HR5.out (w.heap.size + 1) 0 (by omega) _) (w.heap.size + 1) 1 (by omega) _⟩
              have HF2 := Lib.hid ((HF1.out.setCell ⟨w.heap.size + 1, 0, none⟩ (fun h => absurd h (by simp)) (.bool (decide (sv < 0)))).setCell ⟨w.heap.size + 1, 1, none⟩ (fun h => absurd h (by simp)) (.slice A5 (digs sv.natAbs).length c5))
              have HBL2 := Lib.hid (show Blk _ (w.heap.size + 1) 83 #[.bool (decide (sv < 0)), .slice A5 (digs sv.natAbs).length c5] from (HBL1.out.set_ 0 (.bool (decide (sv < 0)))).set_ 1 (.slice A5 (digs sv.natAbs).length c5))
              have HBR2 := Lib.hid ((HBR1.out.far (p := ⟨w.heap.size + 1, 0, none⟩) (by simp) (.bool (decide (sv < 0)))).far (p := ⟨w.heap.size + 1, 1, none⟩) (by simp) (.slice A5 (digs sv.natAbs).length c5))
              go_wp2_with fail
              with_reducible refine (HFT.out _ _ HBG.out).mono ?_
              rintro e w3 ⟨rfl, hf3⟩
              have hbl3 := HBL2.out.fr hf3 (fun h => h)
              have hbr3 := HBR2.out.fr hf3 (fun h => h)
              have HBR3 := Lib.hid hbr3
              have HF3 := Lib.hid (HF2.out.trans' hf3)
              have HBG3 := Lib.hid (HBG.out.fr hf3)
              have t0 := hbl3.cell 0
              have t1 := hbl3.cell 1
              have u0 := hbr3.cell 0
              have u1 := hbr3.cell 1
              have y0 := hbr3.frozen 0
              have y1 := hbr3.frozen 1
              simp only [List.getElem?_toArray, List.getElem?_cons_zero, List.getElem?_cons_succ] at t0 t1 u0 u1
              clear hbl3 hbr3 hf3 p0 p1 q0 q1
              cases q with
              | true =>
                have hvp := HVP.out
                rw [if_pos (of_decide_eq_true HQ.out)] at hvp
                obtain ⟨rfl, rfl⟩ := Prod.mk.inj hvp
                clear hvp
                go_wp2_with fail
                exact bodyPost_ret (v := .tuple #[.agg #[.bool (decide (v < 0)), .slice A5 (digs v.natAbs).length c5], .int .i64 0]) (results_c2 rfl _ _ w.heap.size 83 _ (0, 0) _ rfl (show Blk _ w.heap.size 83 #[.bool (decide (v < 0)), .slice A5 (digs v.natAbs).length c5] from (HBR3.out.set_ 0 (.bool (decide (v < 0)))).set_ 1 (.slice A5 (digs v.natAbs).length c5)) Tryz.underlying83 rfl (by kernel_rfl) _ rfl) rfl ⟨_, rfl, IsBig.base (IsBig.set_ (IsBig.set_ HBG3.out w.heap.size 0 (by omega) _) w.heap.size 1 (by omega) _) (by omega), ((HF3.out).setCell ⟨w.heap.size, 0, none⟩ (fun h => absurd h (Nat.lt_irrefl _)) (.bool (decide (v < 0)))).setCell ⟨w.heap.size, 1, none⟩ (fun h => absurd h (Nat.lt_irrefl _)) (.slice A5 (digs v.natAbs).length c5)⟩
              | false =>
                have hvp := HVP.out
                rw [if_neg (of_decide_eq_false HQ.out)] at hvp
                obtain ⟨rfl, rfl⟩ := Prod.mk.inj hvp
                clear hvp
                go_wp2_with fail
                exact bodyPost_ret (v := .tuple #[.agg #[.bool false, .slice none 0 0], .int .i64 9]) (results_c2 rfl _ _ w.heap.size 83 _ (0, 0) _ rfl (show Blk _ w.heap.size 83 #[.bool false, .slice none 0 0] from (HBR3.out.set_ 0 (.bool false)).set_ 1 (.slice none 0 0)) Tryz.underlying83 rfl (by kernel_rfl) _ rfl) rfl ⟨_, rfl, big_zero _ _, ((HF3.out).setCell ⟨w.heap.size, 0, none⟩ (fun h => absurd h (Nat.lt_irrefl _)) (.bool false)).setCell ⟨w.heap.size, 1, none⟩ (fun h => absurd h (Nat.lt_irrefl _)) (.slice none 0 0)⟩
            · have hkk : ((k - 1 : Nat) : Int) = (k : Int) - 1 := by omega
              have hge : (1 : Int) ≤ (k : Int) - 1 := by omega
              have hix : ∀ w, (Instr.index 9 (.string s) (.int .i64 ((k : Int) - 1))).run Tryz.prog w = .ok (.int .u8 (byteAt s (k - 1))) w := fun w => by
                have h := HIX.out (k - 1) (by omega) w
                rw [hkk] at h
                exact h
              obtain ⟨ck, hck⟩ : ∃ b, byteAt s (k - 1) = b := ⟨_, rfl⟩
              rw [hck] at hix
              have hcn : ck = ((s.data.toList.getD (k - 1) 0).toNat : Int) := by rw [← hck]; rfl
              have HCN := Lib.hid hcn
              have hc0 : 0 ≤ ck := by omega
              clear hck hcn
              by_cases hlo : ck < 48
              · obtain ⟨rfl, rfl⟩ := Prod.mk.inj (HVC.out.symm.trans (vParse_none (.inr (by rw [HUS.out]; exact dig_off (l := s.data.toList) (m := 1) (k := k - 1) (by omega) (by rw [HLL.out, HN.out]; omega) (by have := HCN.out; omega)))))
                go_wp2_with fail
                exact bodyPost_ret (v := .tuple #[.agg #[.bool false, .slice none 0 0], .int .i64 1]) (results_c2 rfl _ _ w.heap.size 83 _ (0, 0) _ rfl (show Blk _ w.heap.size 83 #[.bool false, .slice none 0 0] from ((HBR.out).set_ 0 (.bool false)).set_ 1 (.slice none 0 0)) Tryz.underlying83 rfl (by kernel_rfl) _ rfl) rfl ⟨_, rfl, big_zero _ _, ((HF.out).setCell ⟨w.heap.size, 0, none⟩ (fun h => absurd h (Nat.lt_irrefl _)) (.bool false)).setCell ⟨w.heap.size, 1, none⟩ (fun h => absurd h (Nat.lt_irrefl _)) (.slice none 0 0)⟩
              · by_cases hhi : 57 < ck
                · obtain ⟨rfl, rfl⟩ := Prod.mk.inj (HVC.out.symm.trans (vParse_none (.inr (by rw [HUS.out]; exact dig_off (l := s.data.toList) (m := 1) (k := k - 1) (by omega) (by rw [HLL.out, HN.out]; omega) (by have := HCN.out; omega)))))
                  go_wp2_with fail
                  exact bodyPost_ret (v := .tuple #[.agg #[.bool false, .slice none 0 0], .int .i64 1]) (results_c2 rfl _ _ w.heap.size 83 _ (0, 0) _ rfl (show Blk _ w.heap.size 83 #[.bool false, .slice none 0 0] from ((HBR.out).set_ 0 (.bool false)).set_ 1 (.slice none 0 0)) Tryz.underlying83 rfl (by kernel_rfl) _ rfl) rfl ⟨_, rfl, big_zero _ _, ((HF.out).setCell ⟨w.heap.size, 0, none⟩ (fun h => absurd h (Nat.lt_irrefl _)) (.bool false)).setCell ⟨w.heap.size, 1, none⟩ (fun h => absurd h (Nat.lt_irrefl _)) (.slice none 0 0)⟩
                · have hw : IntKind.u8.wrap (ck - 48) = ck - 48 := IntWalk.u8_in _ (by omega)
                  have hw2 : IntKind.i64.wrap (ck - 48) = ck - 48 := IntWalk.i64_in _ (by omega)
                  have h63 : n - k + 1 ≤ maxLen := (by unfold maxLen; omega)
                  have hby : (n - k + 1) * 8 ≤ 140737488355328 := (by omega)
                  have hne : (Value.slice A (n - k) cp).ownBlock ≠ some (w.heap.size + 1) := fun e => absurd (World.ownsRow.lt HROW.out _ e).1 (by omega)
                  have hne0 : (Value.slice A (n - k) cp).ownBlock ≠ some w.heap.size := fun e => absurd (World.ownsRow.lt HROW.out _ e).1 (by omega)
                  have hlb := bdigs_len (s.data.toList.drop k)
                  rw [List.length_drop, HLL.out, HN.out] at hlb
                  have HLB := Lib.hid hlb
                  have hr0 := HROW.out
                  unfold DRow at hr0
                  rw [hlb] at hr0
                  have HROW2 := Lib.hid hr0
                  clear hlb hr0
                  have hlt8 : w.heap.size + 1 < wr.heap.size := by omega
                  have hlt9 : w.heap.size < wr.heap.size := by omega
                  go_wp2_with fail
                  go_region_law ((refine step_append_lies _ (by rfl) _ _ 48 (by rfl) (w.heap.size + 2) 3 i3 _ 1 8 Tryz.underlying48 hi3 hz30 hz31 hz32 rfl (by decide) (.slice A (n - k) cp) (n - k) ((bdigs (s.data.toList.drop k)).map fun d : Nat => Value.int .i64 (d : Int)) (by rfl) (by exact HROW2.out.alloc _) ⟨wr.heap.size, 0, none⟩ 1 1 [.int .i64 (ck - 48)] (by rfl) rfl (by exact World.news_of_block (heap_alloc_new wr _)) (by intro u hu; rw [List.mem_singleton] at hu; rw [hu]; rfl) (by decide) h63 hby (by simp; omega) (wr.heap.size + 1) (by simp) ?_; intro g cap w6 hown6 hgr6 hor6 hlt6; have hbl6 : Blk w6 (w.heap.size + 1) 83 _ := Blk.fr (w := (wr.alloc _).drew) (HBL.out.alloc _) (Fr.of_grown hgr6) hne; have d1 := hbl6.cell 1; have e1 := hbl6.frozen 1))
                  all_goals
                    have F6 : Fr (fun j => (Value.slice A (n - k) cp).ownBlock = some j) wr w6 := (((Fr.refl _ wr).alloc _).drew).trans (Fr.of_grown hgr6) (fun _ _ h => h)
                    have HBR6 := Lib.hid (HBR.out.fr F6 hne0)
                    have HBL6 := Lib.hid hbl6
                    have HF6 := Lib.hid (HF.out.trans F6 (fun j hj h => absurd (World.ownsRow.lt HROW.out j h).1 (by omega)))
                    have hsz6 := F6.size
                    have HO6 := Lib.hid (par_row s n k ck (by omega) (by rw [HLL.out, HN.out]; exact hk2) (by rw [HLL.out, HN.out]) HCN.out (by omega) hown6)
                    clear hown6 hgr6 hor6 hlt6 hbl6 d1 e1 F6
                    go_wp2_with fail
                    go_roundw
                    case rel => exact ⟨k - 1, some ⟨g, 0, none⟩, cap, by rw [hkk], by omega, by omega, fun j h1 h2 => (by
                      by_cases e : j = k - 1
                      · rw [e]
                        have := HCN.out
                        omega
                      · exact HDG.out j (by omega) h2), by rw [show n - (k - 1) = n - k + 1 by omega]; exact HBL6.out.set_ 1 _, by rw [show n - (k - 1) = n - k + 1 by omega]; exact ownsRow_set HO6.out (w.heap.size + 1) 1 (by omega) _, HBR6.out.far (by simp) _, HF6.out.setCell ⟨w.heap.size + 1, 1, none⟩ (fun h => absurd h (by simp)) _, by rw [show (w6.setCell ⟨w.heap.size + 1, 1, none⟩ (.slice (some ⟨g, 0, none⟩) (n - k + 1) cap)).heap.size = w6.heap.size by simp [World.setCell]]; omega⟩
                    case measure => simp only [intOf]; omega
      · have hb1 : (b0 == 43) = false := by simp [hplus]
        have hb2 : (b0 == 45) = false := by simp [hminus]
        have HUS := Lib.hid (unsign_plain (l := s.data.toList) (by have := HBN.out; omega))
        have hss := sval_sgn (l := s.data.toList) (by rw [HLL.out, HN.out]; omega)
        rw [HUS.out, show decide ((s.data.toList.getD 0 0).toNat = 45) = false by simp only [decide_eq_false_iff_not]; have := HBN.out; omega] at hss
        have HSV := Lib.hid hss.symm
        clear hss
        have hn1 : ((n : Int) == 0) = false := by simp [h0]
        go_enter Tryz.func69, Tryz.ntmps69
        go_wp2_with fail
        go_loopw [6] (fun iv wr => ∃ (k : Nat) (A : Option Addr) (cp : Nat), iv = .int .i64 ((k : Int) - 1) ∧ 0 ≤ k ∧ k ≤ n ∧ (∀ j, k ≤ j → j < n → 48 ≤ (s.data.toList.getD j 0).toNat ∧ (s.data.toList.getD j 0).toNat ≤ 57) ∧ Blk wr (w.heap.size + 1) 83 #[.bool false, .slice A (n - k) cp] ∧ DRow wr (w.heap.size + 2) (.slice A (n - k) cp) (bdigs (s.data.toList.drop k)) ∧ Blk wr w.heap.size 83 #[.bool false, .slice none 0 0] ∧ Fr (fun _ => False) w wr ∧ w.heap.size + 2 ≤ wr.heap.size) (fun iv _ => (intOf iv + 1).toNat)
        case atStart => exact ⟨n, none, 0, rfl, by omega, Nat.le_refl _, fun j h1 h2 => absurd h2 (by omega), by rw [Nat.sub_self]; exact HLS.out false, by rw [List.drop_of_length_le (by rw [HLL.out, HN.out]; exact Nat.le_refl _), Nat.sub_self]; exact DRow.nil _ _, HRS.out false, FFX.out false, by simp⟩
        case round =>
          obtain ⟨k, A, cp, rfl, hk1, hk2, hdg, hbl, hrow, hbr, hf, hsz2⟩ := hrel
          have HDG := Lib.hid hdg
          have HBL := Lib.hid hbl
          have HROW := Lib.hid hrow
          have HBR := Lib.hid hbr
          have HF := Lib.hid hf
          have b0' : wr.cell? ⟨w.heap.size + 1, 0, none⟩ = some (.bool false) := hbl.cell 0
          have b1' : wr.cell? ⟨w.heap.size + 1, 1, none⟩ = some (.slice A (n - k) cp) := hbl.cell 1
          have f0' := hbl.frozen 0
          have f1' := hbl.frozen 1
          have r0 : wr.cell? ⟨w.heap.size, 0, none⟩ = some (.bool false) := hbr.cell 0
          have r1 : wr.cell? ⟨w.heap.size, 1, none⟩ = some (.slice none 0 0) := hbr.cell 1
          have s0 := hbr.frozen 0
          have s1 := hbr.frozen 1
          clear hdg hbl hrow hbr hf
          by_cases hkf : k = 0
          · subst hkf
            have hall := dig_all (l := s.data.toList) (m := 0) (fun j h1 h2 => HDG.out j h1 (by rw [← HN.out, ← HLL.out]; exact h2))
            have hne : unsign s.data.toList ≠ [] := by
              rw [HUS.out]
              intro e
              have h := congrArg List.length e
              rw [List.length_drop, HLL.out, HN.out] at h
              simp only [List.length_nil] at h
              omega
            have hvp := vParse_val hne (by rw [HUS.out]; exact hall)
            rw [HVC.out] at hvp
            have hdl : (bdigs (s.data.toList.drop 0)).length ≤ 4096 := by
              rw [bdigs_len, List.length_drop, HLL.out, HN.out]
              omega
            have hnd : (digs (sval s.data.toList).natAbs).length ≤ 4096 := by
              rw [sval_abs, HUS.out]
              exact Nat.le_trans (digs_len _ _ (dval_lt _ (bdigs_lt hall))) hdl
            have htr := trim_any false (w.heap.size + 2) (.slice A (n) cp) (bdigs (s.data.toList.drop 0)) wr hdl (bdigs_lt hall) HROW.out
            rw [HSV.out] at htr
            have HTR := Lib.hid htr
            have HVP := Lib.hid hvp
            have hlt8 : w.heap.size + 1 < wr.heap.size := by omega
            have hlt9 : w.heap.size < wr.heap.size := by omega
            clear htr hvp hne hall hdl
            generalize sval s.data.toList = sv at *
            have HFT := Lib.hid (fun wy v h => fits_any (w.heap.size + 2) v sv wy hnd h)
            obtain ⟨q, hq⟩ : ∃ q, decide (-9223372036854775808 ≤ sv ∧ sv ≤ 9223372036854775807) = q := ⟨_, rfl⟩
            rw [hq] at HFT
            have HQ := Lib.hid hq
            clear hq hnd
            go_wp2_with fail
            with_reducible refine HTR.out.mono ?_
            rintro e w1 ⟨v1, rfl, hbig, hf1⟩
            obtain ⟨A5, c5, rfl, hr5⟩ := hbig.open_
            have hbl1 := HBL.out.fr hf1 (fun h => h)
            have hbr1 := HBR.out.fr hf1 (fun h => h)
            have HBL1 := Lib.hid hbl1
            have HBR1 := Lib.hid hbr1
            have HR5 := Lib.hid hr5
            have HF1 := Lib.hid (HF.out.trans' hf1)
            have p0 := hbl1.cell 0
            have p1 := hbl1.cell 1
            have q0 := hbl1.frozen 0
            have q1 := hbl1.frozen 1
            simp only [List.getElem?_toArray, List.getElem?_cons_zero, List.getElem?_cons_succ] at p0 p1
            clear b0' b1' f0' f1' r0 r1 s0 s1 hbig hf1 hbl1 hbr1 hr5
            have HBG : Hid (IsBig ((w1.setCell ⟨w.heap.size + 1, 0, none⟩ (.bool (decide (sv < 0)))).setCell ⟨w.heap.size + 1, 1, none⟩ (.slice A5 (digs sv.natAbs).length c5)) (w.heap.size + 2) (.agg #[.bool (decide (sv < 0)), .slice A5 (digs sv.natAbs).length c5]) sv) := Lib.hid ⟨A5, c5, rfl, ownsRow_set (ownsRow_set HR5.out (w.heap.size + 1) 0 (by omega) _) (w.heap.size + 1) 1 (by omega) _⟩
            have HF2 := Lib.hid ((HF1.out.setCell ⟨w.heap.size + 1, 0, none⟩ (fun h => absurd h (by simp)) (.bool (decide (sv < 0)))).setCell ⟨w.heap.size + 1, 1, none⟩ (fun h => absurd h (by simp)) (.slice A5 (digs sv.natAbs).length c5))
            have HBL2 := Lib.hid (show Blk _ (w.heap.size + 1) 83 #[.bool (decide (sv < 0)), .slice A5 (digs sv.natAbs).length c5] from (HBL1.out.set_ 0 (.bool (decide (sv < 0)))).set_ 1 (.slice A5 (digs sv.natAbs).length c5))
            have HBR2 := Lib.hid ((HBR1.out.far (p := ⟨w.heap.size + 1, 0, none⟩) (by simp) (.bool (decide (sv < 0)))).far (p := ⟨w.heap.size + 1, 1, none⟩) (by simp) (.slice A5 (digs sv.natAbs).length c5))
            go_wp2_with fail
            with_reducible refine (HFT.out _ _ HBG.out).mono ?_
            rintro e w3 ⟨rfl, hf3⟩
            have hbl3 := HBL2.out.fr hf3 (fun h => h)
            have hbr3 := HBR2.out.fr hf3 (fun h => h)
            have HBR3 := Lib.hid hbr3
            have HF3 := Lib.hid (HF2.out.trans' hf3)
            have HBG3 := Lib.hid (HBG.out.fr hf3)
            have t0 := hbl3.cell 0
            have t1 := hbl3.cell 1
            have u0 := hbr3.cell 0
            have u1 := hbr3.cell 1
            have y0 := hbr3.frozen 0
            have y1 := hbr3.frozen 1
            simp only [List.getElem?_toArray, List.getElem?_cons_zero, List.getElem?_cons_succ] at t0 t1 u0 u1
            clear hbl3 hbr3 hf3 p0 p1 q0 q1
            cases q with
            | true =>
              have hvp := HVP.out
              rw [if_pos (of_decide_eq_true HQ.out)] at hvp
              obtain ⟨rfl, rfl⟩ := Prod.mk.inj hvp
              clear hvp
              go_wp2_with fail
              exact bodyPost_ret (v := .tuple #[.agg #[.bool (decide (v < 0)), .slice A5 (digs v.natAbs).length c5], .int .i64 0]) (results_c2 rfl _ _ w.heap.size 83 _ (0, 0) _ rfl (show Blk _ w.heap.size 83 #[.bool (decide (v < 0)), .slice A5 (digs v.natAbs).length c5] from (HBR3.out.set_ 0 (.bool (decide (v < 0)))).set_ 1 (.slice A5 (digs v.natAbs).length c5)) Tryz.underlying83 rfl (by kernel_rfl) _ rfl) rfl ⟨_, rfl, IsBig.base (IsBig.set_ (IsBig.set_ HBG3.out w.heap.size 0 (by omega) _) w.heap.size 1 (by omega) _) (by omega), ((HF3.out).setCell ⟨w.heap.size, 0, none⟩ (fun h => absurd h (Nat.lt_irrefl _)) (.bool (decide (v < 0)))).setCell ⟨w.heap.size, 1, none⟩ (fun h => absurd h (Nat.lt_irrefl _)) (.slice A5 (digs v.natAbs).length c5)⟩
            | false =>
              have hvp := HVP.out
              rw [if_neg (of_decide_eq_false HQ.out)] at hvp
              obtain ⟨rfl, rfl⟩ := Prod.mk.inj hvp
              clear hvp
              go_wp2_with fail
              exact bodyPost_ret (v := .tuple #[.agg #[.bool false, .slice none 0 0], .int .i64 9]) (results_c2 rfl _ _ w.heap.size 83 _ (0, 0) _ rfl (show Blk _ w.heap.size 83 #[.bool false, .slice none 0 0] from (HBR3.out.set_ 0 (.bool false)).set_ 1 (.slice none 0 0)) Tryz.underlying83 rfl (by kernel_rfl) _ rfl) rfl ⟨_, rfl, big_zero _ _, ((HF3.out).setCell ⟨w.heap.size, 0, none⟩ (fun h => absurd h (Nat.lt_irrefl _)) (.bool false)).setCell ⟨w.heap.size, 1, none⟩ (fun h => absurd h (Nat.lt_irrefl _)) (.slice none 0 0)⟩
          · have hkk : ((k - 1 : Nat) : Int) = (k : Int) - 1 := by omega
            have hge : (0 : Int) ≤ (k : Int) - 1 := by omega
            have hix : ∀ w, (Instr.index 9 (.string s) (.int .i64 ((k : Int) - 1))).run Tryz.prog w = .ok (.int .u8 (byteAt s (k - 1))) w := fun w => by
              have h := HIX.out (k - 1) (by omega) w
              rw [hkk] at h
              exact h
            obtain ⟨ck, hck⟩ : ∃ b, byteAt s (k - 1) = b := ⟨_, rfl⟩
            rw [hck] at hix
            have hcn : ck = ((s.data.toList.getD (k - 1) 0).toNat : Int) := by rw [← hck]; rfl
            have HCN := Lib.hid hcn
            have hc0 : 0 ≤ ck := by omega
            clear hck hcn
            by_cases hlo : ck < 48
            · obtain ⟨rfl, rfl⟩ := Prod.mk.inj (HVC.out.symm.trans (vParse_none (.inr (by rw [HUS.out]; exact dig_off (l := s.data.toList) (m := 0) (k := k - 1) (by omega) (by rw [HLL.out, HN.out]; omega) (by have := HCN.out; omega)))))
              go_wp2_with fail
              exact bodyPost_ret (v := .tuple #[.agg #[.bool false, .slice none 0 0], .int .i64 1]) (results_c2 rfl _ _ w.heap.size 83 _ (0, 0) _ rfl (show Blk _ w.heap.size 83 #[.bool false, .slice none 0 0] from ((HBR.out).set_ 0 (.bool false)).set_ 1 (.slice none 0 0)) Tryz.underlying83 rfl (by kernel_rfl) _ rfl) rfl ⟨_, rfl, big_zero _ _, ((HF.out).setCell ⟨w.heap.size, 0, none⟩ (fun h => absurd h (Nat.lt_irrefl _)) (.bool false)).setCell ⟨w.heap.size, 1, none⟩ (fun h => absurd h (Nat.lt_irrefl _)) (.slice none 0 0)⟩
            · by_cases hhi : 57 < ck
              · obtain ⟨rfl, rfl⟩ := Prod.mk.inj (HVC.out.symm.trans (vParse_none (.inr (by rw [HUS.out]; exact dig_off (l := s.data.toList) (m := 0) (k := k - 1) (by omega) (by rw [HLL.out, HN.out]; omega) (by have := HCN.out; omega)))))
                go_wp2_with fail
                exact bodyPost_ret (v := .tuple #[.agg #[.bool false, .slice none 0 0], .int .i64 1]) (results_c2 rfl _ _ w.heap.size 83 _ (0, 0) _ rfl (show Blk _ w.heap.size 83 #[.bool false, .slice none 0 0] from ((HBR.out).set_ 0 (.bool false)).set_ 1 (.slice none 0 0)) Tryz.underlying83 rfl (by kernel_rfl) _ rfl) rfl ⟨_, rfl, big_zero _ _, ((HF.out).setCell ⟨w.heap.size, 0, none⟩ (fun h => absurd h (Nat.lt_irrefl _)) (.bool false)).setCell ⟨w.heap.size, 1, none⟩ (fun h => absurd h (Nat.lt_irrefl _)) (.slice none 0 0)⟩
              · have hw : IntKind.u8.wrap (ck - 48) = ck - 48 := IntWalk.u8_in _ (by omega)
                have hw2 : IntKind.i64.wrap (ck - 48) = ck - 48 := IntWalk.i64_in _ (by omega)
                have h63 : n - k + 1 ≤ maxLen := (by unfold maxLen; omega)
                have hby : (n - k + 1) * 8 ≤ 140737488355328 := (by omega)
                have hne : (Value.slice A (n - k) cp).ownBlock ≠ some (w.heap.size + 1) := fun e => absurd (World.ownsRow.lt HROW.out _ e).1 (by omega)
                have hne0 : (Value.slice A (n - k) cp).ownBlock ≠ some w.heap.size := fun e => absurd (World.ownsRow.lt HROW.out _ e).1 (by omega)
                have hlb := bdigs_len (s.data.toList.drop k)
                rw [List.length_drop, HLL.out, HN.out] at hlb
                have HLB := Lib.hid hlb
                have hr0 := HROW.out
                unfold DRow at hr0
                rw [hlb] at hr0
                have HROW2 := Lib.hid hr0
                clear hlb hr0
                have hlt8 : w.heap.size + 1 < wr.heap.size := by omega
                have hlt9 : w.heap.size < wr.heap.size := by omega
                go_wp2_with fail
                go_region_law ((refine step_append_lies _ (by rfl) _ _ 48 (by rfl) (w.heap.size + 2) 3 i3 _ 1 8 Tryz.underlying48 hi3 hz30 hz31 hz32 rfl (by decide) (.slice A (n - k) cp) (n - k) ((bdigs (s.data.toList.drop k)).map fun d : Nat => Value.int .i64 (d : Int)) (by rfl) (by exact HROW2.out.alloc _) ⟨wr.heap.size, 0, none⟩ 1 1 [.int .i64 (ck - 48)] (by rfl) rfl (by exact World.news_of_block (heap_alloc_new wr _)) (by intro u hu; rw [List.mem_singleton] at hu; rw [hu]; rfl) (by decide) h63 hby (by simp; omega) (wr.heap.size + 1) (by simp) ?_; intro g cap w6 hown6 hgr6 hor6 hlt6; have hbl6 : Blk w6 (w.heap.size + 1) 83 _ := Blk.fr (w := (wr.alloc _).drew) (HBL.out.alloc _) (Fr.of_grown hgr6) hne; have d1 := hbl6.cell 1; have e1 := hbl6.frozen 1))
                all_goals
                  have F6 : Fr (fun j => (Value.slice A (n - k) cp).ownBlock = some j) wr w6 := (((Fr.refl _ wr).alloc _).drew).trans (Fr.of_grown hgr6) (fun _ _ h => h)
                  have HBR6 := Lib.hid (HBR.out.fr F6 hne0)
                  have HBL6 := Lib.hid hbl6
                  have HF6 := Lib.hid (HF.out.trans F6 (fun j hj h => absurd (World.ownsRow.lt HROW.out j h).1 (by omega)))
                  have hsz6 := F6.size
                  have HO6 := Lib.hid (par_row s n k ck (by omega) (by rw [HLL.out, HN.out]; exact hk2) (by rw [HLL.out, HN.out]) HCN.out (by omega) hown6)
                  clear hown6 hgr6 hor6 hlt6 hbl6 d1 e1 F6
                  go_wp2_with fail
                  go_roundw
                  case rel => exact ⟨k - 1, some ⟨g, 0, none⟩, cap, by rw [hkk], by omega, by omega, fun j h1 h2 => (by
                    by_cases e : j = k - 1
                    · rw [e]
                      have := HCN.out
                      omega
                    · exact HDG.out j (by omega) h2), by rw [show n - (k - 1) = n - k + 1 by omega]; exact HBL6.out.set_ 1 _, by rw [show n - (k - 1) = n - k + 1 by omega]; exact ownsRow_set HO6.out (w.heap.size + 1) 1 (by omega) _, HBR6.out.far (by simp) _, HF6.out.setCell ⟨w.heap.size + 1, 1, none⟩ (fun h => absurd h (by simp)) _, by rw [show (w6.setCell ⟨w.heap.size + 1, 1, none⟩ (.slice (some ⟨g, 0, none⟩) (n - k + 1) cap)).heap.size = w6.heap.size by simp [World.setCell]]; omega⟩
                  case measure => simp only [intOf]; omega

set_option maxRecDepth 100000 in
set_option maxHeartbeats 4000000 in
theorem dasInt_any (x : DT) (hs : x.text.size ≤ 4096) (w : World) : Calls Tryz.prog 33 #[.agg x.cells] w (ParsePost (asIntD x).1 (asIntD x).2 w) := by
  obtain ⟨k, tx, ty, tl⟩ := x
  unfold asIntD DT.cells
  dsimp only at hs ⊢
  have HP := Lib.hid (fun wy => dparse_any tx hs wy)
  have hB := (Blk.new w 41 #[.int .i64 k, .string tx, .string ty, .string tl]).alloc (.cells #[.bool false, .slice none 0 0] 83)
  have hZ := Blk.new (w.alloc (.cells #[.int .i64 k, .string tx, .string ty, .string tl] 41)) 83 #[.bool false, .slice none 0 0]
  rw [show (w.alloc (.cells #[.int .i64 k, .string tx, .string ty, .string tl] 41)).heap.size = w.heap.size + 1 by simp] at hZ
  have HB := Lib.hid hB
  have HZ := Lib.hid hZ
  have HX := Lib.hid (show xInt.toList = [104, 116, 116, 112, 58, 47, 47, 119, 119, 119, 46, 119, 51, 46, 111, 114, 103, 47, 50, 48, 48, 49, 47, 88, 77, 76, 83, 99, 104, 101, 109, 97, 35, 105, 110, 116, 101, 103, 101, 114] by decide +kernel)
  clear hB hZ hs
  by_cases hk : k = 2
  · subst hk
    cases ht : (ty.toList == xInt.toList) with
    | false =>
      rw [if_neg (by simp)]
      rw [HX.out] at ht
      have ht2 : (ty.toList != [104, 116, 116, 112, 58, 47, 47, 119, 119, 119, 46, 119, 51, 46, 111, 114, 103, 47, 50, 48, 48, 49, 47, 88, 77, 76, 83, 99, 104, 101, 109, 97, 35, 105, 110, 116, 101, 103, 101, 114]) = true := by rw [bne, ht]; rfl
      go_enter Tryz.func33, Tryz.ntmps33
      go_wp2_with fail
      exact bodyPost_ret (v := .tuple #[.agg #[.bool false, .slice none 0 0], .int .i64 10]) (results_c2 rfl _ _ (w.heap.size + 1) 83 _ (0, 0) _ rfl HZ.out Tryz.underlying83 rfl (by kernel_rfl) _ rfl) rfl ⟨_, rfl, big_zero _ _, ((Fr.refl (fun _ => False) w).alloc (.cells #[.int .i64 2, .string tx, .string ty, .string tl] 41)).alloc (.cells #[.bool false, .slice none 0 0] 83)⟩
    | true =>
      rw [if_pos ⟨rfl, rfl⟩]
      rw [HX.out] at ht
      have ht2 : (ty.toList != [104, 116, 116, 112, 58, 47, 47, 119, 119, 119, 46, 119, 51, 46, 111, 114, 103, 47, 50, 48, 48, 49, 47, 88, 77, 76, 83, 99, 104, 101, 109, 97, 35, 105, 110, 116, 101, 103, 101, 114]) = false := by rw [bne, ht]; rfl
      obtain ⟨v, c, hvc⟩ : ∃ v c, vParse tx.data.toList = (v, c) := ⟨_, _, rfl⟩
      rw [hvc] at HP ⊢
      dsimp only at HP ⊢
      clear hvc
      by_cases hc : c = 1
      · subst hc
        rw [if_pos rfl]
        go_enter Tryz.func33, Tryz.ntmps33
        go_wp2_with fail
        with_reducible refine (HP.out _).mono ?_
        rintro e w1 ⟨x1, rfl, hbig, hf1⟩
        obtain ⟨A5, c5, rfl, hr5⟩ := hbig.open_
        have HR5 : Hid (DRow w1 (w.heap.size + 2) (.slice A5 (digs v.natAbs).length c5) (digs v.natAbs)) := Lib.hid (ownsRow_base hr5 (by simp))
        have hz1 := HZ.out.fr hf1 (fun h => h)
        have HZ1 := Lib.hid hz1
        have HF1 := Lib.hid ((((Fr.refl (fun _ => False) w).alloc (.cells #[.int .i64 2, .string tx, .string ty, .string tl] 41)).alloc (.cells #[.bool false, .slice none 0 0] 83)).trans' hf1)
        have p0 := hz1.cell 0
        have p1 := hz1.cell 1
        have q0 := hz1.frozen 0
        have q1 := hz1.frozen 1
        have hlt := hz1.lt
        simp only [List.getElem?_toArray, List.getElem?_cons_zero, List.getElem?_cons_succ] at p0 p1
        clear hz1 hf1 hr5 hbig
        go_wp2_with fail
        exact bodyPost_ret (v := .tuple #[.agg #[.bool (decide (v < 0)), .slice A5 (digs v.natAbs).length c5], .int .i64 3]) (results_c2 rfl _ _ (w.heap.size + 1) 83 _ (0, 0) _ rfl (show Blk _ (w.heap.size + 1) 83 #[.bool (decide (v < 0)), .slice A5 (digs v.natAbs).length c5] from ((HZ1.out.set_ 0 (.bool (decide (v < 0)))).set_ 1 (.slice A5 (digs v.natAbs).length c5)).alloc (.cells #[.bool (decide (v < 0)), .slice A5 (digs v.natAbs).length c5] 83)) Tryz.underlying83 rfl (by kernel_rfl) _ rfl) rfl ⟨_, rfl, ⟨A5, c5, rfl, ownsRow_base (World.ownsRow.alloc (ownsRow_set (ownsRow_set HR5.out (w.heap.size + 1) 0 (by omega) _) (w.heap.size + 1) 1 (by omega) _) _) (by omega)⟩, ((HF1.out.setCell ⟨w.heap.size + 1, 0, none⟩ (fun h => absurd h (by simp)) (.bool (decide (v < 0)))).setCell ⟨w.heap.size + 1, 1, none⟩ (fun h => absurd h (by simp)) (.slice A5 (digs v.natAbs).length c5)).alloc (.cells #[.bool (decide (v < 0)), .slice A5 (digs v.natAbs).length c5] 83)⟩
      · have hc' : (c == 1) = false := by simp [hc]
        rw [if_neg hc]
        go_enter Tryz.func33, Tryz.ntmps33
        go_wp2_with fail
        with_reducible refine (HP.out _).mono ?_
        rintro e w1 ⟨x1, rfl, hbig, hf1⟩
        obtain ⟨A5, c5, rfl, hr5⟩ := hbig.open_
        have HR5 : Hid (DRow w1 (w.heap.size + 2) (.slice A5 (digs v.natAbs).length c5) (digs v.natAbs)) := Lib.hid (ownsRow_base hr5 (by simp))
        have hz1 := HZ.out.fr hf1 (fun h => h)
        have HZ1 := Lib.hid hz1
        have HF1 := Lib.hid ((((Fr.refl (fun _ => False) w).alloc (.cells #[.int .i64 2, .string tx, .string ty, .string tl] 41)).alloc (.cells #[.bool false, .slice none 0 0] 83)).trans' hf1)
        have p0 := hz1.cell 0
        have p1 := hz1.cell 1
        have q0 := hz1.frozen 0
        have q1 := hz1.frozen 1
        have hlt := hz1.lt
        simp only [List.getElem?_toArray, List.getElem?_cons_zero, List.getElem?_cons_succ] at p0 p1
        clear hz1 hf1 hr5 hbig
        go_wp2_with fail
        exact bodyPost_ret (v := .tuple #[.agg #[.bool (decide (v < 0)), .slice A5 (digs v.natAbs).length c5], .int .i64 c]) (results_c2 rfl _ _ (w.heap.size + 1) 83 _ (0, 0) _ rfl (show Blk _ (w.heap.size + 1) 83 #[.bool (decide (v < 0)), .slice A5 (digs v.natAbs).length c5] from ((HZ1.out.set_ 0 (.bool (decide (v < 0)))).set_ 1 (.slice A5 (digs v.natAbs).length c5)).alloc (.cells #[.bool (decide (v < 0)), .slice A5 (digs v.natAbs).length c5] 83)) Tryz.underlying83 rfl (by kernel_rfl) _ rfl) rfl ⟨_, rfl, ⟨A5, c5, rfl, ownsRow_base (World.ownsRow.alloc (ownsRow_set (ownsRow_set HR5.out (w.heap.size + 1) 0 (by omega) _) (w.heap.size + 1) 1 (by omega) _) _) (by omega)⟩, ((HF1.out.setCell ⟨w.heap.size + 1, 0, none⟩ (fun h => absurd h (by simp)) (.bool (decide (v < 0)))).setCell ⟨w.heap.size + 1, 1, none⟩ (fun h => absurd h (by simp)) (.slice A5 (digs v.natAbs).length c5)).alloc (.cells #[.bool (decide (v < 0)), .slice A5 (digs v.natAbs).length c5] 83)⟩
  · rw [if_neg (fun h => hk h.1)]
    have hk' : (k != 2) = true := by simp [hk]
    go_enter Tryz.func33, Tryz.ntmps33
    go_wp2_with fail
    exact bodyPost_ret (v := .tuple #[.agg #[.bool false, .slice none 0 0], .int .i64 10]) (results_c2 rfl _ _ (w.heap.size + 1) 83 _ (0, 0) _ rfl HZ.out Tryz.underlying83 rfl (by kernel_rfl) _ rfl) rfl ⟨_, rfl, big_zero _ _, ((Fr.refl (fun _ => False) w).alloc (.cells #[.int .i64 k, .string tx, .string ty, .string tl] 41)).alloc (.cells #[.bool false, .slice none 0 0] 83)⟩

end Go.Proofs.YtflhmieeidnpgaaGreatDoor
