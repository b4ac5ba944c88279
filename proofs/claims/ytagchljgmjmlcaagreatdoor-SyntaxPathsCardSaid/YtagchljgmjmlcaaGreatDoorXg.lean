/- Texts of the proof, one behind the other: Bf, Bk, Br, Bs. -/
import Derived.Test.YtagchljgmjmlcaaGreatDoorXf
import Derived.Test.YtagchljgmjmlcaaGreatDoorXe
import Derived.Test.YtagchljgmjmlcaaGreatDoorXd
import Derived.Lib.UnsafeStr
import Derived.Laws.Externs
import Derived.Deep.CutBlock
import Derived.Deep.RegionLawGrows
import Derived.Deep.Cut
import Derived.Deep.CutRange
import Derived.WalkKit
import Derived.WalkLawsBesides
import Derived.WalkSpells
import Derived.Deep.QuietTactic
import Derived.BigRegion
import Derived.BigQuiet
import Derived.Lib.Hide
import Derived.Outline
import Derived.Deep.AppendLies
import Derived.Deep.RegionLaw
import Derived.Deep.RegionWith
import Derived.Deep.RegionHeld3
import Derived.Deep.LoopGhost
import Derived.Deep.DeepFit
import Derived.Laws.ResultCell
import Derived.Laws.RangeAny
import Derived.Deep.MidRow
import Derived.StillTailTactics
import Derived.OpenShut
namespace Go.Proofs.YtagchljgmjmlcaaGreatDoor
set_option linter.unusedVariables false
open Go.RowKit Go
set_option maxRecDepth 100000
set_option maxHeartbeats 40000000

theorem copy_used (b : Nat) (v : Value) (w : World) (h : Blk w b 171 #[.pointer (some ⟨b, 0, none⟩), v]) : Calls Tryz.prog 106 #[.pointer (some ⟨b, 0, none⟩)] w fun e w' => e = .returned (.tuple #[]) ∧ w' = w := by
 have h0 : w.cell? ⟨b, 0, none⟩ = some (.pointer (some ⟨b, 0, none⟩)) := h.cell 0
 obtain ⟨j, hj, _⟩ := Option.map_eq_some_iff.1 (show (Tryz.prog.info? 171).map (·.size) = some 2 by kernel_rfl)
 have hn := fun a => Lib.run_neq_ptr_same (P := Tryz.prog) w a Tryz.underlying169 hj
 clear h
 go_enter Tryz.func106, Tryz.ntmps106
 go_wp2_with fail
 go_end0
 exact ⟨rfl, rfl⟩
theorem copy_fresh (b : Nat) (v : Value) (w : World) (h : Blk w b 171 #[.pointer none, v]) : Calls Tryz.prog 106 #[.pointer (some ⟨b, 0, none⟩)] w fun e w' => e = .returned (.tuple #[]) ∧ w' = w.setCell ⟨b, 0, none⟩ (.pointer (some ⟨b, 0, none⟩)) := by
 have h0 : w.cell? ⟨b, 0, none⟩ = some (.pointer none) := h.cell 0
 have f0 := h.frozen 0
 have hlt := h.lt
 have hsh : w.shape? b = some (171, 2) := by
  unfold Blk at h
  simp [World.shape?, h]
 obtain ⟨j, hj, hjs⟩ := Option.map_eq_some_iff.1 (show (Tryz.prog.info? 171).map (·.size) = some 2 by kernel_rfl)
 have hto := Lib.run_to_unsafe (P := Tryz.prog) w ⟨b, 0, none⟩ Tryz.underlying169 Tryz.underlying231 hj (by rw [hjs]; decide) hsh (Nat.zero_lt_succ 1)
 have hne : ∀ x w, (callFunc 137 #[x]).run Tryz.prog w = .ok (.value x) w := fun x w => by
  rw [run_callFunc_extern Tryz.func137 (by kernel_rfl) (by kernel_rfl) (by kernel_rfl) (e := Extern.AbiNoEscape.same) (by kernel_rfl), Lib.run_noEscape]
  rfl
 have hfrom := Lib.run_from_unsafe (P := Tryz.prog) w ⟨b, 0, none⟩ Tryz.underlying231 Tryz.underlying169 hj hsh (by kernel_rfl)
 clear h
 go_enter Tryz.func106, Tryz.ntmps106
 go_wp2_with fail
 go_end0
 exact ⟨rfl, rfl⟩

/-- A builder of bytes. -/
def Bu (w : World) (B b : Nat) (l : List UInt8) : Prop := ∃ (p v : Value), Blk w b 171 #[p, v] ∧ (p = .pointer none ∨ p = .pointer (some ⟨b, 0, none⟩)) ∧ w.ownsRow B 5 1 v l.length (Lib.byteCells l) ∧ B ≤ b
theorem info5 : (Tryz.prog.info? 5).map (fun i => (i.zero, i.size, i.bytes)) = some (some (.int .u8 0), 1, 1) := by kernel_rfl
theorem byteCells_len (l : List UInt8) : (Lib.byteCells l).length = l.length := by unfold Lib.byteCells; simp
theorem byteCells_push (l : List UInt8) (c : UInt8) : Lib.byteCells (l ++ [c]) = Lib.byteCells l ++ [.int .u8 (c.toNat : Int)] := by unfold Lib.byteCells; simp

theorem arune_any (B : Nat) (v : Value) (l : List UInt8) (c : UInt8) (w : World) (hc : c.toNat < 128) (hl : l.length ≤ 20000) (hB : B ≤ w.heap.size) (hr : w.ownsRow B 5 1 v l.length (Lib.byteCells l)) :
    Calls Tryz.prog 194 #[v, .int .i32 (c.toNat : Int)] w fun e w' => ∃ v', e = .returned v' ∧ w'.ownsRow B 5 1 v' (l.length + 1) (Lib.byteCells (l ++ [c])) ∧ Fr (fun j => v.ownBlock = some j) w w' := by
 obtain ⟨i5, hi5, hz50, hz51, hz52⟩ := info_parts info5
 obtain ⟨A, cc, hv⟩ := row_shape hr
 subst hv
 rw [byteCells_push]
 have HR := Lib.hid hr
 have h0 : (0 : Int) ≤ (c.toNat : Int) := by omega
 have h1 : (c.toNat : Int) ≤ 127 := by omega
 generalize c.toNat = r at *
 clear hr
 go_enter Tryz.func194, Tryz.ntmps194
 go_wp2_with (at_builtin; refine wpList_append_own _ rfl _ _ 148 rfl B 5 i5 _ 1 1 Tryz.underlying148 hi5 hz50 hz51 hz52 rfl (by decide) (.slice A l.length cc) l.length (Lib.byteCells l) (by rfl) (HR.out.alloc _) ⟨w.heap.size, 0, none⟩ 1 1 [.int .u8 (r : Int)] (by rfl) rfl (World.news_of_block (heap_alloc_new w _)) (by intro u hu; rw [List.mem_singleton] at hu; rw [hu]; rfl) (by unfold maxLen; omega) (by omega) (by simp; omega) ?_; intro v7 w7 hown7 hgr7 _; obtain ⟨A7, c7, hv7⟩ := row_shape hown7; subst hv7; have HOWN7 := Lib.hid hown7; have F7 := Lib.hid (show Fr (fun j => (Value.slice A l.length cc).ownBlock = some j) w w7 from ((Fr.refl _ w).alloc _).trans (Fr.of_grown hgr7) (fun _ _ h => h)); clear hown7 hgr7)
 go_ret
 exact ⟨_, rfl, HOWN7.out, F7.out⟩

theorem wrune_any (B b : Nat) (l : List UInt8) (c : UInt8) (w : World) (hc : c.toNat < 128) (hl : l.length ≤ 20000) (hB : B ≤ w.heap.size) (h : Bu w B b l) :
    Calls Tryz.prog 172 #[.pointer (some ⟨b, 0, none⟩), .int .i32 (c.toNat : Int)] w fun e w' => (∃ k : Int, e = .returned (.tuple #[.int .i64 k, .nilIface])) ∧ Bu w' B b (l ++ [c]) ∧ Fr (fun j => B ≤ j) w w' := by
 obtain ⟨p, v, hb, hp, hr, hBb⟩ := h
 have HC : Calls Tryz.prog 106 #[.pointer (some ⟨b, 0, none⟩)] w fun e w' => e = .returned (.tuple #[]) ∧ Blk w' b 171 #[.pointer (some ⟨b, 0, none⟩), v] ∧ w'.ownsRow B 5 1 v l.length (Lib.byteCells l) ∧ Fr (fun j => j = b) w w' := by
  rcases hp with rfl | rfl
  · refine (copy_fresh b v w hb).mono ?_
    rintro e w' ⟨rfl, rfl⟩
    have FS : Fr (fun j => j = b) w (w.setCell ⟨b, 0, none⟩ (.pointer (some ⟨b, 0, none⟩))) := (Fr.refl (fun j => j = b) w).setCell ⟨b, 0, none⟩ (fun _ => rfl) _
    exact ⟨rfl, hb.set_ 0 (.pointer (some ⟨b, 0, none⟩)), ownsRow_fr hr FS (fun j hj e => own_blk_ne hr hb (by decide) (by rw [hj, e])), FS⟩
  · refine (copy_used b v w hb).mono ?_
    rintro e w' ⟨rfl, rfl⟩
    exact ⟨rfl, hb, hr, Fr.refl _ _⟩
 obtain ⟨A, cc, hv⟩ := row_shape hr
 subst hv
 have HCH := Lib.hid HC
 have HA := Lib.hid (fun w1 h1 h2 => arune_any B (.slice A l.length cc) l c w1 hc hl h1 h2)
 clear HC hb hp hr
 generalize hrr : c.toNat = r at *
 clear hrr
 go_enter Tryz.func172, Tryz.ntmps172
 go_wp2_with fail
 refine HCH.out.mono ?_
 rintro e w1 ⟨rfl, hb1, hr1, hf1⟩
 have c1 : w1.cell? ⟨b, 1, none⟩ = some (.slice A l.length cc) := hb1.cell 1
 have HAA := Lib.hid (HA.out w1 (Nat.le_trans hB hf1.size) hr1)
 have HB1 := Lib.hid hb1
 have HR1 := Lib.hid hr1
 have HF1 := Lib.hid (hf1.mono (T := fun j => B ≤ j) (fun j _ e => by omega))
 clear hb1 hr1 hf1
 go_wp2_with fail
 refine HAA.out.mono ?_
 rintro e w2 ⟨v', rfl, hr2, hf2⟩
 obtain ⟨A2, d2, hv2⟩ := row_shape hr2
 subst hv2
 have hb2 := HB1.out.fr hf2 (own_blk_ne HR1.out HB1.out (by decide))
 have c2 : w2.cell? ⟨b, 1, none⟩ = some (.slice A l.length cc) := hb2.cell 1
 have f2 := hb2.frozen 1
 have hl2 := hb2.lt
 have FS : Fr (fun j => j = b) w2 (w2.setCell ⟨b, 1, none⟩ (.slice A2 (l.length + 1) d2)) := (Fr.refl (fun j => j = b) w2).setCell ⟨b, 1, none⟩ (fun _ => rfl) _
 have HBU := Lib.hid (show Bu (w2.setCell ⟨b, 1, none⟩ (.slice A2 (l.length + 1) d2)) B b (l ++ [c]) from ⟨.pointer (some ⟨b, 0, none⟩), .slice A2 (l.length + 1) d2, hb2.set_ 1 (.slice A2 (l.length + 1) d2), .inr rfl, by
  rw [List.length_append]
  exact ownsRow_fr hr2 FS (fun j hj e => own_blk_ne hr2 hb2 (by decide) (by rw [hj, e])), hBb⟩)
 have HF2 := Lib.hid ((HF1.out.trans hf2 (fun j _ e => (HR1.out.lt j e).1)).trans FS (fun j _ e => by omega))
 have c3 : (w2.setCell ⟨b, 1, none⟩ (.slice A2 (l.length + 1) d2)).cell? ⟨b, 1, none⟩ = some (.slice A2 (l.length + 1) d2) := (hb2.set_ 1 (.slice A2 (l.length + 1) d2)).cell 1
 clear hb2 hr2 hf2 FS
 go_wp2_with fail
 go_ret2
 exact ⟨⟨_, rfl⟩, HBU.out, HF2.out⟩

theorem bstring_any (B b : Nat) (l : List UInt8) (w : World) (hl : l ≠ []) (h : Bu w B b l) : Calls Tryz.prog 81 #[.pointer (some ⟨b, 0, none⟩)] w fun e w' => e = .returned (.string ⟨l.toArray⟩) ∧ Fr (fun j => B ≤ j) w w' := by
 obtain ⟨p, v, hb, hp, hr, hBb⟩ := h
 have hne := own_blk_ne hr hb (by decide)
 have hr' : w.ownsRow B 5 1 v (Lib.byteCells l).length (Lib.byteCells l) := by rw [byteCells_len]; exact hr
 have hbu : Lib.IsBuilder 171 5 B b (Lib.byteCells l) w := by
  rcases hp with rfl | rfl
  · exact .inl ⟨hBb, v, hb, hr', hne⟩
  · exact .inr ⟨hBb, v, hb, hr', hne⟩
 refine (Tryz.Builder_String B b l w hbu hl).mono ?_
 rintro e w' ⟨rfl, hbel⟩
 exact ⟨rfl, ⟨hbel.os, hbel.tape, hbel.output, hbel.size, fun k hk hn => hbel.block k (by omega)⟩⟩

theorem ascii_of {T : ByteArray} (h : T.data.toList.all (fun c => decide (c.toNat < 128)) = true) : Ascii T := by
 intro i hi
 have := List.all_eq_true.1 h (T[i]'hi) (by
  show T.data[i] ∈ T.data.toList
  exact Array.getElem_mem_toList (by simpa using hi))
 simpa using this
theorem isAt_one (rs : List Int) (p : Nat) (x : UInt8) : isAt rs p (txt ⟨#[x]⟩) = decide (peekOf rs p = (x.toNat : Int)) := by
 by_cases h : peekOf rs p = (x.toNat : Int)
 · rw [decide_eq_true h]
   refine isAt_true fun i hi => ?_
   have hi0 : i = 0 := by
    rw [txt_len] at hi
    have : (⟨#[x]⟩ : ByteArray).size = 1 := rfl
    omega
   subst hi0
   exact h
 · rw [decide_eq_false h]
   exact isAt_false (i := 0) (by rw [txt_len]; exact Nat.one_pos) h
theorem Bu.fr {w w' : World} {B b x : Nat} {l : List UInt8} {cs : Array Value} (h : Bu w B b l) (hx : Blk w x 161 cs) (hf : Fr (fun j => j = x) w w') : Bu w' B b l := by
 obtain ⟨p, v, hb, hp, hr, hB⟩ := h
 exact ⟨p, v, hb.fr hf (fun e => Blk.ne_ hb hx (by decide) e), hp, ownsRow_fr hr hf (fun j hj e => own_blk_ne hr hx (by decide) (by rw [hj, e])), hB⟩
theorem Bu.frF {w w' : World} {B b : Nat} {l : List UInt8} (h : Bu w B b l) (hf : Fr (fun _ => False) w w') : Bu w' B b l := by
 obtain ⟨p, v, hb, hp, hr, hB⟩ := h
 exact ⟨p, v, hb.fr hf (fun e => e), hp, ownsRow_fr hr hf (fun j hj e => e), hB⟩
theorem Sc.old {w w1 w' : World} {b c p q B : Nat} {A : Option Addr} {rs : List Int} (h : Sc w1 b A c rs p) (h0 : Sc w b A c rs q) (hB : w.heap.size ≤ B) (hf : Fr (fun j => B ≤ j) w1 w') : Sc w' b A c rs p :=
 h.fr hf (fun e => by have := h0.blk.lt; omega) (fun j hj e => by have := (h0.row.lt j hj).2; omega)

def IriPost (w : World) (b : Nat) (A : Option Addr) (c : Nat) (rs : List Int) (q : Nat) (v : Value) (e : Ending) (w' : World) : Prop := e = .returned v ∧ Sc w' b A c rs q ∧ Fr (fun j => j = b) w w'

/-- Plain signs follow, then the closing bracket. -/
def Body (rs : List Int) (p : Nat) (l : List UInt8) : Prop :=
 peekOf rs p = 60 ∧ (∀ i, i < l.length → peekOf rs (p + 1 + i) = ((l.getD i 0).toNat : Int) ∧ (l.getD i 0).toNat < 128 ∧ (l.getD i 0).toNat ≠ 10 ∧ (l.getD i 0).toNat ≠ 62 ∧ (l.getD i 0).toNat ≠ 92) ∧ peekOf rs (p + 1 + l.length) = 62

theorem ntiri_sc (l : List UInt8) (b c p : Nat) (A : Option Addr) (rs : List Int) (w : World) (hl : l ≠ []) (hl2 : l.length ≤ 4000) (hbd : Body rs p l) (h : Sc w b A c rs p) :
    Calls Tryz.prog 152 #[.pointer (some ⟨b, 0, none⟩)] w (ScPost w b A c rs (p + l.length + 2) (.tuple #[.string ⟨l.toArray⟩, .bool true])) := by
 obtain ⟨hp0, hbody, hend⟩ := hbd
 have HI := Lib.hid (fun T q w1 hT hs h1 => is_sc T b c q A rs w1 hT hs h1)
 have HE := Lib.hid (fun q w1 h1 => end_sc b c q A rs w1 h1)
 have HK := Lib.hid (fun q w1 h1 => peek_sc b c q A rs w1 h1)
 have HN := Lib.hid (fun q w1 h1 => next_sc b c q A rs w1 h1)
 have I0 := Lib.hid (is_sc ⟨#[60]⟩ b c p A rs w (ascii_of (by decide)) (by decide) h)
 rw [isAt_one, hp0] at I0
 unfold IsPost at I0
 simp only [show decide ((60 : Int) = ((60 : UInt8).toNat : Int)) = true from rfl, if_true] at I0
 have HS := Lib.hid h
 have HBO := Lib.hid hbody
 have HEN := Lib.hid hend
 have hbl := h.blk.lt
 clear h hbody hend hp0
 go_enter Tryz.func152, Tryz.ntmps152
 go_wp2_with fail
 refine I0.out.mono ?_
 rintro e w1 ⟨rfl, hs1, hf1⟩
 rw [show p + (⟨#[60]⟩ : ByteArray).size = p + 1 from rfl] at hs1
 have HS1 := Lib.hid hs1
 have HF1 := Lib.hid hf1
 have hsz1 := hf1.size
 have BU0 := Lib.hid (show Bu (w1.alloc (.cells #[.pointer none, .slice none 0 0] 171)) w1.heap.size w1.heap.size [] from ⟨_, _, Blk.new _ _ _, .inl rfl, World.ownsRow_nil _ _ _ _, Nat.le_refl _⟩)
 clear hs1 hf1
 go_wp2_with fail
 go_loopg [14] (l.length) (fun g nv wr => ∃ i : Nat, l.length ≤ i + g ∧ i ≤ l.length ∧ Sc wr b A c rs (p + 1 + i) ∧ Bu wr w1.heap.size w1.heap.size (l.take i) ∧ Fr (fun j => j = b ∨ w1.heap.size ≤ j) w wr ∧ w1.heap.size < wr.heap.size)
 case atStart => exact ⟨0, by omega, Nat.zero_le _, HS1.out.frF ((Fr.refl _ _).alloc _), BU0.out, (HF1.out.mono (fun _ _ e => .inl e)).alloc _, by simp⟩
 case round =>
  obtain ⟨i, hg, hi, hs, hbu, hfr, hszw⟩ := hrel
  have HSW := Lib.hid hs
  have HBU := Lib.hid hbu
  have HFR := Lib.hid hfr
  have HEE := Lib.hid (HE.out (p + 1 + i) wr hs)
  have HKK := Lib.hid (fun w1 h1 => HK.out (p + 1 + i) w1 h1)
  clear hs hbu hfr
  by_cases hil : i < l.length
  · obtain ⟨hpk, hc1, hc2, hc3, hc4⟩ := HBO.out i hil
    have hplt := peek_lt (rs := rs) (p := p + 1 + i) (by rw [hpk]; omega)
    rw [decide_eq_false (by omega)] at HEE
    rw [hpk] at HKK
    have I1 := Lib.hid (fun w1 h1 => HI.out ⟨#[62]⟩ (p + 1 + i) w1 (ascii_of (by decide)) (by decide) h1)
    have I2 := Lib.hid (fun w1 h1 => HI.out ⟨#[92]⟩ (p + 1 + i) w1 (ascii_of (by decide)) (by decide) h1)
    rw [isAt_one, hpk, decide_eq_false (by show ¬ ((l.getD i 0).toNat : Int) = 62; omega)] at I1
    rw [isAt_one, hpk, decide_eq_false (by show ¬ ((l.getD i 0).toNat : Int) = 92; omega)] at I2
    have HNN := Lib.hid (fun w1 h1 => HN.out (p + 1 + i) w1 h1)
    unfold nextAt at HNN
    rw [if_pos hplt, hpk] at HNN
    have HW := Lib.hid (fun w2 hB hu => wrune_any w1.heap.size w1.heap.size (l.take i) (l.getD i 0) w2 hc1 (by rw [List.length_take]; omega) hB hu)
    have HST := Lib.hid (show l.take i ++ [l.getD i 0] = l.take (i + 1) by rw [List.take_add_one, List.getD_eq_getElem?_getD, List.getElem?_eq_getElem hil]; rfl)
    rw [HST.out] at HW
    unfold IsPost at I1 I2
    simp only [Bool.false_eq_true, if_false] at I1 I2
    generalize (l.getD i 0).toNat = r at *
    have hr10 : ((r : Int) == 10) = false := by simp; omega
    go_wp2_with fail
    refine HEE.out.mono ?_
    rintro e w2 ⟨rfl, hf2⟩
    have HS2 := Lib.hid (HSW.out.frF hf2)
    have HB2 := Lib.hid (HBU.out.frF hf2)
    have HF2 := Lib.hid (HFR.out.trans hf2 (fun _ _ h => h.elim))
    have hz2 := hf2.size
    clear hf2
    go_wp2_with fail
    refine (HKK.out _ HS2.out).mono ?_
    rintro e w3 ⟨rfl, hf3⟩
    have HS3 := Lib.hid (HS2.out.frF hf3)
    have HB3 := Lib.hid (HB2.out.frF hf3)
    have HF3 := Lib.hid (HF2.out.trans hf3 (fun _ _ h => h.elim))
    have hz3 := hf3.size
    clear hf3
    go_wp2_with fail
    refine (I1.out _ HS3.out).mono ?_
    rintro e w4 ⟨rfl, hs4, hf4⟩
    have HS4 := Lib.hid hs4
    have HB4 := Lib.hid (HB3.out.fr HS3.out.blk hf4)
    have HF4 := Lib.hid (HF3.out.trans hf4 (fun _ _ h => .inl h))
    have hz4 := hf4.size
    clear hf4 hs4
    go_wp2_with fail
    refine (I2.out _ HS4.out).mono ?_
    rintro e w5 ⟨rfl, hs5, hf5⟩
    have HS5 := Lib.hid hs5
    have HB5 := Lib.hid (HB4.out.fr HS4.out.blk hf5)
    have HF5 := Lib.hid (HF4.out.trans hf5 (fun _ _ h => .inl h))
    have hz5 := hf5.size
    clear hf5 hs5
    go_wp2_with fail
    refine (HNN.out _ HS5.out).mono ?_
    rintro e w6 ⟨rfl, hs6, hf6⟩
    have HS6 := Lib.hid hs6
    have HB6 := Lib.hid (HB5.out.fr HS5.out.blk hf6)
    have HF6 := Lib.hid (HF5.out.trans hf6 (fun _ _ h => .inl h))
    have hz6 := hf6.size
    clear hf6 hs6
    go_wp2_with fail
    refine (HW.out _ (by omega) HB6.out).mono ?_
    rintro e w7 ⟨⟨kk, rfl⟩, hb7, hf7⟩
    have HS7 := Lib.hid (HS6.out.old HS.out hsz1 hf7)
    have HB7 := Lib.hid hb7
    have HF7 := Lib.hid (HF6.out.trans hf7 (fun _ _ h => .inr h))
    have hz7 := hf7.size
    clear hf7 hb7
    go_wp2_with fail
    go_roundg (l.length - (i + 1))
    case measure => omega
    case rel => exact ⟨i + 1, by omega, by omega, HS7.out, HB7.out, HF7.out, by omega⟩
  · have hie : i = l.length := by omega
    subst hie
    have hpk := HEN.out
    have hplt := peek_lt (rs := rs) (p := p + 1 + l.length) (by rw [hpk]; omega)
    rw [decide_eq_false (by omega)] at HEE
    rw [hpk] at HKK
    have I1 := Lib.hid (fun w1 h1 => HI.out ⟨#[62]⟩ (p + 1 + l.length) w1 (ascii_of (by decide)) (by decide) h1)
    rw [isAt_one, hpk] at I1
    unfold IsPost at I1
    simp only [show decide ((62 : Int) = ((62 : UInt8).toNat : Int)) = true from rfl, if_true] at I1
    have HST := Lib.hid (fun w2 hu => bstring_any w1.heap.size w1.heap.size l w2 hl hu)
    rw [List.take_length] at HBU
    go_wp2_with fail
    refine HEE.out.mono ?_
    rintro e w2 ⟨rfl, hf2⟩
    have HS2 := Lib.hid (HSW.out.frF hf2)
    have HB2 := Lib.hid (HBU.out.frF hf2)
    have HF2 := Lib.hid (HFR.out.trans hf2 (fun _ _ h => h.elim))
    clear hf2
    go_wp2_with fail
    refine (HKK.out _ HS2.out).mono ?_
    rintro e w3 ⟨rfl, hf3⟩
    have HS3 := Lib.hid (HS2.out.frF hf3)
    have HB3 := Lib.hid (HB2.out.frF hf3)
    have HF3 := Lib.hid (HF2.out.trans hf3 (fun _ _ h => h.elim))
    clear hf3
    go_wp2_with fail
    refine (I1.out _ HS3.out).mono ?_
    rintro e w4 ⟨rfl, hs4, hf4⟩
    have HS4 := Lib.hid hs4
    have HB4 := Lib.hid (HB3.out.fr HS3.out.blk hf4)
    have HF4 := Lib.hid (HF3.out.trans hf4 (fun _ _ h => .inl h))
    clear hf4 hs4
    go_wp2_with fail
    refine (HST.out _ HB4.out).mono ?_
    rintro e w5 ⟨rfl, hf5⟩
    have HS5 := Lib.hid (HS4.out.old HS.out hsz1 hf5)
    have HF5 := Lib.hid (HF4.out.trans hf5 (fun _ _ h => .inr h))
    clear hf5
    go_wp2_with fail
    go_ret2
    refine ⟨rfl, ?_, HF5.out.mono (fun j hj h => h.elim id (fun h => absurd h (by omega)))⟩
    have hs := HS5.out
    rw [show p + 1 + l.length + (⟨#[62]⟩ : ByteArray).size = p + l.length + 2 by show p + 1 + l.length + 1 = _; omega] at hs
    exact hs

theorem form_iri (l : List UInt8) (b c p : Nat) (A : Option Addr) (rs : List Int) (w : World) (hl : l ≠ []) (hl2 : l.length ≤ 4000) (hbd : Body rs p l) (h : Sc w b A c rs p) :
    Calls Tryz.prog 128 #[.pointer (some ⟨b, 0, none⟩)] w (ScPost w b A c rs (p + l.length + 2) (.tuple #[(Tm.iri ⟨l.toArray⟩).val, .bool true])) := by
 have HK := Lib.hid (peek_sc b c p A rs w h)
 rw [hbd.1] at HK
 have HN := Lib.hid (fun w1 h1 => ntiri_sc l b c p A rs w1 hl hl2 hbd h1)
 have HS := Lib.hid h
 unfold Tm.val
 generalize (⟨l.toArray⟩ : ByteArray) = t at *
 generalize p + l.length + 2 = q at *
 clear h hbd
 go_enter Tryz.func128, Tryz.ntmps128
 go_wp2_with fail
 refine HK.out.mono ?_
 rintro e w1 ⟨rfl, hf1⟩
 have HN1 := Lib.hid (HN.out w1 (HS.out.frF hf1))
 go_wp2_with fail
 refine HN1.out.mono ?_
 rintro e w2 ⟨rfl, hs2, hf2⟩
 go_wp2_with fail
 go_ret2
 exact ⟨rfl, hs2, (hf1.mono (fun _ _ h => h.elim)).trans' hf2⟩

theorem read_iri (l : List UInt8) (b c p : Nat) (A : Option Addr) (rs : List Int) (w : World) (hl : l ≠ []) (hl2 : l.length ≤ 4000) (hgd : (Tm.iri ⟨l.toArray⟩).good = true) (hbd : Body rs p l) (h : Sc w b A c rs p) :
    Calls Tryz.prog 99 #[.pointer (some ⟨b, 0, none⟩)] w (ScPost w b A c rs (p + l.length + 2) (.tuple #[(Tm.iri ⟨l.toArray⟩).val, .int .i64 ((p + l.length + 2 : Nat) : Int), .int .i64 0])) := by
 have HP := Lib.hid (place_sc b c p A rs w h)
 have HF := Lib.hid (form_iri l b c p A rs w hl hl2 hbd h)
 have HP2 := Lib.hid (fun q w1 h1 => place_sc b c q A rs w1 h1)
 have HG := Lib.hid (fun w1 => tgood_any (Tm.iri ⟨l.toArray⟩) w1 (show (⟨l.toArray⟩ : ByteArray).size ≤ 4096 by show l.toArray.size ≤ 4096; simp; omega))
 rw [hgd] at HG
 unfold Tm.val at *
 generalize (⟨l.toArray⟩ : ByteArray) = t at *
 generalize p + l.length + 2 = q at *
 clear h hbd hgd
 go_enter Tryz.func99, Tryz.ntmps99
 go_wp2_with fail
 refine HP.out.mono ?_
 rintro e w1 ⟨rfl, rfl⟩
 go_wp2_with fail
 refine HF.out.mono ?_
 rintro e w2 ⟨rfl, hs2, hf2⟩
 have HPP := Lib.hid (HP2.out q w2 hs2)
 go_wp2_with fail
 refine HPP.out.mono ?_
 rintro e w3 ⟨rfl, rfl⟩
 go_wp2_with fail
 refine (HG.out _).mono ?_
 rintro e w4 ⟨rfl, hf4⟩
 go_wp2_with fail
 go_ret3
 exact ⟨rfl, hs2.frF hf4, hf2.trans hf4 (fun _ _ h => h.elim)⟩

theorem term_iri (l : List UInt8) (b c p q : Nat) (A : Option Addr) (rs : List Int) (w : World) (hl : l ≠ []) (hl2 : l.length ≤ 4000) (hgd : (Tm.iri ⟨l.toArray⟩).good = true) (hq : skip rs [0] p = q) (hbd : Body rs q l) (h : Sc w b A c rs p) :
    Calls Tryz.prog 69 #[.agg #[.pointer (some ⟨b, 0, none⟩)]] w (ScPost w b A c rs (q + l.length + 2) ((Tm.iri ⟨l.toArray⟩).val)) := by
 have hf : Fr (fun _ => False) w (w.alloc (.cells #[.pointer (some ⟨b, 0, none⟩)] 89)) := (Fr.refl _ _).alloc _
 have HB := Lib.hid (blanks_sc b c p A rs _ (h.frF hf))
 rw [hq] at HB
 have HR := Lib.hid (fun w1 h1 => read_iri l b c q A rs w1 hl hl2 hgd hbd h1)
 have HX := Lib.hid (Blk.new w 89 #[.pointer (some ⟨b, 0, none⟩)])
 have HF := Lib.hid hf
 have hbl := h.blk.lt
 unfold Tm.val at *
 generalize (⟨l.toArray⟩ : ByteArray) = t at *
 generalize q + l.length + 2 = q2 at *
 clear h hf hgd hbd hq
 go_enter Tryz.func69, Tryz.ntmps69
 go_wp2_with fail
 refine HB.out.mono ?_
 rintro e w1 ⟨⟨k, rfl⟩, hs1, hf1⟩
 have hx1 := box_keep HX.out hbl hf1
 have x1 : w1.cell? ⟨w.heap.size, 0, none⟩ = some (.pointer (some ⟨b, 0, none⟩)) := hx1.cell 0
 have HRR := Lib.hid (HR.out w1 hs1)
 have HF1 := Lib.hid ((HF.out.mono (T := fun j => j = b) (fun _ _ h => h.elim)).trans' hf1)
 clear hx1 hs1 hf1
 go_wp2_with fail
 refine HRR.out.mono ?_
 rintro e w2 ⟨rfl, hs2, hf2⟩
 go_wp2_with fail
 go_ret
 exact ⟨rfl, hs2, HF1.out.trans' hf2⟩

theorem as_i1 (x : Value) (w : World) : (Instr.typeAssert (.iface 164 x) 57 164 false).run Tryz.prog w = .ok x w := by kernel_rfl
theorem fd_198 (t : ByteArray) (w : World) : (Instr.field 164 (.agg #[.string t]) 0).run Tryz.prog w = .ok (.string t) w := by kernel_rfl
attribute [local go_sem] as_i1 fd_198
theorem iri_sc (l : List UInt8) (b c p q : Nat) (A : Option Addr) (rs : List Int) (w : World) (hl : l ≠ []) (hl2 : l.length ≤ 4000) (hgd : (Tm.iri ⟨l.toArray⟩).good = true) (hq : skip rs [0] p = q) (hq2 : skip rs [0] q = q) (hbd : Body rs q l) (h : Sc w b A c rs p) :
    Calls Tryz.prog 41 #[.agg #[.pointer (some ⟨b, 0, none⟩)]] w (ScPost w b A c rs (q + l.length + 2) (.string ⟨l.toArray⟩)) := by
 have hf : Fr (fun _ => False) w (w.alloc (.cells #[.pointer (some ⟨b, 0, none⟩)] 89)) := (Fr.refl _ _).alloc _
 have HN := Lib.hid (nextsign_sc b c p A rs _ (h.frF hf))
 rw [hq, hbd.1] at HN
 have HT := Lib.hid (fun w1 h1 => term_iri l b c q q A rs w1 hl hl2 hgd hq2 hbd h1)
 have HX := Lib.hid (Blk.new w 89 #[.pointer (some ⟨b, 0, none⟩)])
 have HF := Lib.hid hf
 have hbl := h.blk.lt
 unfold Tm.val at *
 generalize (⟨l.toArray⟩ : ByteArray) = t at *
 generalize q + l.length + 2 = q2 at *
 clear h hf hgd hbd hq hq2
 go_enter Tryz.func41, Tryz.ntmps41
 go_wp2_with fail
 refine HN.out.mono ?_
 rintro e w1 ⟨rfl, hs1, hf1⟩
 have hx1 := box_keep HX.out hbl hf1
 have x1 : w1.cell? ⟨w.heap.size, 0, none⟩ = some (.pointer (some ⟨b, 0, none⟩)) := hx1.cell 0
 have HTT := Lib.hid (HT.out w1 hs1)
 have HF1 := Lib.hid ((HF.out.mono (T := fun j => j = b) (fun _ _ h => h.elim)).trans' hf1)
 clear hx1 hs1 hf1
 go_wp2_with fail
 refine HTT.out.mono ?_
 rintro e w2 ⟨rfl, hs2, hf2⟩
 go_wp2_with fail
 go_ret
 exact ⟨rfl, hs2, HF1.out.trans' hf2⟩

theorem conv_rune (r : Int) (w : World) : (convert 21 9 (.int .i32 r)).run Tryz.prog w = .ok (.string (Utf8.encode r)) w := by
 simp [convert, run_underlying Tryz.underlying21, run_underlying Tryz.underlying9]
 rfl
theorem encode_ascii (c : UInt8) (h : c.toNat < 128) : Utf8.encode (c.toNat : Int) = ⟨#[c]⟩ := by
 unfold Utf8.encode
 have hv : Utf8.valid (c.toNat : Int) = true := by
  unfold Utf8.valid
  simp
  omega
 simp [hv, h]

theorem str_push (l : List UInt8) (i : Nat) (c : UInt8) (h : l.take (i + 1) = l.take i ++ [c]) : (⟨(l.take i).toArray⟩ ++ ⟨#[c]⟩ : ByteArray) = ⟨(l.take (i + 1)).toArray⟩ := by
 rw [h]
 apply ByteArray.ext
 rw [ByteArray.data_append]
 simp

/-- A name of letters follows a question mark. -/
def Name (rs : List Int) (s : Nat) (l : List UInt8) : Prop :=
 peekOf rs s = 63 ∧ clsOf (peekOf rs (s + 1)) = 1 ∧ (∀ i, i < l.length → peekOf rs (s + 1 + i) = ((l.getD i 0).toNat : Int) ∧ (l.getD i 0).toNat < 128 ∧ letterOf ((l.getD i 0).toNat : Int) = true) ∧ letterOf (peekOf rs (s + 1 + l.length)) = false

theorem variable_sc (l : List UInt8) (b c p s : Nat) (A : Option Addr) (rs : List Int) (w : World) (hl2 : l.length ≤ 4000) (hs : skip rs [0] p = s) (hnm : Name rs s l) (h : Sc w b A c rs p) :
    Calls Tryz.prog 75 #[.agg #[.pointer (some ⟨b, 0, none⟩)]] w (ScPost w b A c rs (s + 1 + l.length) (.string ⟨l.toArray⟩)) := by
 obtain ⟨h63, hcl, hbody, hend⟩ := hnm
 have hf : Fr (fun _ => False) w (w.alloc (.cells #[.pointer (some ⟨b, 0, none⟩)] 89)) := (Fr.refl _ _).alloc _
 have HM := Lib.hid (must_sc ⟨#[63]⟩ b c p (s + 1) A rs _ (ascii_of (by decide)) (by decide) (by unfold markAt; rw [hs, isAt_one, h63]; rfl) (by unfold markTo markAt; rw [hs, isAt_one, h63]; rfl) (h.frF hf))
 have HK := Lib.hid (fun q w1 h1 => peek_sc b c q A rs w1 h1)
 have HC := Lib.hid (fun w1 => cls_any (peekOf rs (s + 1)) w1 (peek_ok h (s + 1)))
 rw [hcl] at HC
 have HL := Lib.hid (fun q w1 => letter_any (peekOf rs q) w1 (peek_ok h q))
 have HN := Lib.hid (fun q w1 h1 => next_sc b c q A rs w1 h1)
 have HX := Lib.hid (Blk.new w 89 #[.pointer (some ⟨b, 0, none⟩)])
 have HF := Lib.hid hf
 have HBO := Lib.hid hbody
 have HEN := Lib.hid hend
 have hbl := h.blk.lt
 clear h hf hbody hend hcl hs h63
 go_enter Tryz.func75, Tryz.ntmps75
 go_wp2_with fail
 refine HM.out.mono ?_
 rintro e w1 ⟨rfl, hs1, hf1⟩
 have hx1 := box_keep HX.out hbl hf1
 have x1 : w1.cell? ⟨w.heap.size, 0, none⟩ = some (.pointer (some ⟨b, 0, none⟩)) := hx1.cell 0
 have HKK := Lib.hid (HK.out (s + 1) w1 hs1)
 have HX1 := Lib.hid hx1
 have HS1 := Lib.hid hs1
 have HF1 := Lib.hid ((HF.out.mono (T := fun j => j = b) (fun _ _ h => h.elim)).trans' hf1)
 generalize peekOf rs (s + 1) = pk at *
 clear hx1 hs1 hf1
 go_wp2_with fail
 refine HKK.out.mono ?_
 rintro e w2 ⟨rfl, hf2⟩
 go_wp2_with fail
 refine (HC.out _).mono ?_
 rintro e w3 ⟨rfl, rfl⟩
 have HX2 := Lib.hid (HX1.out.fr hf2 (fun h => h))
 have HS2 := Lib.hid (HS1.out.frF hf2)
 have HF2 := Lib.hid (HF1.out.trans hf2 (fun _ _ h => h.elim))
 clear hf2
 go_wp2_with fail
 go_loopg [3] (l.length) (fun g nv wr => ∃ i : Nat, nv = .string ⟨(l.take i).toArray⟩ ∧ l.length ≤ i + g ∧ i ≤ l.length ∧ Sc wr b A c rs (s + 1 + i) ∧ Blk wr w.heap.size 89 #[.pointer (some ⟨b, 0, none⟩)] ∧ Fr (fun j => j = b) w wr)
 case atStart => exact ⟨0, rfl, by omega, Nat.zero_le _, HS2.out, HX2.out, HF2.out⟩
 case round =>
  obtain ⟨i, rfl, hg, hi, hs, hx, hfr⟩ := hrel
  have HKI := Lib.hid (HK.out (s + 1 + i) wr hs)
  have HLI := Lib.hid (fun w1 => HL.out (s + 1 + i) w1)
  have HSI := Lib.hid hs
  have HXI := Lib.hid hx
  have HFI := Lib.hid hfr
  have x0 : wr.cell? ⟨w.heap.size, 0, none⟩ = some (.pointer (some ⟨b, 0, none⟩)) := hx.cell 0
  clear hs hx hfr x1
  by_cases hil : i < l.length
  · obtain ⟨hpk, hc1, hlt⟩ := HBO.out i hil
    have hplt := peek_lt (rs := rs) (p := s + 1 + i) (by rw [hpk]; omega)
    have HNI := Lib.hid (fun w1 h1 => HN.out (s + 1 + i) w1 h1)
    unfold nextAt at HNI
    rw [if_pos hplt, hpk] at HNI
    rw [hpk] at HKI HLI
    rw [hlt] at HLI
    have hcv := conv_rune ((l.getD i 0).toNat : Int)
    rw [encode_ascii _ hc1] at hcv
    have HTK := Lib.hid (show l.take (i + 1) = l.take i ++ [l.getD i 0] by rw [List.take_add_one, List.getD_eq_getElem?_getD, List.getElem?_eq_getElem hil]; rfl)
    generalize l.getD i 0 = cu at *
    generalize hrr : cu.toNat = r at *
    have HRR := Lib.hid hrr
    clear hrr
    go_wp2_with fail
    refine HKI.out.mono ?_
    rintro e w4 ⟨rfl, hf4⟩
    have hx4 := HXI.out.fr hf4 (fun h => h)
    have x4 : w4.cell? ⟨w.heap.size, 0, none⟩ = some (.pointer (some ⟨b, 0, none⟩)) := hx4.cell 0
    have HX4 := Lib.hid hx4
    have HS4 := Lib.hid (HSI.out.frF hf4)
    have HF4 := Lib.hid (HFI.out.trans hf4 (fun _ _ h => h.elim))
    clear hf4 hx4 x0
    go_wp2_with fail
    refine (HLI.out _).mono ?_
    rintro e w5 ⟨rfl, rfl⟩
    have HNN := Lib.hid (HNI.out _ HS4.out)
    go_wp2_with fail
    refine HNN.out.mono ?_
    rintro e w6 ⟨rfl, hs6, hf6⟩
    have HS6 := Lib.hid hs6
    have HX6 := Lib.hid (box_keep HX4.out hbl hf6)
    have HF6 := Lib.hid (HF4.out.trans' hf6)
    clear hs6 hf6
    go_wp2_with fail
    go_roundg (l.length - (i + 1))
    case measure => omega
    case rel => exact ⟨i + 1, by rw [str_push l i cu HTK.out], by omega, by omega, HS6.out, HX6.out, HF6.out⟩
  · have hie : i = l.length := by omega
    subst hie
    rw [HEN.out] at HLI
    rw [List.take_length]
    generalize peekOf rs (s + 1 + l.length) = pe at *
    go_wp2_with fail
    refine HKI.out.mono ?_
    rintro e w4 ⟨rfl, hf4⟩
    go_wp2_with fail
    refine (HLI.out _).mono ?_
    rintro e w5 ⟨rfl, rfl⟩
    go_wp2_with fail
    go_ret
    exact ⟨rfl, HSI.out.frF hf4, HFI.out.trans hf4 (fun _ _ h => h.elim)⟩

/-- What is selected: a var. -/
def selV (l : List UInt8) : Value := .agg #[.string ⟨l.toArray⟩, .string ⟨#[]⟩, .string ⟨#[]⟩]

theorem selected_sc (l : List UInt8) (b c p s : Nat) (A : Option Addr) (rs : List Int) (w : World) (hl2 : l.length ≤ 4000) (hs : skip rs [0] p = s) (hs2 : skip rs [0] s = s) (hnm : Name rs s l) (h : Sc w b A c rs p) :
    Calls Tryz.prog 43 #[.agg #[.pointer (some ⟨b, 0, none⟩)]] w (ScPost w b A c rs (s + 1 + l.length) (selV l)) := by
 have hf : Fr (fun _ => False) w ((w.alloc (.cells #[.pointer (some ⟨b, 0, none⟩)] 89)).alloc (.cells #[.string ⟨#[]⟩, .string ⟨#[]⟩, .string ⟨#[]⟩] 122)) := ((Fr.refl _ _).alloc _).alloc _
 have HM := Lib.hid (mark_sc ⟨#[40]⟩ b c p A rs _ (ascii_of (by decide)) (by decide) (h.frF hf))
 have e1 : markAt rs p ⟨#[40]⟩ = false := by unfold markAt; rw [hs, isAt_one, hnm.1]; rfl
 have e2 : markTo rs p ⟨#[40]⟩ = s := by unfold markTo; rw [e1, hs]; simp
 rw [e1, e2] at HM
 have HV := Lib.hid (fun w1 h1 => variable_sc l b c s s A rs w1 hl2 hs2 hnm h1)
 have hx := (Blk.new w 89 #[.pointer (some ⟨b, 0, none⟩)]).alloc (.cells #[.string ⟨#[]⟩, .string ⟨#[]⟩, .string ⟨#[]⟩] 122)
 have hz : (w.alloc (.cells #[.pointer (some ⟨b, 0, none⟩)] 89)).heap.size = w.heap.size + 1 := by simp
 have hy := Blk.new (w.alloc (.cells #[.pointer (some ⟨b, 0, none⟩)] 89)) 122 #[.string ⟨#[]⟩, .string ⟨#[]⟩, .string ⟨#[]⟩]
 rw [hz] at hy
 have HX := Lib.hid hx
 have HY := Lib.hid hy
 have HF := Lib.hid hf
 have hbl := h.blk.lt
 unfold selV
 generalize (⟨l.toArray⟩ : ByteArray) = t at *
 generalize s + 1 + l.length = q at *
 clear h hf hx hy hz e1 e2 hs hs2 hnm
 go_enter Tryz.func43, Tryz.ntmps43
 go_wp2_with fail
 refine HM.out.mono ?_
 rintro e w1 ⟨rfl, hs1, hf1⟩
 have hx1 := box_keep HX.out hbl hf1
 have x1 : w1.cell? ⟨w.heap.size, 0, none⟩ = some (.pointer (some ⟨b, 0, none⟩)) := hx1.cell 0
 have HVV := Lib.hid (HV.out w1 hs1)
 have HY1 := Lib.hid (HY.out.fr hf1 (fun e => by omega))
 have HF1 := Lib.hid ((HF.out.mono (T := fun j => j = b) (fun _ _ h => h.elim)).trans' hf1)
 clear hx1 hs1 hf1
 go_wp2_with fail
 refine HVV.out.mono ?_
 rintro e w2 ⟨rfl, hs2, hf2⟩
 have hy2 := HY1.out.fr hf2 (fun e => by omega)
 have hl2 := hy2.lt
 have a0 := hy2.cell 0
 have a1 := hy2.cell 1
 have a2 := hy2.cell 2
 have f0 := hy2.frozen 0
 have f1 := hy2.frozen 1
 have f2 := hy2.frozen 2
 have hy3 := hy2.set_ 0 (.string t)
 have hl3 := hy3.lt
 have a3 := hy3.cell 1
 have a4 := hy3.cell 2
 have f3 := hy3.frozen 1
 have f4 := hy3.frozen 2
 have hy4 := hy3.set_ 1 (.string ⟨#[]⟩)
 have hl4 := hy4.lt
 have a5 := hy4.cell 2
 have f5 := hy4.frozen 2
 have hy5 := hy4.set_ 2 (.string ⟨#[]⟩)
 simp only [List.setIfInBounds_toArray, List.set_cons_zero, List.set_cons_succ, List.getElem?_toArray, List.getElem?_cons_zero, List.getElem?_cons_succ] at a0 a1 a2 a3 a4 a5 hy5
 have FS : Fr (fun j => j = w.heap.size + 1) w2 (((w2.setCell ⟨w.heap.size + 1, 0, none⟩ (.string t)).setCell ⟨w.heap.size + 1, 1, none⟩ (.string ⟨#[]⟩)).setCell ⟨w.heap.size + 1, 2, none⟩ (.string ⟨#[]⟩)) := (((Fr.refl (fun j => j = w.heap.size + 1) w2).setCell ⟨w.heap.size + 1, 0, none⟩ (fun _ => rfl) _).setCell ⟨w.heap.size + 1, 1, none⟩ (fun _ => rfl) _).setCell ⟨w.heap.size + 1, 2, none⟩ (fun _ => rfl) _
 have HY5 := Lib.hid hy5
 have HS5 := Lib.hid (hs2.fr FS (fun e => by omega) (fun j hj e => own_blk_ne hs2.row hy2 (by decide) (by rw [hj, e])))
 have HF5 := Lib.hid (((HF1.out.trans' hf2).trans (T := fun j => j = b ∨ j = w.heap.size + 1) (FS.mono (fun _ _ h => .inr h)) (fun j hj h => h.elim id (fun h => absurd hj (by omega)))))
 clear hy2 hy3 hy4 hy5 FS hs2 hf2
 go_wp2_with fail
 exact bodyPost_ret (v := .agg #[.string t, .string ⟨#[]⟩, .string ⟨#[]⟩]) (results_cell_row rfl _ _ (w.heap.size + 1) 122 _ (0, 0) _ rfl HY5.out Tryz.underlying122 rfl (by kernel_rfl)) rfl ⟨rfl, HS5.out, HF5.out⟩

theorem blkRange {w : World} {g t : Nat} {cs : List Value} (h : Blk w g t cs.toArray) : w.rangeAt g 0 cs := by
 intro j v hj
 rw [Nat.zero_add, h.cell j, List.getElem?_toArray]
 exact hj
theorem infZ46 : (Tryz.prog.info? 68).map (fun i => (i.zero, i.size, i.bytes)) = some (some (.agg #[.int .i64 0, .string ⟨#[]⟩, .nilIface, .string ⟨#[]⟩, .nilIface, .string ⟨#[]⟩, .nilIface, .int .i64 0, .string ⟨#[]⟩, .slice none 0 0, .string ⟨#[]⟩, .string ⟨#[]⟩, .nilIface, .slice none 0 0, .string ⟨#[]⟩, .string ⟨#[]⟩, .slice none 0 0]), 17, 280) := by kernel_rfl

theorem setAll_mid (g : Nat) (t : TypeId) : ∀ (vs pre old : List Value) (w : World), Blk w g t (pre ++ old).toArray → vs.length = old.length → Blk (w.setCells g pre.length vs) g t (pre ++ vs).toArray ∧ Fr (fun j => j = g) w (w.setCells g pre.length vs)
 | [], pre, old, w, h, hl => by
  have : old = [] := List.eq_nil_of_length_eq_zero (by simpa using hl.symm)
  subst this
  exact ⟨h, Fr.refl _ _⟩
 | v :: vs, pre, [], w, h, hl => by simp at hl
 | v :: vs, pre, x :: old, w, h, hl => by
  have h1 := h.set_ pre.length v
  have e1 : (pre ++ x :: old).toArray.setIfInBounds pre.length v = ((pre ++ [v]) ++ old).toArray := by
   rw [List.setIfInBounds_toArray]
   congr 1
   rw [List.set_append_right _ _ (Nat.le_refl _)]
   simp
  rw [e1] at h1
  have ih := setAll_mid g t vs (pre ++ [v]) old _ h1 (by simpa using hl)
  have e2 : (pre ++ [v]).length = pre.length + 1 := by simp
  rw [e2] at ih
  have e3 : pre ++ v :: vs = (pre ++ [v]) ++ vs := by simp
  rw [e3, World.setCells]
  exact ⟨ih.1, ((Fr.refl (fun j => j = g) w).setCell ⟨g, pre.length, none⟩ (fun _ => rfl) v).trans' ih.2⟩
theorem Blk.setAll {w : World} {g : Nat} {t : TypeId} {old vs : List Value} (h : Blk w g t old.toArray) (hl : vs.length = old.length) : Blk (w.setCells g 0 vs) g t vs.toArray ∧ Fr (fun j => j = g) w (w.setCells g 0 vs) :=
 setAll_mid g t vs [] old w h hl
theorem Blk.there {w : World} {g : Nat} {t : TypeId} {cs : List Value} (h : Blk w g t cs.toArray) {n : Nat} (hn : n = cs.length) : w.there g 0 n := fun j hj => by
 subst hn
 refine ⟨?_, h.frozen (0 + j)⟩
 rw [h.cell (0 + j), Nat.zero_add, List.getElem?_toArray, List.getElem?_eq_getElem hj]
 rfl

theorem skip_sign {rs : List Int} {p : Nat} (h : clsOf (peekOf rs p) ≠ 0) : skip rs [0] p = p := by
 refine skip_stop fun hc => h ?_
 unfold peekOf
 rw [if_pos hc.1]
 have := hc.2
 simpa using this
theorem skip_open {rs : List Int} {p : Nat} (h : peekOf rs p = 123) : skip rs [0] p = p := skip_sign (by rw [h]; decide)
theorem mark_yes {rs : List Int} {p : Nat} {x : UInt8} (hs : skip rs [0] p = p) (hx : peekOf rs p = (x.toNat : Int)) : markAt rs p ⟨#[x]⟩ = true ∧ markTo rs p ⟨#[x]⟩ = p + 1 := by
 have h1 : markAt rs p ⟨#[x]⟩ = true := by
  unfold markAt
  rw [hs, isAt_one, decide_eq_true hx]
 refine ⟨h1, ?_⟩
 unfold markTo
 rw [h1, hs]
 simp
 rfl

/-- Is a sign no digit? -/
def offD (x : Nat) : Bool := decide (x < 48) || decide (57 < x)

theorem off261 (x : Nat) (w : World) (hx : x ≤ 1114111) : Calls Tryz.prog 131 #[.int .i32 x] w fun e w' => e = .returned (.bool (offD x)) ∧ ∃ q, w' = w.drewN q := by
 unfold offD
 by_cases h1 : x < 48
 · have h1' : (x : Int) < 48 := by omega
   rw [decide_eq_true h1]
   go_enter Tryz.func131, Tryz.ntmps131
   go_wp2_with fail
   go_ret
   exact ⟨rfl, 0, rfl⟩
 · have h1' : ¬ (x : Int) < 48 := by omega
   rw [decide_eq_false h1]
   by_cases h2 : 57 < x
   · have h2' : (57 : Int) < x := by omega
     rw [decide_eq_true h2]
     go_enter Tryz.func131, Tryz.ntmps131
     go_wp2_with fail
     go_ret
     exact ⟨rfl, 0, rfl⟩
   · have h2' : ¬ (57 : Int) < x := by omega
     rw [decide_eq_false h2]
     go_enter Tryz.func131, Tryz.ntmps131
     go_wp2_with fail
     go_ret
     exact ⟨rfl, 0, rfl⟩
theorem enters261 : ∀ args w, (callFunc 131 args).run Tryz.prog w = .ok (.enter 131 args) w := fun args w => by kernel_rfl
theorem fr_below0 {w w' : World} (h : Below w.heap.size w w') : Fr (fun _ => False) w w' := Fr.of_below h _
theorem idx260 (s : ByteArray) (w : World) : Calls Tryz.prog 130 #[.string s, .func (.func 131) #[] #[]] w fun e w' => e = .returned (.int .i64 (Lib.idxFunc offD true s)) ∧ Fr (fun _ => False) w w' :=
 (Tryz.strings_IndexFunc_runes 131 #[] enters261 offD s w (fun W x hx _ => off261 x W hx)).mono fun _ _ h => ⟨h.1, fr_below0 h.2⟩
theorem parse262 (s : ByteArray) (v : Int) (h : Lib.parseIntB 64 s.data.toList = .ok v) (hs : s.size ≤ 4096) (w : World) : Calls Tryz.prog 132 #[.string s, .int .i64 10, .int .i64 64] w fun e w' => e = .returned (.tuple #[.int .i64 v, .nilIface]) ∧ Fr (fun _ => False) w w' :=
 (Tryz.strconv_ParseInt_10_at64_ok s (by omega) v h w).mono fun _ _ h => ⟨h.1, by
  rcases h.2 with rfl | ⟨t, rfl⟩
  · exact Fr.refl _ _
  · exact fr_below0 (Lib.bytesWorld_below _ _ _)⟩

theorem vparse_ok (s : ByteArray) (v : Int) (w : World) (hp : 0 < s.size) (hs : s.size ≤ 4096) (h43 : ¬ (s[0]'hp).toNat = 43) (h45 : ¬ (s[0]'hp).toNat = 45) (hd : Lib.idxFunc offD true s = -1) (hv : Lib.parseIntB 64 s.data.toList = .ok v) :
    Calls Tryz.prog 102 #[.string s] w fun e w' => e = .returned (.tuple #[.int .i64 v, .int .i64 0]) ∧ Fr (fun _ => False) w w' := by
 have HI := Lib.hid (fun w => idx260 s w)
 rw [hd] at HI
 have HP := Lib.hid (fun w => parse262 s v hv hs w)
 have hne : s.toList ≠ [] := by
  intro e
  rw [Lib.toList_data] at e
  have : s.data.toList.length = 0 := by rw [e]; rfl
  have h2 : s.data.toList.length = s.size := by simp
  omega
 have h1 : s.toList.isEmpty = false := by
  cases hl : s.toList with
  | nil => exact absurd hl hne
  | cons c r => rfl
 have h4 : (!s.toList.isEmpty) = true := by rw [h1]; rfl
 have hp' : (0 : Int) < (s.size : Int) := by omega
 have hq1 : (((s[0]'hp).toNat : Int) == 43) = false := beq_eq_false_iff_ne.2 (fun e => h43 (by omega))
 have hq2 : (((s[0]'hp).toNat : Int) == 45) = false := beq_eq_false_iff_ne.2 (fun e => h45 (by omega))
 clear hd hv h43 h45
 go_enter Tryz.func102, Tryz.ntmps102
 go_wp2_with fail
 refine (HI.out _).mono ?_
 rintro e w1 ⟨rfl, hf1⟩
 have HF1 := Lib.hid hf1
 clear hf1
 go_wp2_with fail
 refine (HP.out _).mono ?_
 rintro e w2 ⟨rfl, hf2⟩
 go_wp2_with fail
 go_ret2
 exact ⟨rfl, HF1.out.trans' hf2⟩

theorem inf37 : (Tryz.prog.info? 59).map (·.size) = some 2 := by kernel_rfl
/-- An int as a term. -/
def intTerm (t : ByteArray) : Value := .iface 254 (.agg #[.string t, .string ⟨#[104, 116, 116, 112, 58, 47, 47, 119, 119, 119, 46, 119, 51, 46, 111, 114, 103, 47, 50, 48, 48, 49, 47, 88, 77, 76, 83, 99, 104, 101, 109, 97, 35, 105, 110, 116, 101, 103, 101, 114]⟩, .string ⟨#[]⟩])

theorem digits_sc (b c p s q : Nat) (A : Option Addr) (rs : List Int) (t : ByteArray) (w : World) (hs : skip rs [0] p = s) (hcl : clsOf (peekOf rs s) = 2) (hq : skip rs [2] s = q) (ht : runesBytes ((rs.drop s).take (q - s)) = t) (hsz : t.size ≤ 4096) (h : Sc w b A c rs p) :
    Calls Tryz.prog 101 #[.agg #[.pointer (some ⟨b, 0, none⟩)], .bool false] w (ScPost w b A c rs q (.tuple #[.string t, .int .i64 (s : Int)])) := by
 have hf : Fr (fun _ => False) w (w.alloc (.cells #[.pointer (some ⟨b, 0, none⟩)] 89)) := (Fr.refl _ _).alloc _
 have hx := Blk.new w 89 #[.pointer (some ⟨b, 0, none⟩)]
 have HX := Lib.hid hx
 have HF := Lib.hid hf
 have HS := Lib.hid (h.frF hf)
 have hbl := h.blk.lt
 have HB := Lib.hid (fun w1 h1 => blanks_sc b c p A rs w1 h1)
 rw [hs] at HB
 have HPL := Lib.hid (fun w1 h1 => place_sc b c s A rs w1 h1)
 have HK := Lib.hid (fun w1 h1 => peek_sc b c s A rs w1 h1)
 have HCL := Lib.hid (fun w1 => cls_any (peekOf rs s) w1 (peek_ok h s))
 rw [hcl] at HCL
 have HR := Lib.hid (fun (B kc : Nat) (K : Option Addr) w1 h1 hr => run_sc b c s B kc A K rs [2] w1 (by decide) h1 hr)
 rw [hq] at HR
 unfold RunPost at HR
 rw [ht] at HR
 generalize peekOf rs s = pk at *
 clear h hf hx  hs hcl hq ht
 go_enter Tryz.func101, Tryz.ntmps101
 go_wp2_with fail
 refine (HB.out _ HS.out).mono ?_
 rintro e w1 ⟨⟨k, rfl⟩, hs1, hf1⟩
 have hx1 := HX.out.fr hf1 (fun e => by omega)
 have x1 : w1.cell? ⟨w.heap.size, 0, none⟩ = some (.pointer (some ⟨b, 0, none⟩)) := hx1.cell 0
 have HX1 := Lib.hid hx1
 have HS1 := Lib.hid hs1
 have HF1 := Lib.hid ((HF.out.mono (T := fun j => j = b) (fun _ _ h => h.elim)).trans' hf1)
 clear hs1 hf1 hx1
 have HPP := Lib.hid (HPL.out _ HS1.out)
 go_wp2_with fail
 refine (HPP.out).mono ?_
 rintro e wq ⟨rfl, rfl⟩
 go_wp2_with fail
 refine (HK.out _ HS1.out).mono ?_
 rintro e w2 ⟨rfl, hf2⟩
 have hx2 := HX1.out.fr hf2 (fun h => h)
 have x2 : w2.cell? ⟨w.heap.size, 0, none⟩ = some (.pointer (some ⟨b, 0, none⟩)) := hx2.cell 0
 have HX2 := Lib.hid hx2
 have HS2 := Lib.hid (HS1.out.frF hf2)
 have HF2 := Lib.hid (HF1.out.trans hf2 (fun _ _ h => h.elim))
 clear  hf2 hx2 x1
 go_wp2_with fail
 refine (HCL.out _).mono ?_
 rintro e wq ⟨rfl, rfl⟩
 go_wp2_with fail
 have hfa : Fr (fun _ => False) w2 (w2.alloc (.cells #[.int .i64 2] 3)) := (Fr.refl _ _).alloc _
 have hown := World.ownsRow_lit (base := 0) (e := 3) (size := 1) w2 #[.int .i64 2] 1 (Nat.zero_le _) (by decide) rfl
 have HRR := Lib.hid (HR.out 0 1 (some ⟨w2.heap.size, 0, none⟩) _ (HS2.out.frF hfa) hown)
 have HFA := Lib.hid (HF2.out.trans hfa (fun _ _ h => h.elim))
 clear hfa hown
 refine HRR.out.mono ?_
 rintro e w3 ⟨rfl, hs3, hf3⟩
 have HS3 := Lib.hid hs3
 have HF3 := Lib.hid (HFA.out.trans' hf3)
 clear hs3 hf3
 have hsz2 : ¬ 9223372036854775807 < t.size := by omega
 go_wp2_with fail
 go_ret2
 exact ⟨by rw [show (⟨#[]⟩ ++ t : ByteArray) = t from ByteArray.ext (by rw [ByteArray.data_append]; simp)]; rfl, HS3.out, HF3.out⟩

theorem node_var (l : List UInt8) (b c p s : Nat) (A : Option Addr) (rs : List Int) (w : World) (hl2 : l.length ≤ 4000) (hs : skip rs [0] p = s) (hs2 : skip rs [0] s = s) (hnm : Name rs s l) (h : Sc w b A c rs p) :
    Calls Tryz.prog 135 #[.agg #[.pointer (some ⟨b, 0, none⟩)]] w (ScPost w b A c rs (s + 1 + l.length) (.agg #[.string ⟨l.toArray⟩, .nilIface])) := by
 have hf : Fr (fun _ => False) w ((w.alloc (.cells #[.pointer (some ⟨b, 0, none⟩)] 89)).alloc (.cells #[.string ⟨#[]⟩, .nilIface] 59)) := ((Fr.refl _ _).alloc _).alloc _
 have hx := Blk.new w 89 #[.pointer (some ⟨b, 0, none⟩)]
 have hy := Blk.new (w.alloc (.cells #[.pointer (some ⟨b, 0, none⟩)] 89)) 59 #[.string ⟨#[]⟩, .nilIface]
 rw [show (w.alloc (.cells #[.pointer (some ⟨b, 0, none⟩)] 89)).heap.size = w.heap.size + 1 by simp] at hy
 have hx := hx.alloc (.cells #[.string ⟨#[]⟩, .nilIface] 59)
 have HX := Lib.hid hx
 have HY := Lib.hid hy
 have HF := Lib.hid hf
 have HS := Lib.hid (h.frF hf)
 have hbl := h.blk.lt
 have HN := Lib.hid (fun w1 h1 => nextsign_sc b c p A rs w1 h1)
 rw [hs, hnm.1] at HN
 have HV := Lib.hid (fun w1 h1 => variable_sc l b c s s A rs w1 hl2 hs2 hnm h1)
 generalize (⟨l.toArray⟩ : ByteArray) = t at *
 generalize s + 1 + l.length = q at *
 clear h hf hx hy hs hs2 hnm
 go_enter Tryz.func135, Tryz.ntmps135
 go_wp2_with fail
 refine (HN.out _ HS.out).mono ?_
 rintro e w1 ⟨rfl, hs1, hf1⟩
 have hx1 := HX.out.fr hf1 (fun e => by omega)
 have x1 : w1.cell? ⟨w.heap.size, 0, none⟩ = some (.pointer (some ⟨b, 0, none⟩)) := hx1.cell 0
 have HX1 := Lib.hid hx1
 have HY1 := Lib.hid (HY.out.fr hf1 (fun e => by omega))
 have HS1 := Lib.hid hs1
 have HF1 := Lib.hid ((HF.out.mono (T := fun j => j = b) (fun _ _ h => h.elim)).trans' hf1)
 clear hs1 hf1 hx1
 go_wp2_with fail
 refine (HV.out _ HS1.out).mono ?_
 rintro e w2 ⟨rfl, hs2, hf2⟩
 have hx2 := HX1.out.fr hf2 (fun e => by omega)
 have x2 : w2.cell? ⟨w.heap.size, 0, none⟩ = some (.pointer (some ⟨b, 0, none⟩)) := hx2.cell 0
 have HX2 := Lib.hid hx2
 have HY2 := Lib.hid (HY1.out.fr hf2 (fun e => by omega))
 have HS2 := Lib.hid hs2
 have HF2 := Lib.hid (HF1.out.trans' hf2)
 clear hs2 hf2 hx2 x1
 have hy3 := HY2.out
 have hst3 := Blk.setAll (vs := [.string t, .nilIface]) (old := [.string ⟨#[]⟩, .nilIface]) hy3 rfl
 have HTH3 := Lib.hid (Blk.there (cs := [.string ⟨#[]⟩, .nilIface]) hy3 (n := 2) rfl)
 have HST3 := Lib.hid hst3.1
 have HSS3 := Lib.hid (HS2.out.fr hst3.2 (fun e => by omega) (fun j hj e => own_blk_ne HS2.out.row hy3 (by decide) (by rw [hj, e])))
 have HFF3 := Lib.hid (HF2.out.trans (T := fun j => j = b ∨ j = w.heap.size + 1) (hst3.2.mono (fun _ _ h => .inr h)) (fun j hj h => h.elim id (fun h => absurd hj (by omega))))
 have HONE3 := Lib.hid (show (#[.string t, .nilIface] : Array Value).all (·.oneCell') = true from all_oneCell_toArray (by intro v hv; simp only [List.mem_cons, List.not_mem_nil, or_false] at hv; rcases hv with rfl | rfl <;> rfl))
 have hlt3 := hy3.lt
 clear hy3 hst3
 go_wp2_with (refine wpList_store_mid rfl 59 _ _ rfl _ _ _ rfl rfl HTH3.out inf37 HONE3.out ?_)
 exact bodyPost_ret (v := .agg #[.string t, .nilIface]) (results_cell_row rfl _ _ (w.heap.size + 1) 59 _ (0, 0) _ rfl HST3.out Tryz.underlying59 rfl (by kernel_rfl)) rfl ⟨rfl, HSS3.out, HFF3.out⟩

theorem node_int (b c p s q : Nat) (A : Option Addr) (rs : List Int) (t : ByteArray) (v : Int) (w : World) (hs : skip rs [0] p = s) (hs2 : skip rs [0] s = s) (hcl : clsOf (peekOf rs s) = 2) (hq : skip rs [2] s = q) (ht : runesBytes ((rs.drop s).take (q - s)) = t) (hsz : t.size ≤ 4096) (HVP : ∀ w1, Calls Tryz.prog 102 #[.string t] w1 fun e w' => e = .returned (.tuple #[.int .i64 v, .int .i64 0]) ∧ Fr (fun _ => False) w1 w') (h : Sc w b A c rs p) :
    Calls Tryz.prog 135 #[.agg #[.pointer (some ⟨b, 0, none⟩)]] w (ScPost w b A c rs q (.agg #[.string ⟨#[]⟩, intTerm t])) := by
 have hf : Fr (fun _ => False) w ((w.alloc (.cells #[.pointer (some ⟨b, 0, none⟩)] 89)).alloc (.cells #[.string ⟨#[]⟩, .nilIface] 59)) := ((Fr.refl _ _).alloc _).alloc _
 have hx := Blk.new w 89 #[.pointer (some ⟨b, 0, none⟩)]
 have hy := Blk.new (w.alloc (.cells #[.pointer (some ⟨b, 0, none⟩)] 89)) 59 #[.string ⟨#[]⟩, .nilIface]
 rw [show (w.alloc (.cells #[.pointer (some ⟨b, 0, none⟩)] 89)).heap.size = w.heap.size + 1 by simp] at hy
 have hx := hx.alloc (.cells #[.string ⟨#[]⟩, .nilIface] 59)
 have HX := Lib.hid hx
 have HY := Lib.hid hy
 have HF := Lib.hid hf
 have HS := Lib.hid (h.frF hf)
 have hbl := h.blk.lt
 have h63 : (peekOf rs s == 63) = false := by
  have : ¬ peekOf rs s = 63 := fun e => by rw [e] at hcl; exact absurd hcl (by decide)
  simpa using this
 have HN := Lib.hid (fun w1 h1 => nextsign_sc b c p A rs w1 h1)
 rw [hs] at HN
 have HCL := Lib.hid (fun w1 => cls_any (peekOf rs s) w1 (peek_ok h s))
 rw [hcl] at HCL
 have HD := Lib.hid (fun w1 h1 => digits_sc b c s s q A rs t w1 hs2 hcl hq ht hsz h1)
 have HVV := Lib.hid HVP
 unfold intTerm
 generalize peekOf rs s = pk at *
 clear h hf hx hy hs hs2 hcl hq ht HVP
 go_enter Tryz.func135, Tryz.ntmps135
 go_wp2_with fail
 refine (HN.out _ HS.out).mono ?_
 rintro e w1 ⟨rfl, hs1, hf1⟩
 have hx1 := HX.out.fr hf1 (fun e => by omega)
 have x1 : w1.cell? ⟨w.heap.size, 0, none⟩ = some (.pointer (some ⟨b, 0, none⟩)) := hx1.cell 0
 have HX1 := Lib.hid hx1
 have HY1 := Lib.hid (HY.out.fr hf1 (fun e => by omega))
 have HS1 := Lib.hid hs1
 have HF1 := Lib.hid ((HF.out.mono (T := fun j => j = b) (fun _ _ h => h.elim)).trans' hf1)
 clear hs1 hf1 hx1
 go_wp2_with fail
 refine (HCL.out _).mono ?_
 rintro e wq ⟨rfl, rfl⟩
 go_wp2_with fail
 refine (HD.out _ HS1.out).mono ?_
 rintro e w2 ⟨rfl, hs2, hf2⟩
 have hx2 := HX1.out.fr hf2 (fun e => by omega)
 have x2 : w2.cell? ⟨w.heap.size, 0, none⟩ = some (.pointer (some ⟨b, 0, none⟩)) := hx2.cell 0
 have HX2 := Lib.hid hx2
 have HY2 := Lib.hid (HY1.out.fr hf2 (fun e => by omega))
 have HS2 := Lib.hid hs2
 have HF2 := Lib.hid (HF1.out.trans' hf2)
 clear hs2 hf2 hx2 x1
 go_wp2_with fail
 refine (HVV.out _).mono ?_
 rintro e w3 ⟨rfl, hf3⟩
 have hx3 := HX2.out.fr hf3 (fun h => h)
 have x3 : w3.cell? ⟨w.heap.size, 0, none⟩ = some (.pointer (some ⟨b, 0, none⟩)) := hx3.cell 0
 have HX3 := Lib.hid hx3
 have HY3 := Lib.hid (HY2.out.fr hf3 (fun h => h))
 have HS3 := Lib.hid (HS2.out.frF hf3)
 have HF3 := Lib.hid (HF2.out.trans hf3 (fun _ _ h => h.elim))
 clear  hf3 hx3 x2
 have hy4 := HY3.out
 have hst4 := Blk.setAll (vs := [.string ⟨#[]⟩, .iface 254 (.agg #[.string t, .string ⟨#[104, 116, 116, 112, 58, 47, 47, 119, 119, 119, 46, 119, 51, 46, 111, 114, 103, 47, 50, 48, 48, 49, 47, 88, 77, 76, 83, 99, 104, 101, 109, 97, 35, 105, 110, 116, 101, 103, 101, 114]⟩, .string ⟨#[]⟩])]) (old := [.string ⟨#[]⟩, .nilIface]) hy4 rfl
 have HTH4 := Lib.hid (Blk.there (cs := [.string ⟨#[]⟩, .nilIface]) hy4 (n := 2) rfl)
 have HST4 := Lib.hid hst4.1
 have HSS4 := Lib.hid (HS3.out.fr hst4.2 (fun e => by omega) (fun j hj e => own_blk_ne HS3.out.row hy4 (by decide) (by rw [hj, e])))
 have HFF4 := Lib.hid (HF3.out.trans (T := fun j => j = b ∨ j = w.heap.size + 1) (hst4.2.mono (fun _ _ h => .inr h)) (fun j hj h => h.elim id (fun h => absurd hj (by omega))))
 have HONE4 := Lib.hid (show (#[.string ⟨#[]⟩, .iface 254 (.agg #[.string t, .string ⟨#[104, 116, 116, 112, 58, 47, 47, 119, 119, 119, 46, 119, 51, 46, 111, 114, 103, 47, 50, 48, 48, 49, 47, 88, 77, 76, 83, 99, 104, 101, 109, 97, 35, 105, 110, 116, 101, 103, 101, 114]⟩, .string ⟨#[]⟩])] : Array Value).all (·.oneCell') = true from all_oneCell_toArray (by intro v hv; simp only [List.mem_cons, List.not_mem_nil, or_false] at hv; rcases hv with rfl | rfl <;> rfl))
 have hlt4 := hy4.lt
 clear hy4 hst4
 go_wp2_with (refine wpList_store_mid rfl 59 _ _ rfl _ _ _ rfl rfl HTH4.out inf37 HONE4.out ?_)
 exact bodyPost_ret (v := .agg #[.string ⟨#[]⟩, .iface 254 (.agg #[.string t, .string ⟨#[104, 116, 116, 112, 58, 47, 47, 119, 119, 119, 46, 119, 51, 46, 111, 114, 103, 47, 50, 48, 48, 49, 47, 88, 77, 76, 83, 99, 104, 101, 109, 97, 35, 105, 110, 116, 101, 103, 101, 114]⟩, .string ⟨#[]⟩])]) (results_cell_row rfl _ _ (w.heap.size + 1) 59 _ (0, 0) _ rfl HST4.out Tryz.underlying59 rfl (by kernel_rfl)) rfl ⟨rfl, HSS4.out, HFF4.out⟩

/-- The signs behind a path's part, as the program keeps them. -/
def Sg (w : World) : Prop := Blk w 0 94 #[.string ⟨#[]⟩, .string ⟨#[]⟩, .string ⟨#[]⟩, .string ⟨#[]⟩, .string ⟨#[42]⟩, .string ⟨#[43]⟩, .string ⟨#[126]⟩]
theorem Sg.frF {w w' : World} (h : Sg w) (hf : Fr (fun _ => False) w w') : Sg w' := Blk.fr h hf (fun h => h)
theorem Sg.frB {w w' : World} {x t : Nat} {cs : Array Value} (h : Sg w) (hx : Blk w x t cs) (ht : ¬ t = 94) (hf : Fr (fun j => j = x) w w') : Sg w' := Blk.fr h hf (fun e => Blk.ne_ h hx (fun e => ht e.symm) e)
theorem ix444_0 (w : World) : (Instr.index 94 (.agg #[.string ⟨#[]⟩, .string ⟨#[]⟩, .string ⟨#[]⟩, .string ⟨#[]⟩, .string ⟨#[42]⟩, .string ⟨#[43]⟩, .string ⟨#[126]⟩]) (.int .i64 0)).run Tryz.prog w = .ok (.string ⟨#[]⟩) w := by kernel_rfl
theorem ix444_1 (w : World) : (Instr.index 94 (.agg #[.string ⟨#[]⟩, .string ⟨#[]⟩, .string ⟨#[]⟩, .string ⟨#[]⟩, .string ⟨#[42]⟩, .string ⟨#[43]⟩, .string ⟨#[126]⟩]) (.int .i64 1)).run Tryz.prog w = .ok (.string ⟨#[]⟩) w := by kernel_rfl
theorem ix444_2 (w : World) : (Instr.index 94 (.agg #[.string ⟨#[]⟩, .string ⟨#[]⟩, .string ⟨#[]⟩, .string ⟨#[]⟩, .string ⟨#[42]⟩, .string ⟨#[43]⟩, .string ⟨#[126]⟩]) (.int .i64 2)).run Tryz.prog w = .ok (.string ⟨#[]⟩) w := by kernel_rfl
theorem ix444_3 (w : World) : (Instr.index 94 (.agg #[.string ⟨#[]⟩, .string ⟨#[]⟩, .string ⟨#[]⟩, .string ⟨#[]⟩, .string ⟨#[42]⟩, .string ⟨#[43]⟩, .string ⟨#[126]⟩]) (.int .i64 3)).run Tryz.prog w = .ok (.string ⟨#[]⟩) w := by kernel_rfl
theorem ix444_4 (w : World) : (Instr.index 94 (.agg #[.string ⟨#[]⟩, .string ⟨#[]⟩, .string ⟨#[]⟩, .string ⟨#[]⟩, .string ⟨#[42]⟩, .string ⟨#[43]⟩, .string ⟨#[126]⟩]) (.int .i64 4)).run Tryz.prog w = .ok (.string ⟨#[42]⟩) w := by kernel_rfl
theorem ix444_5 (w : World) : (Instr.index 94 (.agg #[.string ⟨#[]⟩, .string ⟨#[]⟩, .string ⟨#[]⟩, .string ⟨#[]⟩, .string ⟨#[42]⟩, .string ⟨#[43]⟩, .string ⟨#[126]⟩]) (.int .i64 5)).run Tryz.prog w = .ok (.string ⟨#[43]⟩) w := by kernel_rfl
theorem ix444_6 (w : World) : (Instr.index 94 (.agg #[.string ⟨#[]⟩, .string ⟨#[]⟩, .string ⟨#[]⟩, .string ⟨#[]⟩, .string ⟨#[42]⟩, .string ⟨#[43]⟩, .string ⟨#[126]⟩]) (.int .i64 6)).run Tryz.prog w = .ok (.string ⟨#[126]⟩) w := by kernel_rfl
attribute [local go_sem] ix444_0 ix444_1 ix444_2 ix444_3 ix444_4 ix444_5 ix444_6
theorem idx354_nil (f : Value) (w : World) : Calls Tryz.prog 202 #[.slice none 0 0, f] w fun e w' => e = .returned (.int .i64 (-1)) ∧ w = w' := by
 go_enter Tryz.func202, Tryz.ntmps202
 go_wp2_with fail
 go_loopw [8] (fun iv wr => iv = .int .i64 0 ∧ w = wr) (fun _ _ => 0)
 case atStart => exact ⟨rfl, rfl⟩
 case round =>
  obtain ⟨rfl, rfl⟩ := hrel
  go_wp2_with fail
  go_ret
  exact ⟨rfl, rfl⟩
theorem has332_nil (f : Value) (w : World) : Calls Tryz.prog 184 #[.slice none 0 0, f] w fun e w' => e = .returned (.bool false) ∧ w = w' := by
 have HI := Lib.hid (idx354_nil f w)
 go_enter Tryz.func184, Tryz.ntmps184
 go_wp2_with fail
 refine HI.out.mono ?_
 rintro e w1 ⟨rfl, rfl⟩
 go_wp2_with fail
 go_ret
 exact ⟨rfl, rfl⟩

end Go.Proofs.YtagchljgmjmlcaaGreatDoor
