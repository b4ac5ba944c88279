/- The signs of a text; ParseExpr of what can not be: walked. -/
import Derived.Test.YtebddgdkndmpjaaGreatDoorFo
import Derived.Test.YtebddgdkndmpjaaGreatDoorFq
import Derived.Test.YtebddgdkndmpjaaGreatDoorBq
import Derived.Deep.CutBlock
import Derived.Deep.RegionLawGrows
import Derived.Deep.Cut
import Derived.Deep.CutRange
import Derived.WalkKit
import Derived.WalkLawsBesides
import Derived.WalkSpells
import Derived.Deep.QuietTactic
import Derived.BigRegion
import Derived.BigQuiet
import Derived.Lib.Hide
import Derived.Outline
import Derived.Deep.AppendLies
import Derived.Deep.RegionLaw
import Derived.Deep.RegionWith
import Derived.Deep.RegionHeld3
import Derived.Deep.LoopGhost
import Derived.Deep.DeepFit
import Derived.Laws.ResultCell
import Derived.Laws.RangeAny
import Derived.Deep.MidRow
import Derived.StillTailTactics
import Derived.OpenShut
namespace Go.Proofs.YtebddgdkndmpjaaGreatDoor
set_option linter.unusedVariables false
open Go.RowKit Go

theorem runes_conv (s : ByteArray) : ∀ n p a, s.size - p ≤ n → Conv.runesFrom s n p a = a ++ ((runesFrom s p).map (Value.int .i32)).toArray
  | 0, p, a, h => by
    rw [runes_end s p (by omega)]
    simp [Conv.runesFrom]
  | n + 1, p, a, h => by
    rw [Conv.runesFrom]
    by_cases hp : p < s.size
    · have hw := width_pos s p hp
      rw [if_pos hp, runes_step s p hp]
      dsimp only
      rw [runes_conv s n (p + (Utf8.decode s p).2) _ (by omega)]
      apply Array.ext'
      simp
    · rw [if_neg hp, runes_end s p hp]
      simp
theorem runes_len (s : ByteArray) : ∀ n p, s.size - p ≤ n → (runesFrom s p).length ≤ s.size - p
  | 0, p, h => by
    rw [runes_end s p (by omega)]
    exact Nat.zero_le _
  | n + 1, p, h => by
    by_cases hp : p < s.size
    · have hw := width_pos s p hp
      have := runes_len s n (p + (Utf8.decode s p).2) (by omega)
      rw [runes_step s p hp, List.length_cons]
      omega
    · rw [runes_end s p hp]
      exact Nat.zero_le _
/-- A text: its signs. -/
structure Text (s : ByteArray) (rs : List Int) : Prop where
  runes : runesFrom s 0 = rs
  good : textFrom s 0 = true
  signs : ∀ x, x ∈ rs → signR x = true
  pos : 0 < rs.length
theorem Text.le {s : ByteArray} {rs : List Int} (h : Text s rs) : rs.length ≤ s.size := by
  have := runes_len s s.size 0 (by omega)
  rw [h.runes] at this
  omega

set_option maxRecDepth 100000 in
set_option maxHeartbeats 4000000 in
theorem new_scG (s : ByteArray) (rs : List Int) (w : World) (h : Text s rs) (hs : s.size ≤ 4096) : Calls Tryz.prog 86 #[.string s] w fun e w' => ∃ b g c, e = .returned (.tuple #[.pointer (some ⟨b, 0, none⟩), .int .i64 0, .int .i64 0]) ∧ w.heap.size ≤ b ∧ Sc w' b (some ⟨g, 0, none⟩) c rs 0 ∧ Fr (fun _ => False) w w' := by
  have HW := Lib.hid (wrong_any s w hs)
  have hr := runes_conv s s.size 0 #[] (by omega)
  rw [Array.empty_append, h.runes] at hr
  have hle := h.le
  have HCV := Lib.hid (fun w1 => run_runes_of_string (P := Tryz.prog) w1 9 237 21 s Tryz.underlying9 Tryz.underlying237 Tryz.underlying21 (by rw [hr]; simp; omega))
  rw [hr] at HCV
  have hsz : ((rs.map (Value.int .i32)).toArray).size = rs.length := by simp
  rw [hsz] at HCV
  have HT := Lib.hid h.good
  have HV := Lib.hid (show ∀ r, r ∈ rs → Lib.validRune r = true ∧ 0 ≤ r from fun r hr => ⟨by rw [signR_valid]; exact h.signs r hr, ((signR_iff r).1 (h.signs r hr)).1⟩)
  have h0' := h.pos
  have hs' : rs.length ≤ 4096 := by omega
  clear hr hsz h hle
  go_enter Tryz.func86, Tryz.ntmps86
  go_wp2_with fail
  refine HW.out.mono ?_
  rintro e w1 ⟨n, rfl, hn, hf1⟩
  rw [HT.out] at hn
  have hn0 : n < 0 := by simpa using hn
  have hcv := HCV.out w1
  have hge := grownCap_ge w1 rs.length 0 21
  have hle := grownCap_le_maxLen w1 rs.length 0 21 (by unfold maxLen; omega)
  generalize grownCap w1 rs.length 0 21 = cap at *
  have hb0 := Blk.new w1.drew 21 ((rs.map (Value.int .i32)).toArray ++ Array.replicate (cap - rs.length) (.int .i32 0))
  have HB0 := Lib.hid hb0
  have HROW := Lib.hid (show (w1.drew.alloc (.cells ((rs.map (Value.int .i32)).toArray ++ Array.replicate (cap - rs.length) (.int .i32 0)) 21)).ownsRow 0 21 1 (.slice (some ⟨w1.heap.size, 0, none⟩) rs.length cap) rs.length (rs.map (.int .i32)) from
    ⟨by simp, .inr ⟨w1.heap.size, cap, _, rfl, Nat.zero_le _, hb0, hge, hle, by simp; omega, by simp⟩⟩)
  have HF1 := Lib.hid (show Fr (fun _ => False) w (w1.drew.alloc (.cells ((rs.map (Value.int .i32)).toArray ++ Array.replicate (cap - rs.length) (.int .i32 0)) 21)) from (hf1.drew).alloc _)
  have hz : (w1.drew.alloc (.cells ((rs.map (Value.int .i32)).toArray ++ Array.replicate (cap - rs.length) (.int .i32 0)) 21)).heap.size = w1.heap.size + 1 := by simp
  generalize w1.drew.alloc (.cells ((rs.map (Value.int .i32)).toArray ++ Array.replicate (cap - rs.length) (.int .i32 0)) 21) = w2 at *
  clear hb0 hn HB0
  have hsz1 := hf1.size
  clear hf1
  go_wp2_with fail
  go_ret3
  have hb2 := Blk.new w2 239 #[.slice (some ⟨w1.heap.size, 0, none⟩) rs.length cap, .int .i64 0]
  rw [hz] at hb2
  exact ⟨_, _, _, rfl, by omega, ⟨hb2, HROW.out.alloc _, Nat.zero_le _, hs', h0', HV.out⟩, HF1.out.alloc _⟩

set_option maxRecDepth 100000 in
set_option maxHeartbeats 4000000 in
theorem guardedG (s : ByteArray) (rs : List Int) (F : Nat) (C : Array Value) (pl co : Int) (w : World) (hA : Text s rs) (hs : s.size ≤ 4096) (hen : ∀ args w, (callFunc F args).run Tryz.prog w = .ok (.enter F args) w)
    (HF : ∀ (b c : Nat) (A : Option Addr) (w1 : World), w.heap.size ≤ b → Fr (fun _ => False) w w1 → Sc w1 b A c rs 0 → Calls Tryz.prog F (#[.agg #[.pointer (some ⟨b, 0, none⟩)]] ++ C) w1 fun e w' => Thrown pl co e ∧ Fr (fun j => j = b) w1 w') :
    Calls Tryz.prog 38 #[.string s, .func (.func F) #[] C] w fun e w' => e = .returned (.tuple #[.int .i64 pl, .int .i64 co]) ∧ Fr (fun _ => False) w w' := by
  have hmf : ∀ (fn : Fn) (first cap : Array Value) (w : World), (Instr.makeFunc fn first cap).run Tryz.prog w = .ok (.func fn first cap) w := fun _ _ _ _ => rfl
  have HN := Lib.hid (fun w1 => new_scG s rs w1 hA hs)
  have hlen : ¬ ((s.size : Int) > 8192) := by omega
  unfold Thrown at HF
  have HFF := Lib.hid HF
  clear HF hA
  go_enter_defers Tryz.func38, Tryz.ntmps38
  go_wp2_with fail
  refine (HN.out _).mono ?_
  rintro e w1 ⟨b, g, c, rfl, hb, hs1, hf1⟩
  have hz1 : (w.alloc (.cells #[.int .i64 0] 3)).heap.size = w.heap.size + 1 := by simp
  have hz2 : ((w.alloc (.cells #[.int .i64 0] 3)).alloc (.cells #[.int .i64 0] 31)).heap.size = w.heap.size + 1 + 1 := by simp
  have hb' : w.heap.size + 1 + 1 ≤ b := by omega
  have hR1 := ((Blk.new w 3 #[.int .i64 0]).alloc (.cells #[.int .i64 0] 31)).fr hf1 (fun h => h)
  have hE1 := (Blk.new (w.alloc (.cells #[.int .i64 0] 3)) 31 #[.int .i64 0]).fr hf1 (fun h => h)
  rw [hz1] at hE1
  have hfa : Fr (fun _ => False) w1 (w1.alloc (.cells #[.pointer (some ⟨b, 0, none⟩)] 108)) := (Fr.refl _ _).alloc _
  have HR2 := Lib.hid (hR1.fr hfa (fun h => h))
  have HE2 := Lib.hid (hE1.fr hfa (fun h => h))
  have HF1 := Lib.hid (((((Fr.refl (fun _ => False) w).alloc (.cells #[.int .i64 0] 3)).alloc (.cells #[.int .i64 0] 31)).trans' hf1).trans' hfa)
  have HCL := Lib.hid (HFF.out b c (some ⟨g, 0, none⟩) _ (by omega) HF1.out (hs1.frF hfa))
  clear hs1 hf1 hfa hR1 hE1 hz1 hz2
  go_wp2_with fail
  refine HCL.out.mono ?_
  rintro e w2 ⟨rfl, hf2⟩
  have hr2 := HR2.out.fr hf2 (fun e => by omega)
  have he2 := HE2.out.fr hf2 (fun e => by omega)
  have HF2 := Lib.hid ((HF1.out.mono (T := fun j => j = b) (fun _ _ h => h.elim)).trans' hf2)
  clear hf2
  go_wp2_with fail
  refine leaves_cons (f := 87) (args := #[.pointer (some ⟨w.heap.size, 0, none⟩), .pointer (some ⟨w.heap.size + 1, 0, none⟩)]) (by simp) (by simp [go_sem]) ?_
  refine (catch_thrown w.heap.size (w.heap.size + 1) 0 0 pl co [] _ hr2 he2).mono ?_
  rintro e u' w3 ⟨rfl, rfl, hr3, he3, hf3⟩
  have r0 : w3.cell? ⟨w.heap.size, 0, none⟩ = some (.int .i64 pl) := hr3.cell 0
  have e0 : w3.cell? ⟨w.heap.size + 1, 0, none⟩ = some (.int .i64 co) := he3.cell 0
  have HF3 := Lib.hid (((HF2.out.mono (T := fun j => w.heap.size ≤ j) (fun j _ h => by omega)).trans hf3 (fun j _ h => by omega)).shut (Nat.le_refl _))
  clear hr3 he3 hf3 hr2 he2
  simp [Leaves, settle, results, Tryz.results38, go_sem, r0, e0, Result.andThen]
  exact HF3.out

theorem enters48 : ∀ args w, (callFunc 48 args).run Tryz.prog w = .ok (.enter 48 args) w := fun args w => by simp [go_sem]

set_option maxRecDepth 100000 in
set_option maxHeartbeats 4000000 in
/-- How many signs a text has. -/
theorem count_any (s : ByteArray) (w : World) (hs : s.size ≤ 4096) : Calls Tryz.prog 51 #[.string s] w fun e w' => e = .returned (.int .i64 ((runesFrom s 0).length : Int)) ∧ Fr (fun _ => False) w w' := by
  obtain ⟨m, hm⟩ : ∃ m, m = (runesFrom s 0).length := ⟨_, rfl⟩
  rw [← hm]
  have HM := Lib.hid hm
  have hml : m ≤ s.size := by have := runes_len s s.size 0 (by omega); omega
  clear hm
  go_enter Tryz.func51, Tryz.ntmps51
  go_wp2_with fail
  go_loopg [2] (s.size) (fun g nv wr => ∃ (p n : Nat), nv = .int .i64 (n : Int) ∧ n + (runesFrom s p).length = m ∧ s.size ≤ p + g ∧ ItAt wr w.heap.size s p ∧ Fr (fun j => w.heap.size ≤ j) w wr)
  case atStart => exact ⟨0, 0, rfl, by have := HM.out; omega, by omega, ItAt.new w s 0, (Fr.refl _ _).alloc _⟩
  case round =>
    obtain ⟨p, n, rfl, hn, hg, hit, hf⟩ := hrel
    have HIT := Lib.hid hit
    have HF := Lib.hid hf
    by_cases hp : p < s.size
    · have hnx := run_next_it hit hp
      have hwd := width_pos s p hp
      have hit2 := hit.set (p + (Utf8.decode s p).2)
      have hf2 := hit.frS (p + (Utf8.decode s p).2)
      rw [runes_step s p hp, List.length_cons] at hn
      have HN := Lib.hid hn
      have HI2 := Lib.hid hit2
      have HF2 := Lib.hid (hf.trans hf2 (fun j _ e => by omega))
      clear hit hf hit2 hf2 hn
      go_wp2_with fail
      go_roundg (s.size - (p + (Utf8.decode s p).2))
      case measure => omega
      case rel => exact ⟨p + (Utf8.decode s p).2, n + 1, by rw [IntWalk.wrap64_in _ (by have := HN.out; omega)]; rfl, by have := HN.out; omega, by omega, HI2.out, HF2.out⟩
    · have hnx := run_next_it_end hit hp
      rw [runes_end s p hp] at hn
      have hn2 : n = m := by simpa using hn
      subst hn2
      clear hit hf hn
      go_wp2_with fail
      go_ret
      exact ⟨rfl, HF.out.shut (Nat.le_refl _)⟩

set_option maxRecDepth 100000 in
set_option maxHeartbeats 4000000 in
/-- A text's length. -/
theorem len_any (s : ByteArray) (rs : List Int) (w : World) (h : Text s rs) (hs : s.size ≤ 4096) : Calls Tryz.prog 14 #[.string s] w fun e w' => e = .returned (.int .i64 (rs.length : Int)) ∧ Fr (fun _ => False) w w' := by
  have HW := Lib.hid (wrong_any s w hs)
  have HT := Lib.hid h.good
  have HC := Lib.hid (fun w1 => count_any s w1 hs)
  rw [h.runes] at HC
  clear h
  go_enter Tryz.func14, Tryz.ntmps14
  go_wp2_with fail
  refine HW.out.mono ?_
  rintro e w1 ⟨n, rfl, hn, hf1⟩
  rw [HT.out] at hn
  have hn0 : n < 0 := by simpa using hn
  clear hn
  go_wp2_with fail
  refine (HC.out _).mono ?_
  rintro e w2 ⟨rfl, hf2⟩
  go_wp2_with fail
  go_ret
  exact ⟨rfl, hf1.trans' hf2⟩

theorem results_e3' {P : Program} {fn : Func} {p c d : Tmp} {ty : TypeId} (h : fn.results = #[.cell p ty, .tmp c, .tmp d]) (tmps : Array Value) (w : World) :
    (results fn tmps).run P w = ((asAddr (tmps.getD p undef)).run P w).andThen fun q w₁ => ((loadVar ty q).run P w₁).andThen fun v w₂ => .ok (.tuple #[v, tmps.getD c undef, tmps.getD d undef]) w₂ := by
  simp only [results, h]
  simp [Sem.run_bind, Result.andThen]
theorem results_e3 {P : Program} {fn : Func} {p c d : Tmp} {ty : TypeId} (h : fn.results = #[.cell p ty, .tmp c, .tmp d]) (tmps : Array Value) (w : World) (g : Nat) (t : TypeId) (cs : Array Value) (fr : Nat × Nat) (ds : TypeDesc)
    (hp : tmps.getD p undef = .pointer (some ⟨g, 0, none⟩)) (hg : w.heap[g]? = some (.cells cs t fr))
    (hu : P.underlying ty = some ds) (hd : (match ds with | .struct _ | .array _ _ => true | _ => false) = true) (hi : (P.info? ty).map (·.size) = some cs.size) (vc vd : Value) (hc : tmps.getD c undef = vc) (hd2 : tmps.getD d undef = vd) :
    (results fn tmps).run P w = .ok (.tuple #[.agg cs, vc, vd]) w := by
  rw [results_e3' h, hp, hc, hd2]
  simp [asAddr, run_loadVar_row w g t ty cs fr ds hg hu hd hi]

def zero43 : List Value := [.string ⟨#[]⟩, .string ⟨#[]⟩, .nilIface, .slice none 0 0]
theorem inf43 : (Tryz.prog.info? 43).map (·.size) = some 4 := by kernel_rfl

set_option maxRecDepth 100000 in
set_option maxHeartbeats 4000000 in
/-- A term that can't be, at an expression's beginning. -/
theorem pexpr_bad (s : ByteArray) (rs : List Int) (w : World) (hA : Text s rs) (hs : s.size ≤ 1000) (hh : Head (peekOf rs 0)) (hbd : (readR rs 0).2 ≠ 0) (he : Es w) :
    Calls Tryz.prog 13 #[.string s] w fun e w' => e = .returned (.tuple #[.agg #[.string ⟨#[]⟩, .string ⟨#[]⟩, .nilIface, .slice none 0 0], .int .i64 ((readR rs 0).1 : Int), .int .i64 (readR rs 0).2]) ∧ Fr (fun _ => False) w w' := by
  have hf : Fr (fun _ => False) w ((w.alloc (.cells zero43.toArray 43)).alloc (.cells zero43.toArray 43)) := ((Fr.refl _ _).alloc _).alloc _
  have hr := (Blk.new w 43 zero43.toArray).alloc (.cells zero43.toArray 43)
  have hle := hA.le
  have HG := Lib.hid (guardedG s rs 48 #[.pointer (some ⟨w.heap.size + 1, 0, none⟩)] (readR rs 0).1 (readR rs 0).2 _ hA (by omega) enters48 (fun b c A w1 hb hf1 hs1 => pexpr1_bad b c (w.heap.size + 1) A rs w1 hh (by omega) hbd hs1 ((he.frF hf).frF hf1)))
  have HF := Lib.hid hf
  have HR := Lib.hid hr
  have hmf : ∀ (fn : Fn) (first cap : Array Value) (w : World), (Instr.makeFunc fn first cap).run Tryz.prog w = .ok (.func fn first cap) w := fun _ _ _ _ => rfl
  have hco : ((readR rs 0).2 == 0) = false := by simpa using hbd
  generalize readR rs 0 = rr at *
  obtain ⟨pl, co⟩ := rr
  dsimp only at *
  clear hf hA hbd he hh hr
  unfold zero43 at HG HR HF
  go_enter Tryz.func13, Tryz.ntmps13
  go_wp2_with fail
  refine HG.out.mono ?_
  rintro e w1 ⟨rfl, hf1⟩
  have hr1 := HR.out.fr hf1 (fun h => h)
  have hst := Blk.setAll (vs := zero43) (old := zero43) hr1 rfl
  have HTH := Lib.hid (Blk.there (cs := zero43) hr1 (n := 4) rfl)
  have HST := Lib.hid hst.1
  have HFF := Lib.hid ((HF.out.trans' hf1).trans hst.2 (fun j hj e => by omega))
  have HONE := Lib.hid (show (zero43.toArray).all (·.oneCell') = true from all_oneCell_toArray (by
    intro v hv
    unfold zero43 at hv
    simp only [List.mem_cons, List.not_mem_nil, or_false] at hv
    rcases hv with rfl | rfl | rfl | rfl <;> rfl))
  have hl1 := hr1.lt
  unfold zero43 at HONE HST HFF
  clear hst hr1 hf1
  go_wp2_with (refine wpList_store_mid rfl 43 _ _ rfl _ _ _ rfl rfl HTH.out inf43 HONE.out ?_)
  exact bodyPost_ret (v := .tuple #[.agg #[.string ⟨#[]⟩, .string ⟨#[]⟩, .nilIface, .slice none 0 0], .int .i64 pl, .int .i64 co]) (results_e3 rfl _ _ w.heap.size 43 _ (0, 0) _ rfl HST.out Tryz.underlying43 rfl (by kernel_rfl) _ _ rfl rfl) rfl ⟨rfl, HFF.out⟩

end Go.Proofs.YtebddgdkndmpjaaGreatDoor
