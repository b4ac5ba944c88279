/- A scanner of a text; what is thrown and caught: walked. -/
import Derived.Test.YtebddgdkndmpjaaGreatDoorBg
import Derived.Test.YtebddgdkndmpjaaGreatDoorBo
import Derived.Laws.IdiomStrings
import Derived.Laws.AppendOwn
import Derived.Deep.CutBlock
import Derived.Deep.RegionLawGrows
import Derived.Deep.Cut
import Derived.Deep.CutRange
import Derived.WalkKit
import Derived.WalkLawsBesides
import Derived.WalkSpells
import Derived.Deep.QuietTactic
import Derived.BigRegion
import Derived.BigQuiet
import Derived.Lib.Hide
import Derived.Outline
import Derived.Deep.AppendLies
import Derived.Deep.RegionLaw
import Derived.Deep.RegionWith
import Derived.Deep.RegionHeld3
import Derived.Deep.LoopGhost
import Derived.Deep.DeepFit
import Derived.Laws.ResultCell
import Derived.Laws.RangeAny
import Derived.Deep.MidRow
import Derived.StillTailTactics
import Derived.OpenShut
import Derived.Defers
import Derived.Recover
import Derived.Laws.Pointers
namespace Go.Proofs.YtebddgdkndmpjaaGreatDoor
set_option linter.unusedVariables false
open Go.RowKit Go

theorem textFrom_ascii (s : ByteArray) (h : Ascii s) : ∀ m p, s.size - p ≤ m → textFrom s p = true
  | 0, p, hp => textFrom_end s p (by omega)
  | m + 1, p, hp => by
    by_cases hlt : p < s.size
    · rw [textFrom_step s p hlt, decode_ascii s p hlt (h p hlt)]
      have h1 : okS s p (s[p]'hlt).toNat = true := by
        unfold okS
        have : ¬ (s[p]'hlt).toNat = 65533 := by have := h p hlt; omega
        rw [decide_eq_false this]
        rfl
      simp only [h1, Bool.true_and]
      exact textFrom_ascii s h m (p + 1) (by omega)
    · exact textFrom_end s p hlt
theorem runes_ascii (s : ByteArray) (h : Ascii s) : ∀ bound i acc, s.size - i ≤ bound → Conv.runesFrom s bound i acc = acc ++ (((txt s).drop i).map (Value.int .i32)).toArray
  | 0, i, acc, hb => by
    have : (txt s).drop i = [] := List.drop_eq_nil_of_le (by rw [txt_len]; omega)
    rw [this]
    simp [Conv.runesFrom]
  | b + 1, i, acc, hb => by
    rw [Conv.runesFrom]
    by_cases hlt : i < s.size
    · rw [if_pos hlt, decode_ascii s i hlt (h i hlt)]
      simp only []
      rw [runes_ascii s h b (i + 1) _ (by omega)]
      have hl : i < (txt s).length := by rw [txt_len]; exact hlt
      have e : (txt s).drop i = (((s[i]'hlt).toNat : Int)) :: (txt s).drop (i + 1) := by
        rw [List.drop_eq_getElem_cons hl]
        congr 1
        have := txt_get s i hlt
        rw [List.getD_eq_getElem?_getD, List.getElem?_eq_getElem hl] at this
        exact this
      rw [e]
      apply Array.ext'
      simp
    · rw [if_neg hlt]
      have : (txt s).drop i = [] := List.drop_eq_nil_of_le (by rw [txt_len]; omega)
      rw [this]
      simp
theorem txt_valid (s : ByteArray) (h : Ascii s) : ∀ r, r ∈ txt s → Lib.validRune r = true ∧ 0 ≤ r := by
  intro r hr
  obtain ⟨i, hi, rfl⟩ := List.mem_iff_getElem.1 hr
  have hi2 : i < s.size := by rw [txt_len] at hi; exact hi
  have h1 := h i hi2
  have h2 := txt_get s i hi2
  rw [List.getD_eq_getElem?_getD, List.getElem?_eq_getElem hi, Option.getD_some] at h2
  rw [h2]
  refine ⟨?_, by omega⟩
  unfold Lib.validRune
  simp
  omega

set_option maxRecDepth 100000 in
set_option maxHeartbeats 4000000 in
theorem new_sc (s : ByteArray) (w : World) (h : Ascii s) (h0 : 0 < s.size) (hs : s.size ≤ 4096) : Calls Tryz.prog 86 #[.string s] w fun e w' => ∃ b g c, e = .returned (.tuple #[.pointer (some ⟨b, 0, none⟩), .int .i64 0, .int .i64 0]) ∧ w.heap.size ≤ b ∧ Sc w' b (some ⟨g, 0, none⟩) c (txt s) 0 ∧ Fr (fun _ => False) w w' := by
  have HW := Lib.hid (wrong_any s w hs)
  have hr := runes_ascii s h s.size 0 #[] (by omega)
  rw [List.drop_zero, Array.empty_append] at hr
  have HCV := Lib.hid (fun w1 => run_runes_of_string (P := Tryz.prog) w1 9 237 21 s Tryz.underlying9 Tryz.underlying237 Tryz.underlying21 (by rw [hr]; simp [txt_len]; omega))
  rw [hr] at HCV
  have hsz : (((txt s).map (Value.int .i32)).toArray).size = (txt s).length := by simp
  rw [hsz] at HCV
  have HT := Lib.hid (textFrom_ascii s h s.size 0 (by omega))
  have HV := Lib.hid (txt_valid s h)
  have HL := Lib.hid (txt_len s)
  have h0' : 0 < (txt s).length := by rw [txt_len]; exact h0
  have hs' : (txt s).length ≤ 4096 := by rw [txt_len]; exact hs
  generalize txt s = rs at *
  clear hr hsz h
  go_enter Tryz.func86, Tryz.ntmps86
  go_wp2_with fail
  refine HW.out.mono ?_
  rintro e w1 ⟨n, rfl, hn, hf1⟩
  rw [HT.out] at hn
  have hn0 : n < 0 := by simpa using hn
  have hcv := HCV.out w1
  have hge := grownCap_ge w1 rs.length 0 21
  have hle := grownCap_le_maxLen w1 rs.length 0 21 (by unfold maxLen; omega)
  generalize grownCap w1 rs.length 0 21 = cap at *
  have hb0 := Blk.new w1.drew 21 ((rs.map (Value.int .i32)).toArray ++ Array.replicate (cap - rs.length) (.int .i32 0))
  have HB0 := Lib.hid hb0
  have HROW := Lib.hid (show (w1.drew.alloc (.cells ((rs.map (Value.int .i32)).toArray ++ Array.replicate (cap - rs.length) (.int .i32 0)) 21)).ownsRow 0 21 1 (.slice (some ⟨w1.heap.size, 0, none⟩) rs.length cap) rs.length (rs.map (.int .i32)) from
    ⟨by simp, .inr ⟨w1.heap.size, cap, _, rfl, Nat.zero_le _, hb0, hge, hle, by simp; omega, by simp⟩⟩)
  have HF1 := Lib.hid (show Fr (fun _ => False) w (w1.drew.alloc (.cells ((rs.map (Value.int .i32)).toArray ++ Array.replicate (cap - rs.length) (.int .i32 0)) 21)) from (hf1.drew).alloc _)
  have hz : (w1.drew.alloc (.cells ((rs.map (Value.int .i32)).toArray ++ Array.replicate (cap - rs.length) (.int .i32 0)) 21)).heap.size = w1.heap.size + 1 := by simp
  generalize w1.drew.alloc (.cells ((rs.map (Value.int .i32)).toArray ++ Array.replicate (cap - rs.length) (.int .i32 0)) 21) = w2 at *
  clear hb0 hn HB0
  have hsz1 := hf1.size
  clear hf1
  go_wp2_with fail
  go_ret3
  have hb2 := Blk.new w2 239 #[.slice (some ⟨w1.heap.size, 0, none⟩) rs.length cap, .int .i64 0]
  rw [hz] at hb2
  exact ⟨_, _, _, rfl, by omega, ⟨hb2, HROW.out.alloc _, Nat.zero_le _, hs', h0', HV.out⟩, HF1.out.alloc _⟩

theorem as_f1 (x : Value) (w : World) : (Instr.typeAssert (.iface 170 x) 20 170 false).run Tryz.prog w = .ok x w := by kernel_rfl
theorem fd_170a (p c : Value) (w : World) : (Instr.field 170 (.agg #[p, c]) 0).run Tryz.prog w = .ok p w := by kernel_rfl
theorem fd_170b (p c : Value) (w : World) : (Instr.field 170 (.agg #[p, c]) 1).run Tryz.prog w = .ok c w := by kernel_rfl
attribute [local go_sem] as_f1 fd_170a fd_170b

set_option maxRecDepth 100000 in
set_option maxHeartbeats 4000000 in
theorem catch_thrown (rb eb : Nat) (x y place code : Int) (older : List PanicEntry) (w : World) (hr : Blk w rb 3 #[.int .i64 x]) (he : Blk w eb 31 #[.int .i64 y]) :
    CallsD Tryz.prog 87 #[.pointer (some ⟨rb, 0, none⟩), .pointer (some ⟨eb, 0, none⟩)] (.panicking ({ v := failV place code, recovered := false } :: older)) w fun e u' w' =>
      e = .returned (.tuple #[]) ∧ u' = .panicking ({ v := failV place code, recovered := true } :: older) ∧ (Blk w' rb 3 #[.int .i64 place] ∧ Blk w' eb 31 #[.int .i64 code] ∧ Fr (fun j => j = rb ∨ j = eb) w w') := by
  have c1 : w.cell? ⟨rb, 0, none⟩ = some (.int .i64 x) := hr.cell 0
  have c2 : w.cell? ⟨eb, 0, none⟩ = some (.int .i64 y) := he.cell 0
  have f1 := hr.frozen 0
  have f2 := he.frozen 0
  have hne : ¬ rb = eb := Blk.ne_ hr he (by decide)
  unfold failV
  refine callsD_of_wpS Tryz.func87 rfl fun c₀ cs hu => ?_
  apply wpS_seq
  apply wpS_region
  simp [wpOpsS, go_sem, recoverD, hu, Tryz.ntmps87, Exit.thenS]
  apply wpS_seq
  apply wpS_region
  simp [wpOpsS, go_sem, Exit.thenS]
  refine wpS_cond (t := true) (by simp [Act.eval, Array.replicate]) ?_
  simp only [if_true]
  refine wpS_of_wp ?_
  have hne2 : ¬ eb = rb := fun e => hne e.symm
  have l1 := hr.lt
  have l2 := he.lt
  have hw1 := hr.set_ 0 (.int .i64 place)
  have FS : Fr (fun j => j = rb ∨ j = eb) w ((w.setCell ⟨rb, 0, none⟩ (.int .i64 place)).setCell ⟨eb, 0, none⟩ (.int .i64 code)) := ((Fr.refl (fun j => j = rb ∨ j = eb) w).setCell ⟨rb, 0, none⟩ (fun _ => .inl rfl) _).setCell ⟨eb, 0, none⟩ (fun _ => .inr rfl) _
  have he1 := he.far (p := ⟨rb, 0, none⟩) hne2 (.int .i64 place)
  have he2 := he1.set_ 0 (.int .i64 code)
  have hr2 := hw1.far (p := ⟨eb, 0, none⟩) hne (.int .i64 code)
  have HP := Lib.hid (And.intro hr2 (And.intro he2 FS))
  clear hw1 FS he1 he2 hr2 hr he
  show Code.wp Tryz.prog _ _ ⟨#[.pointer (some ⟨rb, 0, none⟩), .pointer (some ⟨eb, 0, none⟩), .iface 170 (.agg #[.int .i64 place, .int .i64 code]), .iface 170 (.agg #[.int .i64 place, .int .i64 code]), .iface 170 (.agg #[.int .i64 place, .int .i64 code]), .bool true, undef, undef, undef, undef, undef, undef], _⟩ _
  go_region_law (fail)
  all_goals
    simp [bodyPostS, results, Tryz.results87]
    exact ⟨HP.out.1.drew, HP.out.2.1.drew, HP.out.2.2.drew⟩

set_option maxRecDepth 100000 in
set_option maxHeartbeats 4000000 in
theorem catch_idle (rb eb : Nat) (w : World) :
    CallsD Tryz.prog 87 #[.pointer (some ⟨rb, 0, none⟩), .pointer (some ⟨eb, 0, none⟩)] .returning w fun e u' w' => e = .returned (.tuple #[]) ∧ u' = .returning ∧ w' = w := by
  refine callsD_of_wpS Tryz.func87 rfl fun c₀ cs hu => ?_
  apply wpS_seq
  apply wpS_region
  simp [wpOpsS, go_sem, recoverD, hu, Tryz.ntmps87, Exit.thenS]
  apply wpS_seq
  apply wpS_region
  simp [wpOpsS, go_sem, Exit.thenS]
  refine wpS_cond (t := false) (by simp [Act.eval, Array.replicate]) ?_
  simp only [Bool.false_eq_true, if_false]
  refine wpS_of_wp (wp_skip ?_)
  cases c₀
  simp_all [bodyPostS, results, Tryz.results87]

set_option maxRecDepth 100000 in
set_option maxHeartbeats 40000000 in
/-- A parse that fails is told with its place and error; the closure F is what parses. -/
theorem guarded_thrown (s : ByteArray) (F : Nat) (C : Array Value) (pl : Int) (w : World) (hA : Ascii s) (h0 : 0 < s.size) (hs : s.size ≤ 4096) (hen : ∀ args w, (callFunc F args).run Tryz.prog w = .ok (.enter F args) w)
    (HF : ∀ (b c : Nat) (A : Option Addr) (w1 : World), w.heap.size ≤ b → Fr (fun _ => False) w w1 → Sc w1 b A c (txt s) 0 → Calls Tryz.prog F (#[.agg #[.pointer (some ⟨b, 0, none⟩)]] ++ C) w1 fun e w' => Thrown pl 15 e ∧ Fr (fun j => j = b) w1 w') :
    Calls Tryz.prog 38 #[.string s, .func (.func F) #[] C] w fun e w' => e = .returned (.tuple #[.int .i64 pl, .int .i64 15]) ∧ Fr (fun _ => False) w w' := by
  have hmf : ∀ (fn : Fn) (first cap : Array Value) (w : World), (Instr.makeFunc fn first cap).run Tryz.prog w = .ok (.func fn first cap) w := fun _ _ _ _ => rfl
  have HN := Lib.hid (fun w1 => new_sc s w1 hA h0 hs)
  have hlen : ¬ ((s.size : Int) > 8192) := by omega
  unfold Thrown at HF
  have HFF := Lib.hid HF
  clear HF hA
  go_enter_defers Tryz.func38, Tryz.ntmps38
  go_wp2_with fail
  refine (HN.out _).mono ?_
  rintro e w1 ⟨b, g, c, rfl, hb, hs1, hf1⟩
  have hz1 : (w.alloc (.cells #[.int .i64 0] 3)).heap.size = w.heap.size + 1 := by simp
  have hz2 : ((w.alloc (.cells #[.int .i64 0] 3)).alloc (.cells #[.int .i64 0] 31)).heap.size = w.heap.size + 1 + 1 := by simp
  have hb' : w.heap.size + 1 + 1 ≤ b := by omega
  have hR1 := ((Blk.new w 3 #[.int .i64 0]).alloc (.cells #[.int .i64 0] 31)).fr hf1 (fun h => h)
  have hE1 := (Blk.new (w.alloc (.cells #[.int .i64 0] 3)) 31 #[.int .i64 0]).fr hf1 (fun h => h)
  rw [hz1] at hE1
  have hfa : Fr (fun _ => False) w1 (w1.alloc (.cells #[.pointer (some ⟨b, 0, none⟩)] 108)) := (Fr.refl _ _).alloc _
  have HR2 := Lib.hid (hR1.fr hfa (fun h => h))
  have HE2 := Lib.hid (hE1.fr hfa (fun h => h))
  have HF1 := Lib.hid (((((Fr.refl (fun _ => False) w).alloc (.cells #[.int .i64 0] 3)).alloc (.cells #[.int .i64 0] 31)).trans' hf1).trans' hfa)
  have HCL := Lib.hid (HFF.out b c (some ⟨g, 0, none⟩) _ (by omega) HF1.out (hs1.frF hfa))
  clear hs1 hf1 hfa hR1 hE1 hz1 hz2
  go_wp2_with fail
  refine HCL.out.mono ?_
  rintro e w2 ⟨rfl, hf2⟩
  have hr2 := HR2.out.fr hf2 (fun e => by omega)
  have he2 := HE2.out.fr hf2 (fun e => by omega)
  have HF2 := Lib.hid ((HF1.out.mono (T := fun j => j = b) (fun _ _ h => h.elim)).trans' hf2)
  clear hf2
  go_wp2_with fail
  refine leaves_cons (f := 87) (args := #[.pointer (some ⟨w.heap.size, 0, none⟩), .pointer (some ⟨w.heap.size + 1, 0, none⟩)]) (by simp) (by simp [go_sem]) ?_
  refine (catch_thrown w.heap.size (w.heap.size + 1) 0 0 pl 15 [] _ hr2 he2).mono ?_
  rintro e u' w3 ⟨rfl, rfl, hr3, he3, hf3⟩
  have r0 : w3.cell? ⟨w.heap.size, 0, none⟩ = some (.int .i64 pl) := hr3.cell 0
  have e0 : w3.cell? ⟨w.heap.size + 1, 0, none⟩ = some (.int .i64 15) := he3.cell 0
  have HF3 := Lib.hid (((HF2.out.mono (T := fun j => w.heap.size ≤ j) (fun j _ h => by omega)).trans hf3 (fun j _ h => by omega)).shut (Nat.le_refl _))
  clear hr3 he3 hf3 hr2 he2
  simp [Leaves, settle, results, Tryz.results38, go_sem, r0, e0, Result.andThen]
  exact HF3.out

/-- What a parse has made stays where the scanner, the place and the error turn. -/
def Kept (PW : World → Prop) : Prop := (∀ w1 w2, PW w1 → Fr (fun _ => False) w1 w2 → PW w2) ∧ ∀ w1 w2 x t cs, PW w1 → Blk w1 x t cs → (t = 239 ∨ t = 3 ∨ t = 31) → Fr (fun j => j = x) w1 w2 → PW w2

set_option maxRecDepth 100000 in
set_option maxHeartbeats 40000000 in
/-- A parse that goes well, to the text's end. -/
theorem guarded_ok (s : ByteArray) (F n' qb : Nat) (C : Array Value) (PW : World → Prop) (hPW : Kept PW) (w : World) (hA : Ascii s) (h0 : 0 < s.size) (hs : s.size ≤ 4096) (hn : skip (txt s) [0] n' = (txt s).length) (hqb : qb < w.heap.size) (hen : ∀ args w, (callFunc F args).run Tryz.prog w = .ok (.enter F args) w)
    (HF : ∀ (b c : Nat) (A : Option Addr) (w1 : World), w.heap.size ≤ b → Fr (fun _ => False) w w1 → Sc w1 b A c (txt s) 0 → Calls Tryz.prog F (#[.agg #[.pointer (some ⟨b, 0, none⟩)]] ++ C) w1 fun e w' => e = .returned (.tuple #[]) ∧ Sc w' b A c (txt s) n' ∧ PW w' ∧ Fr (fun j => j = b ∨ j = qb) w1 w') :
    Calls Tryz.prog 38 #[.string s, .func (.func F) #[] C] w fun e w' => e = .returned (.tuple #[.int .i64 0, .int .i64 0]) ∧ PW w' ∧ Fr (fun j => j = qb) w w' := by
  have hmf : ∀ (fn : Fn) (first cap : Array Value) (w : World), (Instr.makeFunc fn first cap).run Tryz.prog w = .ok (.func fn first cap) w := fun _ _ _ _ => rfl
  have HN := Lib.hid (fun w1 => new_sc s w1 hA h0 hs)
  have hlen : ¬ ((s.size : Int) > 8192) := by omega
  have HFF := Lib.hid HF
  have HSK := Lib.hid hn
  have HPW := Lib.hid hPW
  clear HF hA hn hPW
  go_enter_defers Tryz.func38, Tryz.ntmps38
  go_wp2_with fail
  refine (HN.out _).mono ?_
  rintro e w1 ⟨b, g, c, rfl, hb, hs1, hf1⟩
  have hz1 : (w.alloc (.cells #[.int .i64 0] 3)).heap.size = w.heap.size + 1 := by simp
  have hz2 : ((w.alloc (.cells #[.int .i64 0] 3)).alloc (.cells #[.int .i64 0] 31)).heap.size = w.heap.size + 1 + 1 := by simp
  have hb' : w.heap.size + 1 + 1 ≤ b := by omega
  have hbl := hs1.blk.lt
  have hR1 := ((Blk.new w 3 #[.int .i64 0]).alloc (.cells #[.int .i64 0] 31)).fr hf1 (fun h => h)
  have hE1 := (Blk.new (w.alloc (.cells #[.int .i64 0] 3)) 31 #[.int .i64 0]).fr hf1 (fun h => h)
  rw [hz1] at hE1
  have hfa : Fr (fun _ => False) w1 (w1.alloc (.cells #[.pointer (some ⟨b, 0, none⟩)] 108)) := (Fr.refl _ _).alloc _
  have HX2 := Lib.hid (Blk.new w1 108 #[.pointer (some ⟨b, 0, none⟩)])
  have HR2 := Lib.hid (hR1.fr hfa (fun h => h))
  have HE2 := Lib.hid (hE1.fr hfa (fun h => h))
  have HF1 := Lib.hid (((((Fr.refl (fun _ => False) w).alloc (.cells #[.int .i64 0] 3)).alloc (.cells #[.int .i64 0] 31)).trans' hf1).trans' hfa)
  have HCL := Lib.hid (HFF.out b c (some ⟨g, 0, none⟩) _ (by omega) HF1.out (hs1.frF hfa))
  have hsz1 := hf1.size
  rw [hz2] at hsz1
  clear hs1 hf1 hfa hR1 hE1 hz1 hz2
  go_wp2_with fail
  refine HCL.out.mono ?_
  rintro e w2 ⟨rfl, hs2, hp2, hf2⟩
  have hx2 := HX2.out.fr hf2 (fun e => by omega)
  have x2 : w2.cell? ⟨w1.heap.size, 0, none⟩ = some (.pointer (some ⟨b, 0, none⟩)) := hx2.cell 0
  have HX3 := Lib.hid hx2
  have HR3 := Lib.hid (HR2.out.fr hf2 (fun e => by omega))
  have HE3 := Lib.hid (HE2.out.fr hf2 (fun e => by omega))
  have HF2 := Lib.hid ((HF1.out.mono (T := fun j => j = b ∨ j = qb) (fun _ _ h => h.elim)).trans' hf2)
  have HBL := Lib.hid (blanks_sc b c n' (some ⟨g, 0, none⟩) (txt s) w2 hs2)
  rw [HSK.out] at HBL
  have HP2 := Lib.hid hp2
  have HS2 := Lib.hid hs2
  clear hf2 hx2 hp2 hs2
  go_wp2_with fail
  refine HBL.out.mono ?_
  rintro e w3 ⟨⟨k, rfl⟩, hs3, hf3⟩
  have hx3 := HX3.out.fr hf3 (fun e => by omega)
  have x3 : w3.cell? ⟨w1.heap.size, 0, none⟩ = some (.pointer (some ⟨b, 0, none⟩)) := hx3.cell 0
  have HR4 := Lib.hid (HR3.out.fr hf3 (fun e => by omega))
  have HE4 := Lib.hid (HE3.out.fr hf3 (fun e => by omega))
  have HP3 := Lib.hid (HPW.out.2 _ _ b _ _ HP2.out HS2.out.blk (.inl rfl) hf3)
  have HF3 := Lib.hid (HF2.out.trans hf3 (fun _ _ e => .inl e))
  have HEN := Lib.hid (end_sc b c _ _ (txt s) w3 hs3)
  rw [decide_eq_true rfl] at HEN
  clear hs3 hf3 hx3 x2
  go_wp2_with fail
  refine HEN.out.mono ?_
  rintro e w4 ⟨rfl, hf4⟩
  have hr4 := HR4.out.fr hf4 (fun h => h)
  have he4 := HE4.out.fr hf4 (fun h => h)
  have hp4 := HPW.out.1 _ _ HP3.out hf4
  have a1 : w4.cell? ⟨w.heap.size, 0, none⟩ = some (.int .i64 0) := hr4.cell 0
  have a2 : w4.cell? ⟨w.heap.size + 1, 0, none⟩ = some (.int .i64 0) := he4.cell 0
  have z1 := hr4.frozen 0
  have z2 := he4.frozen 0
  have l1 := hr4.lt
  have l2 := he4.lt
  have FS1 : Fr (fun j => j = w.heap.size) w4 (w4.setCell ⟨w.heap.size, 0, none⟩ (.int .i64 0)) := (Fr.refl (fun j => j = w.heap.size) w4).setCell ⟨w.heap.size, 0, none⟩ (fun _ => rfl) _
  have he5 := he4.fr FS1 (fun e => by omega)
  have hp5 := HPW.out.2 _ _ w.heap.size _ _ hp4 hr4 (.inr (.inl rfl)) FS1
  have FS2 : Fr (fun j => j = w.heap.size + 1) (w4.setCell ⟨w.heap.size, 0, none⟩ (.int .i64 0)) ((w4.setCell ⟨w.heap.size, 0, none⟩ (.int .i64 0)).setCell ⟨w.heap.size + 1, 0, none⟩ (.int .i64 0)) := (Fr.refl (fun j => j = w.heap.size + 1) _).setCell ⟨w.heap.size + 1, 0, none⟩ (fun _ => rfl) _
  have HP6 := Lib.hid (HPW.out.2 _ _ (w.heap.size + 1) _ _ hp5 he5 (.inr (.inr rfl)) FS2)
  have hr6 := (hr4.set_ 0 (.int .i64 0)).fr FS2 (fun e => by omega)
  have he6 := he5.set_ 0 (.int .i64 0)
  have HF6 := Lib.hid (((HF3.out.trans hf4 (fun _ _ h => h.elim)).trans (T := fun j => j = b ∨ j = qb ∨ w.heap.size ≤ j) (FS1.mono (fun j _ e => .inr (.inr (by omega)))) (fun j hj h => by rcases h with h | h | h; exact .inl h; exact .inr h; exact absurd hj (by omega))).trans (T := fun j => j = b ∨ j = qb ∨ w.heap.size ≤ j) (FS2.mono (fun j _ e => .inr (.inr (by omega)))) (fun j hj h => by rcases h with h | h | h; exact .inl h; exact .inr h; exact absurd hj (by omega)))
  have r6 : ((w4.setCell ⟨w.heap.size, 0, none⟩ (.int .i64 0)).setCell ⟨w.heap.size + 1, 0, none⟩ (.int .i64 0)).cell? ⟨w.heap.size, 0, none⟩ = some (.int .i64 0) := hr6.cell 0
  have e6 : ((w4.setCell ⟨w.heap.size, 0, none⟩ (.int .i64 0)).setCell ⟨w.heap.size + 1, 0, none⟩ (.int .i64 0)).cell? ⟨w.heap.size + 1, 0, none⟩ = some (.int .i64 0) := he6.cell 0
  clear hf4 hp4 hp5 FS1 FS2 hr4 he4 he5 hr6 he6
  go_wp2_with fail
  refine leaves_cons (f := 87) (args := #[.pointer (some ⟨w.heap.size, 0, none⟩), .pointer (some ⟨w.heap.size + 1, 0, none⟩)]) (by simp) (by simp [go_sem]) ?_
  refine (catch_idle w.heap.size (w.heap.size + 1) _).mono ?_
  rintro e u' w7 ⟨rfl, rfl, rfl⟩
  simp [Leaves, settle, results, Tryz.results38, go_sem, r6, e6, Result.andThen]
  exact ⟨HP6.out, HF6.out.mono (fun j hj h => h.elim (fun h => absurd h (by omega)) id)⟩

end Go.Proofs.YtebddgdkndmpjaaGreatDoor
