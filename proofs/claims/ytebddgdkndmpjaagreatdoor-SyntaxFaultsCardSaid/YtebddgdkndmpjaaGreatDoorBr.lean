/- The number of an int's text, ints and vars as parts of a triple: walked. -/
import Derived.Test.YtebddgdkndmpjaaGreatDoorBk
import Derived.Test.YtebddgdkndmpjaaGreatDoorSp
import Derived.Deep.CutBlock
import Derived.Deep.RegionLawGrows
import Derived.Deep.Cut
import Derived.Deep.CutRange
import Derived.WalkKit
import Derived.WalkLawsBesides
import Derived.WalkSpells
import Derived.Deep.QuietTactic
import Derived.BigRegion
import Derived.BigQuiet
import Derived.Lib.Hide
import Derived.Outline
import Derived.Deep.AppendLies
import Derived.Deep.RegionLaw
import Derived.Deep.RegionWith
import Derived.Deep.RegionHeld3
import Derived.Deep.LoopGhost
import Derived.Deep.DeepFit
import Derived.Laws.ResultCell
import Derived.Laws.RangeAny
import Derived.Deep.MidRow
import Derived.StillTailTactics
import Derived.OpenShut
namespace Go.Proofs.YtebddgdkndmpjaaGreatDoor
set_option linter.unusedVariables false
open Go.RowKit Go

/-- Is a sign no digit? -/
def offD (x : Nat) : Bool := decide (x < 48) || decide (57 < x)

set_option maxHeartbeats 1000000 in
theorem off261 (x : Nat) (w : World) (hx : x ≤ 1114111) : Calls Tryz.prog 261 #[.int .i32 x] w fun e w' => e = .returned (.bool (offD x)) ∧ ∃ q, w' = w.drewN q := by
  unfold offD
  by_cases h1 : x < 48
  · have h1' : (x : Int) < 48 := by omega
    rw [decide_eq_true h1]
    go_enter Tryz.func261, Tryz.ntmps261
    go_wp2_with fail
    go_ret
    exact ⟨rfl, 0, rfl⟩
  · have h1' : ¬ (x : Int) < 48 := by omega
    rw [decide_eq_false h1]
    by_cases h2 : 57 < x
    · have h2' : (57 : Int) < x := by omega
      rw [decide_eq_true h2]
      go_enter Tryz.func261, Tryz.ntmps261
      go_wp2_with fail
      go_ret
      exact ⟨rfl, 0, rfl⟩
    · have h2' : ¬ (57 : Int) < x := by omega
      rw [decide_eq_false h2]
      go_enter Tryz.func261, Tryz.ntmps261
      go_wp2_with fail
      go_ret
      exact ⟨rfl, 0, rfl⟩
theorem enters261 : ∀ args w, (callFunc 261 args).run Tryz.prog w = .ok (.enter 261 args) w := fun args w => by kernel_rfl
theorem fr_below0 {w w' : World} (h : Below w.heap.size w w') : Fr (fun _ => False) w w' := Fr.of_below h _
theorem idx260 (s : ByteArray) (w : World) : Calls Tryz.prog 260 #[.string s, .func (.func 261) #[] #[]] w fun e w' => e = .returned (.int .i64 (Lib.idxFunc offD true s)) ∧ Fr (fun _ => False) w w' :=
  (Tryz.strings_IndexFunc_runes 261 #[] enters261 offD s w (fun W x hx _ => off261 x W hx)).mono fun _ _ h => ⟨h.1, fr_below0 h.2⟩
theorem parse262 (s : ByteArray) (v : Int) (h : Lib.parseIntB 64 s.data.toList = .ok v) (hs : s.size ≤ 4096) (w : World) : Calls Tryz.prog 262 #[.string s, .int .i64 10, .int .i64 64] w fun e w' => e = .returned (.tuple #[.int .i64 v, .nilIface]) ∧ Fr (fun _ => False) w w' :=
  (Tryz.strconv_ParseInt_10_at64_ok s (by omega) v h w).mono fun _ _ h => ⟨h.1, by
    rcases h.2 with rfl | ⟨t, rfl⟩
    · exact Fr.refl _ _
    · exact fr_below0 (Lib.bytesWorld_below _ _ _)⟩

set_option maxRecDepth 100000 in
set_option maxHeartbeats 4000000 in
/-- An int's text that fits: its number. -/
theorem vparse_ok (s : ByteArray) (v : Int) (w : World) (hp : 0 < s.size) (hs : s.size ≤ 4096) (h43 : ¬ (s[0]'hp).toNat = 43) (h45 : ¬ (s[0]'hp).toNat = 45) (hd : Lib.idxFunc offD true s = -1) (hv : Lib.parseIntB 64 s.data.toList = .ok v) :
    Calls Tryz.prog 209 #[.string s] w fun e w' => e = .returned (.tuple #[.int .i64 v, .int .i64 0]) ∧ Fr (fun _ => False) w w' := by
  have HI := Lib.hid (fun w => idx260 s w)
  rw [hd] at HI
  have HP := Lib.hid (fun w => parse262 s v hv hs w)
  have hne : s.toList ≠ [] := by
    intro e
    rw [Lib.toList_data] at e
    have : s.data.toList.length = 0 := by rw [e]; rfl
    have h2 : s.data.toList.length = s.size := by simp
    omega
  have h1 : s.toList.isEmpty = false := by
    cases hl : s.toList with
    | nil => exact absurd hl hne
    | cons c r => rfl
  have h4 : (!s.toList.isEmpty) = true := by rw [h1]; rfl
  have hp' : (0 : Int) < (s.size : Int) := by omega
  have hq1 : (((s[0]'hp).toNat : Int) == 43) = false := beq_eq_false_iff_ne.2 (fun e => h43 (by omega))
  have hq2 : (((s[0]'hp).toNat : Int) == 45) = false := beq_eq_false_iff_ne.2 (fun e => h45 (by omega))
  clear hd hv h43 h45
  go_enter Tryz.func209, Tryz.ntmps209
  go_wp2_with fail
  refine (HI.out _).mono ?_
  rintro e w1 ⟨rfl, hf1⟩
  have HF1 := Lib.hid hf1
  clear hf1
  go_wp2_with fail
  refine (HP.out _).mono ?_
  rintro e w2 ⟨rfl, hf2⟩
  go_wp2_with fail
  go_ret2
  exact ⟨rfl, HF1.out.trans' hf2⟩

theorem inf37 : (Tryz.prog.info? 37).map (·.size) = some 2 := by kernel_rfl
/-- An int as a term. -/
def intTerm (t : ByteArray) : Value := .iface 78 (.agg #[.string t, .string ⟨#[104, 116, 116, 112, 58, 47, 47, 119, 119, 119, 46, 119, 51, 46, 111, 114, 103, 47, 50, 48, 48, 49, 47, 88, 77, 76, 83, 99, 104, 101, 109, 97, 35, 105, 110, 116, 101, 103, 101, 114]⟩, .string ⟨#[]⟩])

set_option maxRecDepth 100000 in
set_option maxHeartbeats 4000000 in
/-- The text of an int. -/
theorem digits_sc (b c p s q : Nat) (A : Option Addr) (rs : List Int) (t : ByteArray) (w : World) (hs : skip rs [0] p = s) (hcl : clsOf (peekOf rs s) = 2) (hq : skip rs [2] s = q) (ht : runesBytes ((rs.drop s).take (q - s)) = t) (hsz : t.size ≤ 4096) (h : Sc w b A c rs p) :
    Calls Tryz.prog 208 #[.agg #[.pointer (some ⟨b, 0, none⟩)], .bool false] w (ScPost w b A c rs q (.tuple #[.string t, .int .i64 (s : Int)])) := by
  have hf : Fr (fun _ => False) w (w.alloc (.cells #[.pointer (some ⟨b, 0, none⟩)] 108)) := (Fr.refl _ _).alloc _
  have hx := Blk.new w 108 #[.pointer (some ⟨b, 0, none⟩)]
  have HX := Lib.hid hx
  have HF := Lib.hid hf
  have HS := Lib.hid (h.frF hf)
  have hbl := h.blk.lt
  have HB := Lib.hid (fun w1 h1 => blanks_sc b c p A rs w1 h1)
  rw [hs] at HB
  have HPL := Lib.hid (fun w1 h1 => place_sc b c s A rs w1 h1)
  have HK := Lib.hid (fun w1 h1 => peek_sc b c s A rs w1 h1)
  have HCL := Lib.hid (fun w1 => cls_any (peekOf rs s) w1 (peek_ok h s))
  rw [hcl] at HCL
  have HR := Lib.hid (fun (B kc : Nat) (K : Option Addr) w1 h1 hr => run_sc b c s B kc A K rs [2] w1 (by decide) h1 hr)
  rw [hq] at HR
  unfold RunPost at HR
  rw [ht] at HR
  generalize peekOf rs s = pk at *
  clear h hf hx  hs hcl hq ht
  go_enter Tryz.func208, Tryz.ntmps208
  go_wp2_with fail
  refine (HB.out _ HS.out).mono ?_
  rintro e w1 ⟨⟨k, rfl⟩, hs1, hf1⟩
  have hx1 := HX.out.fr hf1 (fun e => by omega)
  have x1 : w1.cell? ⟨w.heap.size, 0, none⟩ = some (.pointer (some ⟨b, 0, none⟩)) := hx1.cell 0
  have HX1 := Lib.hid hx1
  have HS1 := Lib.hid hs1
  have HF1 := Lib.hid ((HF.out.mono (T := fun j => j = b) (fun _ _ h => h.elim)).trans' hf1)
  clear hs1 hf1 hx1
  have HPP := Lib.hid (HPL.out _ HS1.out)
  go_wp2_with fail
  refine (HPP.out).mono ?_
  rintro e wq ⟨rfl, rfl⟩
  go_wp2_with fail
  refine (HK.out _ HS1.out).mono ?_
  rintro e w2 ⟨rfl, hf2⟩
  have hx2 := HX1.out.fr hf2 (fun h => h)
  have x2 : w2.cell? ⟨w.heap.size, 0, none⟩ = some (.pointer (some ⟨b, 0, none⟩)) := hx2.cell 0
  have HX2 := Lib.hid hx2
  have HS2 := Lib.hid (HS1.out.frF hf2)
  have HF2 := Lib.hid (HF1.out.trans hf2 (fun _ _ h => h.elim))
  clear  hf2 hx2 x1
  go_wp2_with fail
  refine (HCL.out _).mono ?_
  rintro e wq ⟨rfl, rfl⟩
  go_wp2_with fail
  have hfa : Fr (fun _ => False) w2 (w2.alloc (.cells #[.int .i64 2] 3)) := (Fr.refl _ _).alloc _
  have hown := World.ownsRow_lit (base := 0) (e := 3) (size := 1) w2 #[.int .i64 2] 1 (Nat.zero_le _) (by decide) rfl
  have HRR := Lib.hid (HR.out 0 1 (some ⟨w2.heap.size, 0, none⟩) _ (HS2.out.frF hfa) hown)
  have HFA := Lib.hid (HF2.out.trans hfa (fun _ _ h => h.elim))
  clear hfa hown
  refine HRR.out.mono ?_
  rintro e w3 ⟨rfl, hs3, hf3⟩
  have HS3 := Lib.hid hs3
  have HF3 := Lib.hid (HFA.out.trans' hf3)
  clear hs3 hf3
  have hsz2 : ¬ 9223372036854775807 < t.size := by omega
  go_wp2_with fail
  go_ret2
  exact ⟨by rw [show (⟨#[]⟩ ++ t : ByteArray) = t from ByteArray.ext (by rw [ByteArray.data_append]; simp)]; rfl, HS3.out, HF3.out⟩

set_option maxRecDepth 100000 in
set_option maxHeartbeats 4000000 in
/-- A part that is a var. -/
theorem node_var (l : List UInt8) (b c p s : Nat) (A : Option Addr) (rs : List Int) (w : World) (hl2 : l.length ≤ 1000) (hs : skip rs [0] p = s) (hs2 : skip rs [0] s = s) (hnm : Name rs s l) (h : Sc w b A c rs p) :
    Calls Tryz.prog 213 #[.agg #[.pointer (some ⟨b, 0, none⟩)]] w (ScPost w b A c rs (s + 1 + l.length) (.agg #[.string ⟨l.toArray⟩, .nilIface])) := by
  have hf : Fr (fun _ => False) w ((w.alloc (.cells #[.pointer (some ⟨b, 0, none⟩)] 108)).alloc (.cells #[.string ⟨#[]⟩, .nilIface] 37)) := ((Fr.refl _ _).alloc _).alloc _
  have hx := Blk.new w 108 #[.pointer (some ⟨b, 0, none⟩)]
  have hy := Blk.new (w.alloc (.cells #[.pointer (some ⟨b, 0, none⟩)] 108)) 37 #[.string ⟨#[]⟩, .nilIface]
  rw [show (w.alloc (.cells #[.pointer (some ⟨b, 0, none⟩)] 108)).heap.size = w.heap.size + 1 by simp] at hy
  have hx := hx.alloc (.cells #[.string ⟨#[]⟩, .nilIface] 37)
  have HX := Lib.hid hx
  have HY := Lib.hid hy
  have HF := Lib.hid hf
  have HS := Lib.hid (h.frF hf)
  have hbl := h.blk.lt
  have HN := Lib.hid (fun w1 h1 => nextsign_sc b c p A rs w1 h1)
  rw [hs, hnm.1] at HN
  have HV := Lib.hid (fun w1 h1 => variable_sc l b c s s A rs w1 hl2 hs2 hnm h1)
  generalize (⟨l.toArray⟩ : ByteArray) = t at *
  generalize s + 1 + l.length = q at *
  clear h hf hx hy hs hs2 hnm
  go_enter Tryz.func213, Tryz.ntmps213
  go_wp2_with fail
  refine (HN.out _ HS.out).mono ?_
  rintro e w1 ⟨rfl, hs1, hf1⟩
  have hx1 := HX.out.fr hf1 (fun e => by omega)
  have x1 : w1.cell? ⟨w.heap.size, 0, none⟩ = some (.pointer (some ⟨b, 0, none⟩)) := hx1.cell 0
  have HX1 := Lib.hid hx1
  have HY1 := Lib.hid (HY.out.fr hf1 (fun e => by omega))
  have HS1 := Lib.hid hs1
  have HF1 := Lib.hid ((HF.out.mono (T := fun j => j = b) (fun _ _ h => h.elim)).trans' hf1)
  clear hs1 hf1 hx1
  go_wp2_with fail
  refine (HV.out _ HS1.out).mono ?_
  rintro e w2 ⟨rfl, hs2, hf2⟩
  have hx2 := HX1.out.fr hf2 (fun e => by omega)
  have x2 : w2.cell? ⟨w.heap.size, 0, none⟩ = some (.pointer (some ⟨b, 0, none⟩)) := hx2.cell 0
  have HX2 := Lib.hid hx2
  have HY2 := Lib.hid (HY1.out.fr hf2 (fun e => by omega))
  have HS2 := Lib.hid hs2
  have HF2 := Lib.hid (HF1.out.trans' hf2)
  clear hs2 hf2 hx2 x1
  have hy3 := HY2.out
  have hst3 := Blk.setAll (vs := [.string t, .nilIface]) (old := [.string ⟨#[]⟩, .nilIface]) hy3 rfl
  have HTH3 := Lib.hid (Blk.there (cs := [.string ⟨#[]⟩, .nilIface]) hy3 (n := 2) rfl)
  have HST3 := Lib.hid hst3.1
  have HSS3 := Lib.hid (HS2.out.fr hst3.2 (fun e => by omega) (fun j hj e => own_blk_ne HS2.out.row hy3 (by decide) (by rw [hj, e])))
  have HFF3 := Lib.hid (HF2.out.trans (T := fun j => j = b ∨ j = w.heap.size + 1) (hst3.2.mono (fun _ _ h => .inr h)) (fun j hj h => h.elim id (fun h => absurd hj (by omega))))
  have HONE3 := Lib.hid (show (#[.string t, .nilIface] : Array Value).all (·.oneCell') = true from all_oneCell_toArray (by intro v hv; simp only [List.mem_cons, List.not_mem_nil, or_false] at hv; rcases hv with rfl | rfl <;> rfl))
  have hlt3 := hy3.lt
  clear hy3 hst3
  go_wp2_with (refine wpList_store_mid rfl 37 _ _ rfl _ _ _ rfl rfl HTH3.out inf37 HONE3.out ?_)
  exact bodyPost_ret (v := .agg #[.string t, .nilIface]) (results_cell_row rfl _ _ (w.heap.size + 1) 37 _ (0, 0) _ rfl HST3.out Tryz.underlying37 rfl (by kernel_rfl)) rfl ⟨rfl, HSS3.out, HFF3.out⟩

set_option maxRecDepth 100000 in
set_option maxHeartbeats 4000000 in
/-- A part that is an int. -/
theorem node_int (b c p s q : Nat) (A : Option Addr) (rs : List Int) (t : ByteArray) (v : Int) (w : World) (hs : skip rs [0] p = s) (hs2 : skip rs [0] s = s) (hcl : clsOf (peekOf rs s) = 2) (hq : skip rs [2] s = q) (ht : runesBytes ((rs.drop s).take (q - s)) = t) (hsz : t.size ≤ 4096) (HVP : ∀ w1, Calls Tryz.prog 209 #[.string t] w1 fun e w' => e = .returned (.tuple #[.int .i64 v, .int .i64 0]) ∧ Fr (fun _ => False) w1 w') (h : Sc w b A c rs p) :
    Calls Tryz.prog 213 #[.agg #[.pointer (some ⟨b, 0, none⟩)]] w (ScPost w b A c rs q (.agg #[.string ⟨#[]⟩, intTerm t])) := by
  have hf : Fr (fun _ => False) w ((w.alloc (.cells #[.pointer (some ⟨b, 0, none⟩)] 108)).alloc (.cells #[.string ⟨#[]⟩, .nilIface] 37)) := ((Fr.refl _ _).alloc _).alloc _
  have hx := Blk.new w 108 #[.pointer (some ⟨b, 0, none⟩)]
  have hy := Blk.new (w.alloc (.cells #[.pointer (some ⟨b, 0, none⟩)] 108)) 37 #[.string ⟨#[]⟩, .nilIface]
  rw [show (w.alloc (.cells #[.pointer (some ⟨b, 0, none⟩)] 108)).heap.size = w.heap.size + 1 by simp] at hy
  have hx := hx.alloc (.cells #[.string ⟨#[]⟩, .nilIface] 37)
  have HX := Lib.hid hx
  have HY := Lib.hid hy
  have HF := Lib.hid hf
  have HS := Lib.hid (h.frF hf)
  have hbl := h.blk.lt
  have h63 : (peekOf rs s == 63) = false := by
    have : ¬ peekOf rs s = 63 := fun e => by rw [e] at hcl; exact absurd hcl (by decide)
    simpa using this
  have HN := Lib.hid (fun w1 h1 => nextsign_sc b c p A rs w1 h1)
  rw [hs] at HN
  have HCL := Lib.hid (fun w1 => cls_any (peekOf rs s) w1 (peek_ok h s))
  rw [hcl] at HCL
  have HD := Lib.hid (fun w1 h1 => digits_sc b c s s q A rs t w1 hs2 hcl hq ht hsz h1)
  have HVV := Lib.hid HVP
  unfold intTerm
  generalize peekOf rs s = pk at *
  clear h hf hx hy hs hs2 hcl hq ht HVP
  go_enter Tryz.func213, Tryz.ntmps213
  go_wp2_with fail
  refine (HN.out _ HS.out).mono ?_
  rintro e w1 ⟨rfl, hs1, hf1⟩
  have hx1 := HX.out.fr hf1 (fun e => by omega)
  have x1 : w1.cell? ⟨w.heap.size, 0, none⟩ = some (.pointer (some ⟨b, 0, none⟩)) := hx1.cell 0
  have HX1 := Lib.hid hx1
  have HY1 := Lib.hid (HY.out.fr hf1 (fun e => by omega))
  have HS1 := Lib.hid hs1
  have HF1 := Lib.hid ((HF.out.mono (T := fun j => j = b) (fun _ _ h => h.elim)).trans' hf1)
  clear hs1 hf1 hx1
  go_wp2_with fail
  refine (HCL.out _).mono ?_
  rintro e wq ⟨rfl, rfl⟩
  go_wp2_with fail
  refine (HD.out _ HS1.out).mono ?_
  rintro e w2 ⟨rfl, hs2, hf2⟩
  have hx2 := HX1.out.fr hf2 (fun e => by omega)
  have x2 : w2.cell? ⟨w.heap.size, 0, none⟩ = some (.pointer (some ⟨b, 0, none⟩)) := hx2.cell 0
  have HX2 := Lib.hid hx2
  have HY2 := Lib.hid (HY1.out.fr hf2 (fun e => by omega))
  have HS2 := Lib.hid hs2
  have HF2 := Lib.hid (HF1.out.trans' hf2)
  clear hs2 hf2 hx2 x1
  go_wp2_with fail
  refine (HVV.out _).mono ?_
  rintro e w3 ⟨rfl, hf3⟩
  have hx3 := HX2.out.fr hf3 (fun h => h)
  have x3 : w3.cell? ⟨w.heap.size, 0, none⟩ = some (.pointer (some ⟨b, 0, none⟩)) := hx3.cell 0
  have HX3 := Lib.hid hx3
  have HY3 := Lib.hid (HY2.out.fr hf3 (fun h => h))
  have HS3 := Lib.hid (HS2.out.frF hf3)
  have HF3 := Lib.hid (HF2.out.trans hf3 (fun _ _ h => h.elim))
  clear  hf3 hx3 x2
  have hy4 := HY3.out
  have hst4 := Blk.setAll (vs := [.string ⟨#[]⟩, .iface 78 (.agg #[.string t, .string ⟨#[104, 116, 116, 112, 58, 47, 47, 119, 119, 119, 46, 119, 51, 46, 111, 114, 103, 47, 50, 48, 48, 49, 47, 88, 77, 76, 83, 99, 104, 101, 109, 97, 35, 105, 110, 116, 101, 103, 101, 114]⟩, .string ⟨#[]⟩])]) (old := [.string ⟨#[]⟩, .nilIface]) hy4 rfl
  have HTH4 := Lib.hid (Blk.there (cs := [.string ⟨#[]⟩, .nilIface]) hy4 (n := 2) rfl)
  have HST4 := Lib.hid hst4.1
  have HSS4 := Lib.hid (HS3.out.fr hst4.2 (fun e => by omega) (fun j hj e => own_blk_ne HS3.out.row hy4 (by decide) (by rw [hj, e])))
  have HFF4 := Lib.hid (HF3.out.trans (T := fun j => j = b ∨ j = w.heap.size + 1) (hst4.2.mono (fun _ _ h => .inr h)) (fun j hj h => h.elim id (fun h => absurd hj (by omega))))
  have HONE4 := Lib.hid (show (#[.string ⟨#[]⟩, .iface 78 (.agg #[.string t, .string ⟨#[104, 116, 116, 112, 58, 47, 47, 119, 119, 119, 46, 119, 51, 46, 111, 114, 103, 47, 50, 48, 48, 49, 47, 88, 77, 76, 83, 99, 104, 101, 109, 97, 35, 105, 110, 116, 101, 103, 101, 114]⟩, .string ⟨#[]⟩])] : Array Value).all (·.oneCell') = true from all_oneCell_toArray (by intro v hv; simp only [List.mem_cons, List.not_mem_nil, or_false] at hv; rcases hv with rfl | rfl <;> rfl))
  have hlt4 := hy4.lt
  clear hy4 hst4
  go_wp2_with (refine wpList_store_mid rfl 37 _ _ rfl _ _ _ rfl rfl HTH4.out inf37 HONE4.out ?_)
  exact bodyPost_ret (v := .agg #[.string ⟨#[]⟩, .iface 78 (.agg #[.string t, .string ⟨#[104, 116, 116, 112, 58, 47, 47, 119, 119, 119, 46, 119, 51, 46, 111, 114, 103, 47, 50, 48, 48, 49, 47, 88, 77, 76, 83, 99, 104, 101, 109, 97, 35, 105, 110, 116, 101, 103, 101, 114]⟩, .string ⟨#[]⟩])]) (results_cell_row rfl _ _ (w.heap.size + 1) 37 _ (0, 0) _ rfl HST4.out Tryz.underlying37 rfl (by kernel_rfl)) rfl ⟨rfl, HSS4.out, HFF4.out⟩

end Go.Proofs.YtebddgdkndmpjaaGreatDoor
