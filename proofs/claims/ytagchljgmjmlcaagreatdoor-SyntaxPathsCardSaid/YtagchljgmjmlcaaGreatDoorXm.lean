/- Texts of the proof, one behind the other: Bl, Bo, Bq, Fr, Ft, Fu, Ra, Fv, Fw, Wt. -/
import Derived.Test.YtagchljgmjmlcaaGreatDoorXg
import Derived.Test.YtagchljgmjmlcaaGreatDoorXe
import Derived.Test.YtagchljgmjmlcaaGreatDoorXj
import Derived.Test.YtagchljgmjmlcaaGreatDoorXl
import Derived.Test.YtagchljgmjmlcaaGreatDoorXk
import Derived.Deep.CutBlock
import Derived.Deep.RegionLawGrows
import Derived.Deep.Cut
import Derived.Deep.CutRange
import Derived.WalkKit
import Derived.WalkLawsBesides
import Derived.WalkSpells
import Derived.Deep.QuietTactic
import Derived.BigRegion
import Derived.BigQuiet
import Derived.Lib.Hide
import Derived.Outline
import Derived.Deep.AppendLies
import Derived.Deep.RegionLaw
import Derived.Deep.RegionWith
import Derived.Deep.RegionHeld3
import Derived.Deep.LoopGhost
import Derived.Deep.DeepFit
import Derived.Laws.ResultCell
import Derived.Laws.RangeAny
import Derived.Deep.MidRow
import Derived.StillTailTactics
import Derived.OpenShut
import Derived.Laws.IdiomStrings
import Derived.Laws.AppendOwn
import Derived.Defers
import Derived.Recover
import Derived.Laws.Pointers
namespace Go.Proofs.YtagchljgmjmlcaaGreatDoor
set_option linter.unusedVariables false
open Go.RowKit Go
set_option maxRecDepth 100000
set_option maxHeartbeats 40000000

theorem old_keep {w0 w w' : World} {b g t : Nat} {cs : Array Value} (h : Blk w g t cs) (hg : w0.heap.size ≤ g) (hb : b < w0.heap.size) (hf : Fr (fun j => j = b) w w') : Blk w' g t cs := h.fr hf (fun e => by omega)

theorem info30 : (Tryz.prog.info? 52).map (·.size) = some 7 := by kernel_rfl
def tREG : ByteArray := ⟨#[82, 69, 71, 73, 83, 84, 69, 82]⟩
def tRS : ByteArray := ⟨#[82, 83, 84, 82, 69, 65, 77]⟩
def tIS : ByteArray := ⟨#[73, 83, 84, 82, 69, 65, 77]⟩
def tDS : ByteArray := ⟨#[68, 83, 84, 82, 69, 65, 77]⟩
def tAS : ByteArray := ⟨#[65, 83]⟩
def tSEL : ByteArray := ⟨#[83, 69, 76, 69, 67, 84]⟩
def tDIS : ByteArray := ⟨#[68, 73, 83, 84, 73, 78, 67, 84]⟩
def tFROM : ByteArray := ⟨#[70, 82, 79, 77]⟩
def tWH : ByteArray := ⟨#[87, 72, 69, 82, 69]⟩
def tGR : ByteArray := ⟨#[71, 82, 79, 85, 80]⟩

/-- A query of one selected thing, up to its group. -/
structure QText (rs : List Int) (l : List UInt8) (dis : Bool) (sv : Value) (p1 p2 s2 p4 p5 p6 p7 s7 p8 : Nat) : Prop where
 reg : wordAt rs 0 tREG = true ∧ wordTo rs 0 tREG = p1
 kind : wordAt rs p1 tRS = true ∧ wordTo rs p1 tRS = p2 ∧ skip rs [0] (skip rs [0] p1) = skip rs [0] p1 ∧ wordAt rs (skip rs [0] p1) tRS = true ∧ wordTo rs (skip rs [0] p1) tRS = p2
 iri : skip rs [0] p2 = s2 ∧ skip rs [0] s2 = s2 ∧ Body rs s2 l ∧ l ≠ [] ∧ l.length ≤ 4000 ∧ (Tm.iri ⟨l.toArray⟩).good = true
 asx : wordAt rs (s2 + l.length + 2) tAS = true ∧ wordTo rs (s2 + l.length + 2) tAS = p4
 sel : wordAt rs p4 tSEL = true ∧ wordTo rs p4 tSEL = p5
 dis : wordAt rs p5 tDIS = dis ∧ wordTo rs p5 tDIS = p6
 one : ∀ (b c : Nat) (A : Option Addr) (w : World), Sc w b A c rs p6 → Calls Tryz.prog 43 #[.agg #[.pointer (some ⟨b, 0, none⟩)]] w (ScPost w b A c rs p7 sv)
 nxt : skip rs [0] p7 = s7 ∧ skip rs [0] s7 = s7 ∧ peekOf rs s7 ≠ 63 ∧ peekOf rs s7 ≠ 40
 frm : wordAt rs s7 tFROM = false
 whr : wordAt rs s7 tWH = true ∧ wordTo rs s7 tWH = p8

/-- The tree of a query of one selected thing; or an error thrown. -/
def QueryPost (G : World → Nat → Value → Prop) (w : World) (b : Nat) (A : Option Addr) (c : Nat) (rs : List Int) (q : Nat) (deep : Bool) (pl : Int) (kind t : ByteArray) (dis : Bool) (sv : Value) (e : Ending) (w' : World) : Prop :=
 if deep = true then Thrown pl 15 e ∧ Fr (fun j => j = b) w w'
 else ∃ g v, e = .returned (.agg #[.string kind, .string t, .bool dis, .slice (some ⟨g, 0, none⟩) 1 1, .slice none 0 0, v, .slice none 0 0]) ∧ Blk w' g 122 sv.cells ∧ G w' w.heap.size v ∧ Sc w' b A c rs q ∧ Fr (fun j => j = b) w w'
def GrpPostG (G : World → Nat → Value → Prop) (w : World) (b : Nat) (A : Option Addr) (c : Nat) (rs : List Int) (q : Nat) (e : Ending) (w' : World) : Prop :=
 ∃ v, e = .returned (.agg #[v]) ∧ G w' w.heap.size v ∧ Sc w' b A c rs q ∧ Fr (fun j => j = b) w w'
def GrpAny (G : World → Nat → Value → Prop) (w : World) (b : Nat) (A : Option Addr) (c : Nat) (rs : List Int) (q : Nat) (deep : Bool) (pl : Int) (e : Ending) (w' : World) : Prop :=
 if deep = true then Thrown pl 15 e ∧ Fr (fun j => j = b) w w' else GrpPostG G w b A c rs q e w'

theorem as_f1 (x : Value) (w : World) : (Instr.typeAssert (.iface 116 x) 20 116 false).run Tryz.prog w = .ok x w := by kernel_rfl
theorem fd_170a (p c : Value) (w : World) : (Instr.field 116 (.agg #[p, c]) 0).run Tryz.prog w = .ok p w := by kernel_rfl
theorem fd_170b (p c : Value) (w : World) : (Instr.field 116 (.agg #[p, c]) 1).run Tryz.prog w = .ok c w := by kernel_rfl
attribute [local go_sem] as_f1 fd_170a fd_170b

theorem catch_idle (rb eb : Nat) (w : World) :
    CallsD Tryz.prog 34 #[.pointer (some ⟨rb, 0, none⟩), .pointer (some ⟨eb, 0, none⟩)] .returning w fun e u' w' => e = .returned (.tuple #[]) ∧ u' = .returning ∧ w' = w := by
 refine callsD_of_wpS Tryz.func34 rfl fun c₀ cs hu => ?_
 apply wpS_seq
 apply wpS_region
 simp [wpOpsS, go_sem, recoverD, hu, Tryz.ntmps34, Exit.thenS]
 apply wpS_seq
 apply wpS_region
 simp [wpOpsS, go_sem, Exit.thenS]
 refine wpS_cond (t := false) (by simp [Act.eval, Array.replicate]) ?_
 simp only [Bool.false_eq_true, if_false]
 refine wpS_of_wp (wp_skip ?_)
 cases c₀
 simp_all [bodyPostS, results, Tryz.results34]

/-- What a parse has made stays where the scanner, the place and the error turn. -/
def Kept (PW : World → Prop) : Prop := (∀ w1 w2, PW w1 → Fr (fun _ => False) w1 w2 → PW w2) ∧ ∀ w1 w2 x t cs, PW w1 → Blk w1 x t cs → (t = 161 ∨ t = 3 ∨ t = 53) → Fr (fun j => j = x) w1 w2 → PW w2

theorem runes_conv (s : ByteArray) : ∀ n p a, s.size - p ≤ n → Conv.runesFrom s n p a = a ++ ((runesFrom s p).map (Value.int .i32)).toArray
 | 0, p, a, h => by
  rw [runes_end s p (by omega)]
  simp [Conv.runesFrom]
 | n + 1, p, a, h => by
  rw [Conv.runesFrom]
  by_cases hp : p < s.size
  · have hw := width_pos s p hp
    rw [if_pos hp, runes_step s p hp]
    dsimp only
    rw [runes_conv s n (p + (Utf8.decode s p).2) _ (by omega)]
    apply Array.ext'
    simp
  · rw [if_neg hp, runes_end s p hp]
    simp
theorem runes_len (s : ByteArray) : ∀ n p, s.size - p ≤ n → (runesFrom s p).length ≤ s.size - p
 | 0, p, h => by
  rw [runes_end s p (by omega)]
  exact Nat.zero_le _
 | n + 1, p, h => by
  by_cases hp : p < s.size
  · have hw := width_pos s p hp
    have := runes_len s n (p + (Utf8.decode s p).2) (by omega)
    rw [runes_step s p hp, List.length_cons]
    omega
  · rw [runes_end s p hp]
    exact Nat.zero_le _
/-- A text: its signs. -/
structure Text (s : ByteArray) (rs : List Int) : Prop where
 runes : runesFrom s 0 = rs
 good : textFrom s 0 = true
 signs : ∀ x, x ∈ rs → signR x = true
 pos : 0 < rs.length
theorem Text.le {s : ByteArray} {rs : List Int} (h : Text s rs) : rs.length ≤ s.size := by
 have := runes_len s s.size 0 (by omega)
 rw [h.runes] at this
 omega

theorem new_scG (s : ByteArray) (rs : List Int) (w : World) (h : Text s rs) (hs : s.size ≤ 4096) : Calls Tryz.prog 33 #[.string s] w fun e w' => ∃ b g c, e = .returned (.tuple #[.pointer (some ⟨b, 0, none⟩), .int .i64 0, .int .i64 0]) ∧ w.heap.size ≤ b ∧ Sc w' b (some ⟨g, 0, none⟩) c rs 0 ∧ Fr (fun _ => False) w w' := by
 have HW := Lib.hid (wrong_any s w hs)
 have hr := runes_conv s s.size 0 #[] (by omega)
 rw [Array.empty_append, h.runes] at hr
 have hle := h.le
 have HCV := Lib.hid (fun w1 => run_runes_of_string (P := Tryz.prog) w1 9 159 21 s Tryz.underlying9 Tryz.underlying159 Tryz.underlying21 (by rw [hr]; simp; omega))
 rw [hr] at HCV
 have hsz : ((rs.map (Value.int .i32)).toArray).size = rs.length := by simp
 rw [hsz] at HCV
 have HT := Lib.hid h.good
 have HV := Lib.hid (show ∀ r, r ∈ rs → Lib.validRune r = true ∧ 0 ≤ r from fun r hr => ⟨by rw [signR_valid]; exact h.signs r hr, ((signR_iff r).1 (h.signs r hr)).1⟩)
 have h0' := h.pos
 have hs' : rs.length ≤ 4096 := by omega
 clear hr hsz h hle
 go_enter Tryz.func33, Tryz.ntmps33
 go_wp2_with fail
 refine HW.out.mono ?_
 rintro e w1 ⟨n, rfl, hn, hf1⟩
 rw [HT.out] at hn
 have hn0 : n < 0 := by simpa using hn
 have hcv := HCV.out w1
 have hge := grownCap_ge w1 rs.length 0 21
 have hle := grownCap_le_maxLen w1 rs.length 0 21 (by unfold maxLen; omega)
 generalize grownCap w1 rs.length 0 21 = cap at *
 have hb0 := Blk.new w1.drew 21 ((rs.map (Value.int .i32)).toArray ++ Array.replicate (cap - rs.length) (.int .i32 0))
 have HB0 := Lib.hid hb0
 have HROW := Lib.hid (show (w1.drew.alloc (.cells ((rs.map (Value.int .i32)).toArray ++ Array.replicate (cap - rs.length) (.int .i32 0)) 21)).ownsRow 0 21 1 (.slice (some ⟨w1.heap.size, 0, none⟩) rs.length cap) rs.length (rs.map (.int .i32)) from
  ⟨by simp, .inr ⟨w1.heap.size, cap, _, rfl, Nat.zero_le _, hb0, hge, hle, by simp; omega, by simp⟩⟩)
 have HF1 := Lib.hid (show Fr (fun _ => False) w (w1.drew.alloc (.cells ((rs.map (Value.int .i32)).toArray ++ Array.replicate (cap - rs.length) (.int .i32 0)) 21)) from (hf1.drew).alloc _)
 have hz : (w1.drew.alloc (.cells ((rs.map (Value.int .i32)).toArray ++ Array.replicate (cap - rs.length) (.int .i32 0)) 21)).heap.size = w1.heap.size + 1 := by simp
 generalize w1.drew.alloc (.cells ((rs.map (Value.int .i32)).toArray ++ Array.replicate (cap - rs.length) (.int .i32 0)) 21) = w2 at *
 clear hb0 hn HB0
 have hsz1 := hf1.size
 clear hf1
 go_wp2_with fail
 go_ret3
 have hb2 := Blk.new w2 161 #[.slice (some ⟨w1.heap.size, 0, none⟩) rs.length cap, .int .i64 0]
 rw [hz] at hb2
 exact ⟨_, _, _, rfl, by omega, ⟨hb2, HROW.out.alloc _, Nat.zero_le _, hs', h0', HV.out⟩, HF1.out.alloc _⟩

theorem results_e3' {P : Program} {fn : Func} {p c d : Tmp} {ty : TypeId} (h : fn.results = #[.cell p ty, .tmp c, .tmp d]) (tmps : Array Value) (w : World) :
    (results fn tmps).run P w = ((asAddr (tmps.getD p undef)).run P w).andThen fun q w₁ => ((loadVar ty q).run P w₁).andThen fun v w₂ => .ok (.tuple #[v, tmps.getD c undef, tmps.getD d undef]) w₂ := by
 simp only [results, h]
 simp [Sem.run_bind, Result.andThen]
theorem results_e3 {P : Program} {fn : Func} {p c d : Tmp} {ty : TypeId} (h : fn.results = #[.cell p ty, .tmp c, .tmp d]) (tmps : Array Value) (w : World) (g : Nat) (t : TypeId) (cs : Array Value) (fr : Nat × Nat) (ds : TypeDesc)
    (hp : tmps.getD p undef = .pointer (some ⟨g, 0, none⟩)) (hg : w.heap[g]? = some (.cells cs t fr))
    (hu : P.underlying ty = some ds) (hd : (match ds with | .struct _ | .array _ _ => true | _ => false) = true) (hi : (P.info? ty).map (·.size) = some cs.size) (vc vd : Value) (hc : tmps.getD c undef = vc) (hd2 : tmps.getD d undef = vd) :
    (results fn tmps).run P w = .ok (.tuple #[.agg cs, vc, vd]) w := by
 rw [results_e3' h, hp, hc, hd2]
 simp [asAddr, run_loadVar_row w g t ty cs fr ds hg hu hd hi]

/-- The signs as a row of ints. -/
def Ls (w : World) (g c : Nat) (rs : List Int) : Prop := w.ownsRow 0 3 1 (.slice (some ⟨g, 0, none⟩) rs.length c) rs.length (rs.map (.int .i64))
theorem Ls.frF {w w' : World} {g c : Nat} {rs : List Int} (h : Ls w g c rs) (hf : Fr (fun _ => False) w w') : Ls w' g c rs := ownsRow_fr h hf (fun _ _ h => h)
theorem Ls.cell {w : World} {g c : Nat} {rs : List Int} (h : Ls w g c rs) {p : Nat} (hp : p < rs.length) : w.cell? ⟨g, p, none⟩ = some (.int .i64 (peekOf rs p)) := by
 rw [World.ownsRow.cellAt h p (by omega), List.getElem?_map, List.getElem?_eq_getElem hp]
 unfold peekOf
 rw [if_pos hp, List.getD_eq_getElem?_getD, List.getElem?_eq_getElem hp]
 rfl
theorem Ls.cap {w : World} {g c : Nat} {rs : List Int} (h : Ls w g c rs) : rs.length ≤ c := row_le h
theorem peek_past {rs : List Int} {p : Nat} (h : ¬ p < rs.length) : peekOf rs p = -1 := by unfold peekOf; rw [if_neg h]

theorem stands_any (g c p : Nat) (ch : Int) (rs : List Int) (w : World) (h0 : 0 ≤ ch) (h1 : ch ≤ 255) (hp : p ≤ 100000) (h : Ls w g c rs) :
    Calls Tryz.prog 62 #[.slice (some ⟨g, 0, none⟩) rs.length c, .int .i64 (p : Int), .int .u8 ch] w fun e w' => e = .returned (.bool (decide (peekOf rs p = ch))) ∧ w = w' := by
 have hcap := h.cap
 by_cases hlt : p < rs.length
 · have c0 := h.cell hlt
   generalize peekOf rs p = r at *
   clear h
   go_enter Tryz.func62, Tryz.ntmps62
   go_wp2_with fail
   go_ret
   exact ⟨rfl, rfl⟩
 · rw [peek_past hlt, decide_eq_false (by omega)]
   clear h
   go_enter Tryz.func62, Tryz.ntmps62
   go_wp2_with fail
   go_ret
   exact ⟨rfl, rfl⟩

def smallH : ByteArray := ⟨#[48, 49, 50, 51, 52, 53, 54, 55, 56, 57, 97, 98, 99, 100, 101, 102]⟩
def greatH : ByteArray := ⟨#[48, 49, 50, 51, 52, 53, 54, 55, 56, 57, 65, 66, 67, 68, 69, 70]⟩
theorem hex_at : ∀ j : Fin 16, hexR (byteAt smallH j) = ((j : Nat) : Int) ∧ hexR (byteAt greatH j) = ((j : Nat) : Int) := by decide
theorem hex_none (n : Int) (h : ∀ j, j < 16 → ¬ n = byteAt smallH j ∧ ¬ n = byteAt greatH j) : hexR n = -1 := by
 have a0 := h 0 (by decide); have a1 := h 1 (by decide); have a2 := h 2 (by decide); have a3 := h 3 (by decide); have a4 := h 4 (by decide); have a5 := h 5 (by decide); have a6 := h 6 (by decide); have a7 := h 7 (by decide)
 have a8 := h 8 (by decide); have a9 := h 9 (by decide); have b0 := h 10 (by decide); have b1 := h 11 (by decide); have b2 := h 12 (by decide); have b3 := h 13 (by decide); have b4 := h 14 (by decide); have b5 := h 15 (by decide)
 rw [show byteAt smallH 0 = 48 from by decide] at a0
 rw [show byteAt smallH 1 = 49 from by decide] at a1
 rw [show byteAt smallH 2 = 50 from by decide] at a2
 rw [show byteAt smallH 3 = 51 from by decide] at a3
 rw [show byteAt smallH 4 = 52 from by decide] at a4
 rw [show byteAt smallH 5 = 53 from by decide] at a5
 rw [show byteAt smallH 6 = 54 from by decide] at a6
 rw [show byteAt smallH 7 = 55 from by decide] at a7
 rw [show byteAt smallH 8 = 56 from by decide] at a8
 rw [show byteAt smallH 9 = 57 from by decide] at a9
 rw [show byteAt smallH 10 = 97 from by decide, show byteAt greatH 10 = 65 from by decide] at b0
 rw [show byteAt smallH 11 = 98 from by decide, show byteAt greatH 11 = 66 from by decide] at b1
 rw [show byteAt smallH 12 = 99 from by decide, show byteAt greatH 12 = 67 from by decide] at b2
 rw [show byteAt smallH 13 = 100 from by decide, show byteAt greatH 13 = 68 from by decide] at b3
 rw [show byteAt smallH 14 = 101 from by decide, show byteAt greatH 14 = 69 from by decide] at b4
 rw [show byteAt smallH 15 = 102 from by decide, show byteAt greatH 15 = 70 from by decide] at b5
 unfold hexR
 rw [if_neg (by omega), if_neg (by omega), if_neg (by omega)]

theorem rhex_any (n : Int) (w : World) : Calls Tryz.prog 114 #[.int .i64 n] w fun e w' => e = .returned (.int .i64 (hexR n)) ∧ w = w' := by
 obtain ⟨res, hres⟩ : ∃ x, x = hexR n := ⟨_, rfl⟩
 rw [← hres]
 have HR := Lib.hid hres
 clear hres
 go_enter Tryz.func114, Tryz.ntmps114
 go_wp2_with fail
 go_loopg [5] (16) (fun g a wr => ∃ j : Nat, 16 ≤ j + g ∧ j ≤ 16 ∧ a = .int .i64 (j : Int) ∧ w = wr ∧ ∀ k, k < j → ¬ n = byteAt smallH k ∧ ¬ n = byteAt greatH k)
 case atStart => exact ⟨0, by omega, by omega, rfl, rfl, fun k hk => absurd hk (Nat.not_lt_zero _)⟩
 case round =>
  obtain ⟨j, hg, hj, rfl, rfl, hno⟩ := hrel
  have HNO := Lib.hid hno
  clear hno
  by_cases hj16 : j < 16
  · have h1 : ∀ w, (Instr.index 9 (.string ⟨#[48, 49, 50, 51, 52, 53, 54, 55, 56, 57, 97, 98, 99, 100, 101, 102]⟩) (.int .i64 (j : Int))).run Tryz.prog w = .ok (.int .u8 (byteAt smallH j)) w := fun w => run_index_at (s := smallH) hj16 w
    have h2 : ∀ w, (Instr.index 9 (.string ⟨#[48, 49, 50, 51, 52, 53, 54, 55, 56, 57, 65, 66, 67, 68, 69, 70]⟩) (.int .i64 (j : Int))).run Tryz.prog w = .ok (.int .u8 (byteAt greatH j)) w := fun w => run_index_at (s := greatH) hj16 w
    have b1 := byteAt_le smallH j
    have b2 := byteAt_le greatH j
    have HAT := Lib.hid (hex_at ⟨j, hj16⟩)
    have HJ := Lib.hid (show ∀ k, k < j + 1 → ¬ n = byteAt smallH j → ¬ n = byteAt greatH j → ¬ n = byteAt smallH k ∧ ¬ n = byteAt greatH k from fun k hk e1 e2 => by
     by_cases h3 : k < j
     · exact HNO.out k h3
     · obtain rfl : k = j := by omega
       exact ⟨e1, e2⟩)
    generalize byteAt smallH j = k1 at *
    generalize byteAt greatH j = k2 at *
    by_cases e1 : n = k1
    · subst e1
      have hr : res = (j : Int) := by rw [HR.out]; exact HAT.out.1
      subst hr
      go_wp2_with fail
      go_ret
      exact ⟨rfl, rfl⟩
    · by_cases e2 : n = k2
      · subst e2
        have hr : res = (j : Int) := by rw [HR.out]; exact HAT.out.2
        subst hr
        go_wp2_with fail
        go_ret
        exact ⟨rfl, rfl⟩
      · have be1 : (n == k1) = false := by simpa using e1
        have be2 : (n == k2) = false := by simpa using e2
        go_wp2_with fail
        go_roundg (16 - (j + 1))
        case measure => omega
        case rel => exact ⟨j + 1, by omega, by omega, rfl, rfl, fun k hk => HJ.out k hk e1 e2⟩
  · obtain rfl : j = 16 := by omega
    have hr : res = -1 := by rw [HR.out]; exact hex_none n (fun k hk => HNO.out k hk)
    subst hr
    go_wp2_with fail
    go_ret
    exact ⟨rfl, rfl⟩

theorem info5b : (Tryz.prog.info? 5).map (fun i => (i.zero, i.size, i.bytes)) = some (some (.int .u8 0), 1, 1) := by kernel_rfl
theorem rbytesX (x : Int) (w : World) (hx : signR x = true) : Calls Tryz.prog 59 #[.int .i64 x] w fun e w' => ∃ v, e = .returned v ∧ w'.ownsRow w.heap.size 5 1 v (Lib.encodeRune x).length (Lib.byteCells (Lib.encodeRune x)) ∧ Fr (fun _ => False) w w' := by
 have hs := (signR_iff x).1 hx
 rw [Lib.byteCells_encodeRune]
 have hen : (Lib.encodeRune x).length = (Lib.encodeRuneZ x).length := by unfold Lib.encodeRune; rw [List.length_map]
 rw [hen]
 rcases (show x ≤ 127 ∨ (128 ≤ x ∧ x ≤ 2047) ∨ (2048 ≤ x ∧ x ≤ 65535) ∨ 65536 ≤ x by omega) with hI | hI | hI | hI
 · have e128lt : decide (x < 128) = true := decide_eq_true (by omega)
   have HL := Lib.hid (Lib.encodeRuneZ_one (r := x) hs.1 hI)
   have w1 : IntKind.u8.wrap x = x := by unfold IntKind.wrap; simp [IntKind.bits]; omega
   clear hI
   go_enter Tryz.func59, Tryz.ntmps59
   go_wp2_with fail
   go_ret
   refine ⟨_, rfl, ?_, (Fr.refl _ _).alloc _⟩
   rw [show Lib.runeCells x = [.int .u8 x] by unfold Lib.runeCells; rw [HL.out]; rfl, HL.out]
   exact World.ownsRow_lit (base := w.heap.size) (e := 5) (size := 1) w #[.int .u8 x] 1 (Nat.le_refl _) (by decide) rfl
 · have e128lt : decide (x < 128) = false := decide_eq_false (by omega)
   have e2048lt : decide (x < 2048) = true := decide_eq_true (by omega)
   have HL := Lib.hid (Lib.encodeRuneZ_two (r := x) hI.1 hI.2)
   go_enter Tryz.func59, Tryz.ntmps59
   go_wp2_with fail
   go_ret
   refine ⟨_, rfl, ?_, (Fr.refl _ _).alloc _⟩
   rw [show Lib.runeCells x = [.int .u8 (192 + x / 64), .int .u8 (128 + x % 64)] by unfold Lib.runeCells; rw [HL.out]; rfl, HL.out]
   exact World.ownsRow_lit (base := w.heap.size) (e := 5) (size := 1) w #[.int .u8 (192 + x / 64), .int .u8 (128 + x % 64)] 2 (Nat.le_refl _) (by decide) rfl
 · have e128lt : decide (x < 128) = false := decide_eq_false (by omega)
   have e2048lt : decide (x < 2048) = false := decide_eq_false (by omega)
   have e65536lt : decide (x < 65536) = true := decide_eq_true (by omega)
   have HL := Lib.hid (Lib.encodeRuneZ_three (r := x) (by omega))
   go_enter Tryz.func59, Tryz.ntmps59
   go_wp2_with fail
   go_ret
   refine ⟨_, rfl, ?_, (Fr.refl _ _).alloc _⟩
   rw [show Lib.runeCells x = [.int .u8 (224 + x / 4096), .int .u8 (128 + x / 64 % 64), .int .u8 (128 + x % 64)] by unfold Lib.runeCells; rw [HL.out]; rfl, HL.out]
   exact World.ownsRow_lit (base := w.heap.size) (e := 5) (size := 1) w #[.int .u8 (224 + x / 4096), .int .u8 (128 + x / 64 % 64), .int .u8 (128 + x % 64)] 3 (Nat.le_refl _) (by decide) rfl
 · have e128lt : decide (x < 128) = false := decide_eq_false (by omega)
   have e2048lt : decide (x < 2048) = false := decide_eq_false (by omega)
   have e65536lt : decide (x < 65536) = false := decide_eq_false (by omega)
   have HL := Lib.hid (show Lib.encodeRuneZ x = [240 + x / 262144, 128 + x / 4096 % 64, 128 + x / 64 % 64, 128 + x % 64] by unfold Lib.encodeRuneZ; rw [if_neg (by omega), if_neg (by omega), if_neg (by omega), if_pos (by omega)])
   go_enter Tryz.func59, Tryz.ntmps59
   go_wp2_with fail
   go_ret
   refine ⟨_, rfl, ?_, (Fr.refl _ _).alloc _⟩
   rw [show Lib.runeCells x = [.int .u8 (240 + x / 262144), .int .u8 (128 + x / 4096 % 64), .int .u8 (128 + x / 64 % 64), .int .u8 (128 + x % 64)] by unfold Lib.runeCells; rw [HL.out]; rfl, HL.out]
   exact World.ownsRow_lit (base := w.heap.size) (e := 5) (size := 1) w #[.int .u8 (240 + x / 262144), .int .u8 (128 + x / 4096 % 64), .int .u8 (128 + x / 64 % 64), .int .u8 (128 + x % 64)] 4 (Nat.le_refl _) (by decide) rfl

theorem conv_bytes {w : World} {B n c : Nat} {A : Option Addr} {l : List UInt8} (h : w.ownsRow B 5 1 (.slice A n c) n (Lib.byteCells l)) : (convert 148 9 (.slice A n c)).run Tryz.prog w = .ok (.string ⟨l.toArray⟩) w := by
 have hl : l.length = n := by have := h.1; rw [byteCells_len] at this; omega
 subst hl
 rcases Nat.eq_zero_or_pos l.length with h0 | h0
 · obtain rfl : l = [] := List.eq_nil_of_length_eq_zero h0
   cases A with
   | none =>
    rw [run_convert_bytes_string w 148 9 5 none _ c Tryz.underlying148 Tryz.underlying5 Tryz.underlying9]
    rfl
   | some a => exact run_convert_bytes_back (P := Tryz.prog) w 148 9 5 a c [] Tryz.underlying148 Tryz.underlying5 Tryz.underlying9 (fun j hj => absurd hj (Nat.not_lt_zero _))
 · obtain ⟨g, rfl, _, _, _⟩ := row_form h h0
   refine run_convert_bytes_back (P := Tryz.prog) w 148 9 5 ⟨g, 0, none⟩ c l Tryz.underlying148 Tryz.underlying5 Tryz.underlying9 (fun j hj => ?_)
   refine World.ownsRow.cells h (g := g) rfl j _ ?_
   unfold Lib.byteCells
   rw [List.getElem?_map, List.getElem?_eq_getElem hj]
   rfl
theorem byteCells_append (a b : List UInt8) : Lib.byteCells (a ++ b) = Lib.byteCells a ++ Lib.byteCells b := by unfold Lib.byteCells; rw [List.map_append]
theorem encodeRune_pos (r : Int) : 0 < (Lib.encodeRune r).length := by
 have hen := Lib.encodeRuneZ_length r
 unfold Lib.encodeRune
 rw [List.length_map]
 omega
theorem byte_one (l : List UInt8) : ∀ u ∈ Lib.byteCells l, u.oneCell' = true := fun u hu => by
 unfold Lib.byteCells at hu
 obtain ⟨b, _, rfl⟩ := List.mem_map.1 hu
 rfl

theorem rtext_sub (n c : Nat) (A : Option Addr) (l : List Int) (w : World) (hl : n = l.length) (hl2 : n ≤ 9000) (hv : ∀ x, x ∈ l → signR x = true) (hcap : n ≤ c) (hA : 0 < n → ∃ g off, A = some ⟨g, off, none⟩ ∧ g < w.heap.size ∧ ∀ j, j < n → w.cell? ⟨g, off + j, none⟩ = some (.int .i64 (l.getD j 0))) :
    Calls Tryz.prog 66 #[.slice A n c] w fun e w' => e = .returned (.string (strL l)) ∧ Fr (fun _ => False) w w' := by
 obtain ⟨i5, hi5, hz50, hz51, hz52⟩ := info_parts info5b
 have HB := Lib.hid (fun x w1 hx => rbytesX x w1 hx)
 have HV := Lib.hid hv
 have HA := Lib.hid hA
 clear hv hA
 go_enter Tryz.func66, Tryz.ntmps66
 go_wp2_with fail
 subst hl
 go_loopg [3, 7] (l.length) (fun g a3 a7 wr => ∃ (j : Nat), a7 = .int .i64 (j : Int) ∧ l.length ≤ j + g ∧ j ≤ l.length ∧ wr.ownsRow w.heap.size 5 1 a3 (encL (l.take j)).length (Lib.byteCells (encL (l.take j))) ∧ Fr (fun _ => False) w wr)
 case atStart => exact ⟨0, rfl, by omega, Nat.zero_le _, World.ownsRow_nil _ _ _ _, Fr.refl _ _⟩
 case round =>
  obtain ⟨j, rfl, hg, hj, hrow, hf⟩ := hrel
  have HF := Lib.hid hf
  have HROW := Lib.hid hrow
  have hsz := hf.size
  obtain ⟨A3, c3, hv3⟩ := row_shape hrow
  subst hv3
  by_cases hjl : j < l.length
  · obtain ⟨g0, off, rfl, hg0, hcs⟩ := HA.out (by omega)
    have c0 : wr.cell? ⟨g0, off + j, none⟩ = some (.int .i64 (l.getD j 0)) := by
     rw [← hcs j hjl]
     unfold World.cell?
     rw [hf.block g0 hg0 (fun h => h)]
    have HBB := Lib.hid (HB.out (l.getD j 0) wr (HV.out _ (by rw [List.getD_eq_getElem?_getD, List.getElem?_eq_getElem hjl]; exact List.getElem_mem hjl)))
    have hst : encL (l.take j) ++ Lib.encodeRune (l.getD j 0) = encL (l.take (j + 1)) := by
     rw [encL_push, List.take_add_one, List.getD_eq_getElem?_getD, List.getElem?_eq_getElem hjl]
     rfl
    have HST := Lib.hid hst
    have hep := encodeRune_pos (l.getD j 0)
    have hele := encodeRune_le (l.getD j 0)
    have hell := encL_len (l.take j)
    have htl : (l.take j).length = j := by rw [List.length_take]; omega
    generalize l.getD j 0 = x at *
    clear hrow hf hst hcs
    go_wp2_with fail
    refine HBB.out.mono ?_
    rintro e w2 ⟨v2, rfl, hown2, hf2⟩
    obtain ⟨A2, c2, hv2⟩ := row_shape hown2
    subst hv2
    obtain ⟨g2, rfl, _, _, _⟩ := row_form hown2 hep
    have HO2 := Lib.hid hown2
    have HR2 := Lib.hid (ownsRow_fr HROW.out hf2 (fun _ _ h => h))
    have HF2 := Lib.hid (HF.out.trans' hf2)
    have hz2 := hf2.size
    clear hown2 hf2
    go_wp2_with (at_builtin; refine wpList_append_own _ rfl _ _ 148 rfl w.heap.size 5 i5 _ 1 1 Tryz.underlying148 hi5 hz50 hz51 hz52 rfl (by decide) (.slice A3 (encL (l.take j)).length c3) (encL (l.take j)).length (Lib.byteCells (encL (l.take j))) (by rfl) HR2.out ⟨g2, 0, none⟩ (Lib.encodeRune x).length c2 (Lib.byteCells (Lib.encodeRune x)) (by rfl) (by rw [byteCells_len, Nat.mul_one]) (World.ownsRow.cells HO2.out (g := g2) rfl) (byte_one _) (by unfold maxLen; omega) (by omega) (by omega) ?_; intro v7 w7 hown7 hgr7 _; have F7 := (show Fr (fun j => w.heap.size ≤ j) w2 w7 from (Fr.of_grown hgr7).mono (fun j _ e => (HR2.out.lt j e).1)); have HOWN7 := Lib.hid hown7; have HF7 := Lib.hid ((HF2.out.mono (T := fun j => w.heap.size ≤ j) (fun _ _ h => h.elim)).trans F7 (fun _ _ h => h)); clear hown7 hgr7 F7)
    go_roundg (l.length - (j + 1))
    case measure => omega
    case rel => exact ⟨j + 1, rfl, by omega, by omega, by rw [← HST.out, List.length_append, byteCells_append]; exact HOWN7.out, HF7.out.shut (Nat.le_refl _)⟩
  · obtain rfl : j = l.length := by omega
    rw [List.take_length] at HROW
    have hcv := conv_bytes HROW.out
    have e : (⟨(encL l).toArray⟩ : ByteArray) = strL l := rfl
    rw [e] at hcv
    clear hrow hf e
    go_wp2_with fail
    go_ret
    exact ⟨rfl, HF.out⟩

theorem rtext_any (B n c : Nat) (A : Option Addr) (l : List Int) (w : World) (hl : n = l.length) (hl2 : n ≤ 9000) (hv : ∀ x, x ∈ l → signR x = true) (h : w.ownsRow B 3 1 (.slice A n c) n (l.map (.int .i64))) :
    Calls Tryz.prog 66 #[.slice A n c] w fun e w' => e = .returned (.string (strL l)) ∧ Fr (fun _ => False) w w' := by
 refine rtext_sub n c A l w hl hl2 hv (row_le h) (fun h0 => ?_)
 obtain ⟨g, rfl, _, hg, _⟩ := row_form h h0
 refine ⟨g, 0, rfl, hg, fun j hj => ?_⟩
 rw [Nat.zero_add, World.ownsRow.cellAt h j (by omega), List.getElem?_map, List.getElem?_eq_getElem (by omega), List.getD_eq_getElem?_getD, List.getElem?_eq_getElem (by omega)]
 rfl

theorem word_one {rs ms : List Int} {i : Nat} (h : i < rs.length) : inW ms (peekOf rs i) = true → wordE rs ms i = wordE rs ms (i + 1) := fun h2 => wordE_step h (by unfold peekOf at h2; rw [if_pos h] at h2; exact h2)
theorem rClass_sign {x : Int} (h : signR x = true) : rClass x = classOf x := rClass_of h
theorem wordM {x : Int} (hx : signR x = true) (under : Bool) : inW (if under = true then [95, 45] else [45]) x = (decide (rClass x = 1) || (decide (rClass x = 2) || (decide (x = 45) || (under && decide (x = 95))))) := by
 have h0 := (signR_iff x).1 hx
 have hc : clsOf x = rClass x := by
  unfold clsOf
  rw [if_neg (by omega), rClass_sign hx]
 unfold inW
 rw [hc]
 apply Bool.eq_iff_iff.2
 cases under
 · simp only [Bool.false_eq_true, if_false, Bool.or_eq_true, List.contains_eq_mem, decide_eq_true_eq, List.mem_cons, List.not_mem_nil, or_false, Bool.false_and]
   omega
 · simp only [if_true, Bool.or_eq_true, List.contains_eq_mem, decide_eq_true_eq, List.mem_cons, List.not_mem_nil, or_false, Bool.true_and]
   omega

theorem part_get {rs : List Int} {p q j : Nat} (hq : q ≤ rs.length) (hj : j < q - p) : (part rs p q).getD j 0 = rs.getD (p + j) 0 := by
 unfold part
 rw [List.getD_eq_getElem?_getD, List.getElem?_take, if_pos hj, List.getElem?_drop, ← List.getD_eq_getElem?_getD]
theorem part_size {rs : List Int} {p q : Nat} (hq : q ≤ rs.length) : (part rs p q).length = q - p := by
 unfold part
 rw [List.length_take, List.length_drop]
 omega
theorem part_sign {rs : List Int} (hv : ∀ r, r ∈ rs → signR r = true) (p q : Nat) : ∀ x, x ∈ part rs p q → signR x = true := fun x hx => hv x (List.mem_of_mem_drop (List.mem_of_mem_take hx))
theorem sub_text {rs : List Int} {g c p q : Nat} {w : World} (hpq : p ≤ q) (hq : q ≤ rs.length) (hc : rs.length ≤ c) (h : Ls w g c rs) (hv : ∀ r, r ∈ rs → signR r = true) (hl : rs.length ≤ 8100) (cc off : Nat) (hcc : q - p ≤ cc) (ho : p = off ∨ q = p) :
    Calls Tryz.prog 66 #[.slice (some ⟨g, off, none⟩) (q - p) cc] w fun e w' => e = .returned (.string (strL (part rs p q))) ∧ Fr (fun _ => False) w w' := by
 refine rtext_sub (q - p) cc _ (part rs p q) w (part_size hq).symm (by omega) (part_sign hv p q) hcc (fun h0 => ⟨g, off, rfl, (World.ownsRow.lt h g rfl).2, fun j hj => ?_⟩)
 rcases ho with rfl | e
 · rw [part_get hq hj, h.cell (by omega)]
   unfold peekOf
   rw [if_pos (by omega)]
 · omega

theorem rword_any (g c p : Nat) (under : Bool) (rs : List Int) (w : World) (hl : rs.length ≤ 8100) (hv : ∀ r, r ∈ rs → signR r = true) (hp : p ≤ rs.length) (h : Ls w g c rs) :
    Calls Tryz.prog 89 #[.slice (some ⟨g, 0, none⟩) rs.length c, .int .i64 (p : Int), .bool under] w fun e w' => e = .returned (.tuple #[.string (strL (part rs p (wordE rs (if under = true then [95, 45] else [45]) p))), .int .i64 ((wordE rs (if under = true then [95, 45] else [45]) p : Nat) : Int)]) ∧ Fr (fun _ => False) w w' := by
 have HWM := Lib.hid (fun x hx => wordM (x := x) hx under)
 generalize (if under = true then [95, 45] else [45] : List Int) = ms at *
 obtain ⟨q, hq⟩ : ∃ q, q = wordE rs ms p := ⟨_, rfl⟩
 rw [← hq]
 have HQ := Lib.hid hq
 have HS := Lib.hid h
 have hcap := h.cap
 have HSG := Lib.hid (fun i hi => sign_peek hv (i := i) hi)
 have HV := Lib.hid hv
 clear hq h hv
 go_enter Tryz.func89, Tryz.ntmps89
 go_wp2_with fail
 go_loopg [8] (rs.length) (fun gk a wr => ∃ i : Nat, a = .int .i64 (i : Int) ∧ rs.length ≤ i + gk ∧ p ≤ i ∧ i ≤ rs.length ∧ wordE rs ms i = q ∧ w = wr)
 case atStart => exact ⟨p, rfl, by omega, Nat.le_refl _, hp, HQ.out.symm, rfl⟩
 case round =>
  obtain ⟨i, rfl, hg, hpi, hi, hwe, rfl⟩ := hrel
  have HWE := Lib.hid hwe
  clear hwe
  by_cases hil : i < rs.length
  · have c0 := HS.out.cell hil
    have hsg := HSG.out i hil
    have hwm := HWM.out _ hsg
    have HST := Lib.hid (fun h => word_one (rs := rs) (ms := ms) (i := i) hil h)
    have HSP := Lib.hid (show inW ms (peekOf rs i) = false → wordE rs ms i = i from fun h => wordE_stop (fun h2 => by have h3 := h2.2; unfold peekOf at h; rw [if_pos hil] at h; rw [h] at h3; exact Bool.false_ne_true h3))
    have HC := Lib.hid (fun w1 => rclass_any (peekOf rs i) w1)
    generalize peekOf rs i = r at *
    generalize rClass r = k at *
    have HWMM := Lib.hid hwm
    clear hwm hsg
    by_cases k1 : k = 1
    · have b1 : (k == 1) = true := by simpa using k1
      have HT := Lib.hid ((HST.out (by rw [HWMM.out]; simp [*])).symm.trans HWE.out)
      clear HSP HST HWMM
      go_wp2_with fail
      refine (HC.out _).mono ?_
      rintro e w2 ⟨rfl, rfl⟩
      go_wp2_with fail
      go_roundg (rs.length - (i + 1))
      case measure => omega
      case rel => exact ⟨i + 1, rfl, by omega, by omega, by omega, HT.out, rfl⟩
    · have b1 : (k == 1) = false := by simpa using k1
      by_cases k2 : k = 2
      · have b2 : (k == 2) = true := by simpa using k2
        have HT := Lib.hid ((HST.out (by rw [HWMM.out]; simp [*])).symm.trans HWE.out)
        clear HSP HST HWMM
        go_wp2_with fail
        refine (HC.out _).mono ?_
        rintro e w2 ⟨rfl, rfl⟩
        go_wp2_with fail
        refine (HC.out _).mono ?_
        rintro e w3 ⟨rfl, rfl⟩
        go_wp2_with fail
        go_roundg (rs.length - (i + 1))
        case measure => omega
        case rel => exact ⟨i + 1, rfl, by omega, by omega, by omega, HT.out, rfl⟩
      · have b2 : (k == 2) = false := by simpa using k2
        by_cases k3 : r = 45
        · subst k3
          have HT := Lib.hid ((HST.out (by rw [HWMM.out]; simp [*])).symm.trans HWE.out)
          clear HSP HST HWMM
          go_wp2_with fail
          refine (HC.out _).mono ?_
          rintro e w2 ⟨rfl, rfl⟩
          go_wp2_with fail
          refine (HC.out _).mono ?_
          rintro e w3 ⟨rfl, rfl⟩
          go_wp2_with fail
          go_roundg (rs.length - (i + 1))
          case measure => omega
          case rel => exact ⟨i + 1, rfl, by omega, by omega, by omega, HT.out, rfl⟩
        · have b3 : (r == 45) = false := by simpa using k3
          by_cases k4 : under = true ∧ r = 95
          · obtain ⟨ku, kr⟩ := k4
            subst kr
            subst ku
            clear b3
            have HT := Lib.hid ((HST.out (by rw [HWMM.out]; simp [*])).symm.trans HWE.out)
            clear HSP HST HWMM
            go_wp2_with fail
            refine (HC.out _).mono ?_
            rintro e w2 ⟨rfl, rfl⟩
            go_wp2_with fail
            refine (HC.out _).mono ?_
            rintro e w3 ⟨rfl, rfl⟩
            go_wp2_with fail
            go_roundg (rs.length - (i + 1))
            case measure => omega
            case rel => exact ⟨i + 1, rfl, by omega, by omega, by omega, HT.out, rfl⟩
          · have hno : inW ms r = false := by
             rw [HWMM.out]
             cases under with
             | false => simp [*]
             | true => simp [*]; exact fun e => k4 ⟨rfl, e⟩
            have hqi : i = q := (HSP.out hno).symm.trans HWE.out
            subst hqi
            have HSUB := Lib.hid (sub_text hpi (Nat.le_of_lt hil) hcap HS.out HV.out hl)
            cases under with
            | false =>
             go_wp2_with fail
             refine (HC.out _).mono ?_
             rintro e w2 ⟨rfl, rfl⟩
             go_wp2_with fail
             refine (HC.out _).mono ?_
             rintro e w3 ⟨rfl, rfl⟩
             go_wp2_with fail
             all_goals (refine (HSUB.out _ _ (by omega) (by omega)).mono ?_; rintro e w4 ⟨rfl, hf4⟩; go_wp2_with fail; go_ret2; exact ⟨rfl, hf4⟩)
            | true =>
             have b4 : (r == 95) = false := by simpa using fun e => k4 ⟨rfl, e⟩
             go_wp2_with fail
             refine (HC.out _).mono ?_
             rintro e w2 ⟨rfl, rfl⟩
             go_wp2_with fail
             refine (HC.out _).mono ?_
             rintro e w3 ⟨rfl, rfl⟩
             go_wp2_with fail
             all_goals (refine (HSUB.out _ _ (by omega) (by omega)).mono ?_; rintro e w4 ⟨rfl, hf4⟩; go_wp2_with fail; go_ret2; exact ⟨rfl, hf4⟩)
  · have hqi : i = q := (wordE_stop (rs := rs) (ms := ms) (p := i) (fun h => hil h.1)).symm.trans HWE.out
    subst hqi
    have HSUB := Lib.hid (sub_text hpi hi hcap HS.out HV.out hl)
    go_wp2_with fail
    all_goals (refine (HSUB.out _ _ (by omega) (by omega)).mono ?_; rintro e w4 ⟨rfl, hf4⟩; go_wp2_with fail; go_ret2; exact ⟨rfl, hf4⟩)

/-- The place behind a mark; below 0: none stands there. -/
def mkI (rs : List Int) (p : Nat) (T : ByteArray) : Int := if markAt rs p T = true then (markTo rs p T : Int) else -1
def wdI (rs : List Int) (p : Nat) (T : ByteArray) : Int := if wordAt rs p T = true then (wordTo rs p T : Int) else -1
theorem clsR {x : Int} (hx : signR x = true) : clsOf x = rClass x := by
 have h0 := (signR_iff x).1 hx
 unfold clsOf
 rw [if_neg (by omega), rClass_sign hx]

theorem rblanks_any (g c p : Nat) (rs : List Int) (w : World) (hl : rs.length ≤ 8100) (hv : ∀ r, r ∈ rs → signR r = true) (hp : p ≤ rs.length) (h : Ls w g c rs) :
    Calls Tryz.prog 17 #[.slice (some ⟨g, 0, none⟩) rs.length c, .int .i64 (p : Int)] w fun e w' => e = .returned (.int .i64 ((skip rs [0] p : Nat) : Int)) ∧ w = w' := by
 obtain ⟨q, hq⟩ : ∃ q, q = skip rs [0] p := ⟨_, rfl⟩
 rw [← hq]
 have HQ := Lib.hid hq
 have HS := Lib.hid h
 have hcap := h.cap
 have HSG := Lib.hid (fun i hi => sign_peek hv (i := i) hi)
 clear hq h hv
 go_enter Tryz.func17, Tryz.ntmps17
 go_wp2_with fail
 go_loopg [1] (rs.length) (fun gk a wr => ∃ i : Nat, a = .int .i64 (i : Int) ∧ rs.length ≤ i + gk ∧ i ≤ rs.length ∧ skip rs [0] i = q ∧ w = wr)
 case atStart => exact ⟨p, rfl, by omega, hp, HQ.out.symm, rfl⟩
 case round =>
  obtain ⟨i, rfl, hg, hi, hse, rfl⟩ := hrel
  have HSE := Lib.hid hse
  clear hse
  by_cases hil : i < rs.length
  · have c0 := HS.out.cell hil
    have hcl := clsR (HSG.out i hil)
    have hpk : peekOf rs i = rs.getD i 0 := by unfold peekOf; rw [if_pos hil]
    have HGO := Lib.hid (show rClass (peekOf rs i) = 0 → skip rs [0] (i + 1) = q from fun h => by rw [← HSE.out]; exact (skip_step hil (by rw [← hpk, hcl, h]; rfl)).symm)
    have HST := Lib.hid (show ¬ rClass (peekOf rs i) = 0 → i = q from fun h => by rw [← HSE.out]; exact (skip_stop (fun h2 => h (by have h3 := h2.2; rw [← hpk, hcl] at h3; simpa using h3))).symm)
    have HC := Lib.hid (fun w1 => rclass_any (peekOf rs i) w1)
    clear hcl hpk
    generalize peekOf rs i = r at *
    generalize rClass r = k at *
    by_cases k0 : k = 0
    · subst k0
      have HN := Lib.hid (HGO.out rfl)
      clear HGO HST
      go_wp2_with fail
      refine (HC.out _).mono ?_
      rintro e w2 ⟨rfl, rfl⟩
      go_wp2_with fail
      go_roundg (rs.length - (i + 1))
      case measure => omega
      case rel => exact ⟨i + 1, rfl, by omega, by omega, HN.out, rfl⟩
    · have b0 : (k == 0) = false := by simpa using k0
      have hqi := HST.out k0
      clear HGO HST k0
      subst hqi
      go_wp2_with fail
      refine (HC.out _).mono ?_
      rintro e w2 ⟨rfl, rfl⟩
      go_wp2_with fail
      go_ret
      exact ⟨rfl, rfl⟩
  · have hqi : i = q := (skip_stop (rs := rs) (cs := [0]) (p := i) (fun h => hil h.1)).symm.trans HSE.out
    subst hqi
    go_wp2_with fail
    go_ret
    exact ⟨rfl, rfl⟩

theorem rmark_neg (T : ByteArray) (v : Value) (w : World) : Calls Tryz.prog 27 #[v, .int .i64 (-1), .string T] w fun e w' => e = .returned (.int .i64 (-1)) ∧ w = w' := by
 go_enter Tryz.func27, Tryz.ntmps27
 go_wp2_with fail
 go_ret
 exact ⟨rfl, rfl⟩
theorem txt_at (T : ByteArray) (k : Nat) (h : k < T.size) : (txt T).getD k 0 = byteAt T k := by
 rw [txt_get T k h]
 unfold byteAt
 rw [List.getD_eq_getElem?_getD, List.getElem?_eq_getElem (by simpa using h)]
 rfl

theorem rmark_any (T : ByteArray) (g c p : Nat) (rs : List Int) (w : World) (hT : T.size ≤ 100) (hl : rs.length ≤ 8100) (hv : ∀ r, r ∈ rs → signR r = true) (hp : p ≤ rs.length) (h : Ls w g c rs) :
    Calls Tryz.prog 27 #[.slice (some ⟨g, 0, none⟩) rs.length c, .int .i64 (p : Int), .string T] w fun e w' => e = .returned (.int .i64 (mkI rs p T)) ∧ w = w' := by
 have HB := Lib.hid (rblanks_any g c p rs w hl hv hp h)
 have hle := (skip_le rs [0] (rs.length - p) p (Nat.le_refl _) hp).2
 unfold mkI markTo markAt
 generalize skip rs [0] p = q at *
 have HS := Lib.hid h
 have hp0 : ¬ ((p : Int) < 0) := by omega
 clear h hv
 obtain ⟨res, hres⟩ : ∃ x, x = (if isAt rs q (txt T) = true then (((if isAt rs q (txt T) = true then q + T.size else q) : Nat) : Int) else -1) := ⟨_, rfl⟩
 rw [← hres]
 have HRES := Lib.hid hres
 clear hres
 have HTX := Lib.hid (txt_len T)
 have HTA := Lib.hid (fun k hk => txt_at T k hk)
 go_enter Tryz.func27, Tryz.ntmps27
 go_wp2_with fail
 refine HB.out.mono ?_
 rintro e w1 ⟨rfl, rfl⟩
 go_wp2_with fail
 go_loopg [8] (T.size) (fun gk a wr => ∃ k : Nat, a = .int .i64 (k : Int) ∧ T.size ≤ k + gk ∧ k ≤ T.size ∧ (∀ j, j < k → peekOf rs (q + j) = (txt T).getD j 0) ∧ w = wr)
 case atStart => exact ⟨0, rfl, by omega, Nat.zero_le _, fun j hj => absurd hj (Nat.not_lt_zero _), rfl⟩
 case round =>
  obtain ⟨k, rfl, hg, hk, hall, rfl⟩ := hrel
  have HALL := Lib.hid hall
  clear hall
  by_cases hkt : k < T.size
  · have hix := run_index_at hkt w
    have hby := byteAt_le T k
    have hst := stands_any g c (q + k) (byteAt T k) rs w hby.1 hby.2 (by omega) HS.out
    rw [show ((q + k : Nat) : Int) = (q : Int) + (k : Int) by omega] at hst
    have HTK := Lib.hid (HTA.out k hkt)
    by_cases he : peekOf rs (q + k) = byteAt T k
    · rw [decide_eq_true he] at hst
      have HST := Lib.hid hst
      have HE := Lib.hid (he.trans HTK.out.symm)
      clear hst he
      generalize byteAt T k = bk at *
      go_wp2_with fail
      refine HST.out.mono ?_
      rintro e w2 ⟨rfl, rfl⟩
      go_wp2_with fail
      go_roundg (T.size - (k + 1))
      case measure => omega
      case rel => exact ⟨k + 1, rfl, by omega, by omega, fun j hj => by
       by_cases e2 : j = k
       · subst e2
         exact HE.out
       · exact HALL.out j (by omega), rfl⟩
    · rw [decide_eq_false he] at hst
      have HST := Lib.hid hst
      have hno : isAt rs q (txt T) = false := isAt_false (i := k) (by rw [HTX.out]; exact hkt) (by rw [HTK.out]; exact he)
      have hr := HRES.out
      rw [hno, if_neg Bool.false_ne_true] at hr
      subst hr
      clear hst he hno
      generalize byteAt T k = bk at *
      go_wp2_with fail
      refine HST.out.mono ?_
      rintro e w2 ⟨rfl, rfl⟩
      go_wp2_with fail
      go_ret
      exact ⟨rfl, rfl⟩
  · obtain rfl : k = T.size := by omega
    have hyes : isAt rs q (txt T) = true := isAt_true (fun j hj => HALL.out j (by rw [HTX.out] at hj; exact hj))
    have hr := HRES.out
    rw [hyes, if_pos rfl, if_pos rfl] at hr
    have HR := Lib.hid hr
    clear hr hyes
    go_wp2_with fail
    go_ret
    exact ⟨by rw [HR.out]; rfl, rfl⟩

theorem rletter2_any (g c p : Nat) (rs : List Int) (w : World) (hl : rs.length ≤ 8100) (hv : ∀ r, r ∈ rs → signR r = true) (hp : p ≤ 100000) (h : Ls w g c rs) :
    Calls Tryz.prog 60 #[.slice (some ⟨g, 0, none⟩) rs.length c, .int .i64 (p : Int)] w fun e w' => e = .returned (.bool (letterOf (peekOf rs p))) ∧ w = w' := by
 have hcap := h.cap
 by_cases hlt : p < rs.length
 · have c0 := h.cell hlt
   have hcl := clsR (sign_peek hv hlt)
   have HC := Lib.hid (fun w1 => rclass_any (peekOf rs p) w1)
   unfold letterOf
   rw [hcl]
   clear hcl h hv
   generalize peekOf rs p = r at *
   generalize rClass r = k at *
   by_cases k1 : k = 1
   · subst k1
     go_enter Tryz.func60, Tryz.ntmps60
     go_wp2_with fail
     refine (HC.out _).mono ?_
     rintro e w2 ⟨rfl, rfl⟩
     go_wp2_with fail
     go_ret
     exact ⟨rfl, rfl⟩
   · have b1 : (k == 1) = false := by simpa using k1
     by_cases k2 : k = 2
     · subst k2
       go_enter Tryz.func60, Tryz.ntmps60
       go_wp2_with fail
       refine (HC.out _).mono ?_
       rintro e w2 ⟨rfl, rfl⟩
       go_wp2_with fail
       refine (HC.out _).mono ?_
       rintro e w3 ⟨rfl, rfl⟩
       go_wp2_with fail
       go_ret
       exact ⟨rfl, rfl⟩
     · have b2 : (k == 2) = false := by simpa using k2
       rw [b1, b2]
       simp only [Bool.false_or]
       clear k1 k2
       go_enter Tryz.func60, Tryz.ntmps60
       go_wp2_with fail
       refine (HC.out _).mono ?_
       rintro e w2 ⟨rfl, rfl⟩
       go_wp2_with fail
       refine (HC.out _).mono ?_
       rintro e w3 ⟨rfl, rfl⟩
       go_wp2_with fail
       go_ret
       exact ⟨rfl, rfl⟩
 · rw [peek_past hlt, show letterOf (-1) = false from rfl]
   clear h hv
   go_enter Tryz.func60, Tryz.ntmps60
   go_wp2_with fail
   go_ret
   exact ⟨rfl, rfl⟩

theorem rword2_neg (T : ByteArray) (v : Value) (w : World) : Calls Tryz.prog 25 #[v, .int .i64 (-1), .string T] w fun e w' => e = .returned (.int .i64 (-1)) ∧ w = w' := by
 have HM := Lib.hid (rmark_neg T v w)
 go_enter Tryz.func25, Tryz.ntmps25
 go_wp2_with fail
 refine HM.out.mono ?_
 rintro e w1 ⟨rfl, rfl⟩
 go_wp2_with fail
 go_ret
 exact ⟨rfl, rfl⟩

theorem rword2_any (T : ByteArray) (g c p : Nat) (rs : List Int) (w : World) (hT : T.size ≤ 100) (hl : rs.length ≤ 8100) (hv : ∀ r, r ∈ rs → signR r = true) (hp : p ≤ rs.length) (h : Ls w g c rs) :
    Calls Tryz.prog 25 #[.slice (some ⟨g, 0, none⟩) rs.length c, .int .i64 (p : Int), .string T] w fun e w' => e = .returned (.int .i64 (wdI rs p T)) ∧ w = w' := by
 have hm := rmark_any T g c p rs w hT hl hv hp h
 have hle := (skip_le rs [0] (rs.length - p) p (Nat.le_refl _) hp).2
 have HL := Lib.hid (fun q hq => rletter2_any g c q rs w hl hv hq h)
 unfold mkI markTo markAt at hm
 unfold wdI wordTo wordAt
 generalize skip rs [0] p = q at *
 clear h hv
 cases hi : isAt rs q (txt T) with
 | false =>
  rw [hi] at hm
  simp only [Bool.false_eq_true, if_false, Bool.false_and] at hm ⊢
  have HM := Lib.hid hm
  clear hm hi
  go_enter Tryz.func25, Tryz.ntmps25
  go_wp2_with fail
  refine HM.out.mono ?_
  rintro e w1 ⟨rfl, rfl⟩
  go_wp2_with fail
  go_ret
  exact ⟨rfl, rfl⟩
 | true =>
  rw [hi] at hm
  simp only [if_true, Bool.true_and] at hm ⊢
  have hl2 := HL.out (q + T.size) (by omega)
  have HM := Lib.hid hm
  have hg0 : decide ((0 : Int) ≤ ((q + T.size : Nat) : Int)) = true := decide_eq_true (by omega)
  cases hlo : letterOf (peekOf rs (q + T.size)) with
  | false =>
   rw [hlo] at hl2
   have HL2 := Lib.hid hl2
   simp only [Bool.not_false, if_true]
   clear hm hi hl2 hlo
   generalize q + T.size = q2 at *
   go_enter Tryz.func25, Tryz.ntmps25
   go_wp2_with fail
   refine HM.out.mono ?_
   rintro e w1 ⟨rfl, rfl⟩
   go_wp2_with fail
   refine HL2.out.mono ?_
   rintro e w2 ⟨rfl, rfl⟩
   go_wp2_with fail
   go_ret
   exact ⟨rfl, rfl⟩
  | true =>
   rw [hlo] at hl2
   have HL2 := Lib.hid hl2
   simp only [Bool.not_true, Bool.false_eq_true, if_false]
   clear hm hi hl2 hlo
   generalize q + T.size = q2 at *
   go_enter Tryz.func25, Tryz.ntmps25
   go_wp2_with fail
   refine HM.out.mono ?_
   rintro e w1 ⟨rfl, rfl⟩
   go_wp2_with fail
   refine HL2.out.mono ?_
   rintro e w2 ⟨rfl, rfl⟩
   go_wp2_with fail
   go_ret
   exact ⟨rfl, rfl⟩

theorem info3b : (Tryz.prog.info? 3).map (fun i => (i.zero, i.size, i.bytes)) = some (some (.int .i64 0), 1, 8) := by kernel_rfl

theorem riri2_any (g c p : Nat) (rs : List Int) (w : World) (hl : rs.length ≤ 8100) (hv : ∀ r, r ∈ rs → signR r = true) (hp : p ≤ rs.length) (h : Ls w g c rs) :
    Calls Tryz.prog 88 #[.slice (some ⟨g, 0, none⟩) rs.length c, .int .i64 (p : Int)] w fun e w' => e = .returned (.tuple #[.string (optS (iriR rs p).1), .int .i64 ((iriR rs p).2 : Int), .bool (iriR rs p).1.isSome]) ∧ Fr (fun _ => False) w w' := by
 obtain ⟨i3, hi3, hz0, hz1, hz2⟩ := info_parts info3b
 obtain ⟨res, hres⟩ : ∃ x, x = iriR rs p := ⟨_, rfl⟩
 rw [← hres]
 unfold iriR at hres
 have HST := Lib.hid (fun q ch w1 h0 h1 hq h2 => stands_any g c q ch rs w1 h0 h1 hq h2)
 have HH := Lib.hid (fun n w1 => rhex_any n w1)
 have HSI := Lib.hid (fun n w1 => rsign_any n w1)
 have HS := Lib.hid h
 have hcap := h.cap
 have HSG := Lib.hid (fun i hi => sign_peek hv (i := i) hi)
 have S0 := Lib.hid (stands_any g c p 60 rs w (by decide) (by decide) (by omega) h)
 clear h
 by_cases hp0 : peekOf rs p = 60
 · rw [if_pos hp0] at hres
   have HRES := Lib.hid hres
   have hplt := peek_lt (rs := rs) (p := p) (by omega)
   rw [hp0] at S0
   clear hres hp0
   go_enter Tryz.func88, Tryz.ntmps88
   go_wp2_with fail
   refine S0.out.mono ?_
   rintro e w1 ⟨rfl, rfl⟩
   go_wp2_with fail
   go_loopg [7, 8] (rs.length + 1) (fun gk a7 a8 wr => ∃ (i : Nat) (out : List Int), a8 = .int .i64 (i : Int) ∧ rs.length + 1 ≤ i + gk ∧ i ≤ rs.length ∧ out.length ≤ i ∧ iriT rs i out = res ∧ wr.ownsRow w.heap.size 3 1 a7 out.length (out.map (.int .i64)) ∧ (∀ x, x ∈ out → signR x = true) ∧ Fr (fun _ => False) w wr)
   case atStart => exact ⟨p + 1, [], rfl, by omega, by omega, Nat.zero_le _, HRES.out.symm, World.ownsRow_nil _ _ _ _, fun _ h => (by cases h), Fr.refl _ _⟩
   case round =>
    obtain ⟨i, out, rfl, hg, hi, hol, hir, hrow, hos, hf⟩ := hrel
    have HIR := Lib.hid hir
    have HF := Lib.hid hf
    have HROW := Lib.hid hrow
    have HOS := Lib.hid hos
    have hsz := hf.size
    have HSW := Lib.hid (HS.out.frF hf)
    have T0 := Lib.hid (fun q ch h0 h1 hq => HST.out q ch wr h0 h1 hq HSW.out)
    have TE := Lib.hid (T0.out i 62 (by decide) (by decide) (by omega))
    obtain ⟨A6, c6, hv6⟩ := row_shape hrow
    subst hv6
    clear hir hrow hos hf
    by_cases hil : i < rs.length
    · have c0 := HSW.out.cell hil
      by_cases h62 : peekOf rs i = 62
      · have hrr := (iriT_shut (rs := rs) (i := i) out h62).symm.trans HIR.out
        subst hrr
        rw [h62] at c0 TE
        have HX := Lib.hid (rtext_any w.heap.size out.length c6 A6 out wr rfl (by omega) HOS.out HROW.out)
        go_wp2_with fail
        refine TE.out.mono ?_
        rintro e w2 ⟨rfl, rfl⟩
        go_wp2_with fail
        refine HX.out.mono ?_
        rintro e w3 ⟨rfl, hf3⟩
        go_wp2_with fail
        go_ret3
        exact ⟨rfl, HF.out.trans' hf3⟩
      · by_cases h10 : peekOf rs i = 10
        · have hrr := (iriT_end (rs := rs) (i := i) out (fun h => h.2 h10)).symm.trans HIR.out
          subst hrr
          rw [h10] at c0 TE
          go_wp2_with fail
          refine TE.out.mono ?_
          rintro e w2 ⟨rfl, rfl⟩
          go_wp2_with fail
          go_ret3
          exact ⟨rfl, HF.out⟩
        · have hsg := HSG.out i hil
          by_cases h92 : peekOf rs i = 92
          · skip
            rw [h92] at c0
            have TU := Lib.hid (T0.out (i + 1) 117 (by decide) (by decide) (by omega))
            have TV := Lib.hid (T0.out (i + 1) 85 (by decide) (by decide) (by omega))
            by_cases hu : peekOf rs (i + 1) = 117
            · skip
              rw [hu] at TU TV
              have hpl := peek_lt (rs := rs) (p := i + 1) (by omega)
              have hrr := iriT_u (rs := rs) (i := i) out h92 hu
              rw [HIR.out] at hrr
              have HIRR := Lib.hid hrr
              clear hrr
              go_wp2_with fail
              refine TU.out.mono ?_
              rintro e w2 ⟨rfl, rfl⟩
              go_wp2_with fail
              refine TV.out.mono ?_
              rintro e w2 ⟨rfl, rfl⟩
              go_wp2_with fail
              go_loopg [8, 10, 11] (4) (fun gk b8 b10 b11 wi => ∃ (k : Nat) (nn : Int), 4 ≤ k + gk ∧ k ≤ 4 ∧ i + 2 + k ≤ rs.length ∧ 0 ≤ nn ∧ nn < 16 ^ k ∧ hexF rs (4 - k) (i + 2 + k) nn = hexF rs 4 (i + 2) 0 ∧ b8 = .int .i64 ((i + 2 + k : Nat) : Int) ∧ b10 = .int .i64 nn ∧ b11 = .int .i64 (k : Int) ∧ wr = wi)
              case atStart => exact ⟨0, 0, by omega, by omega, by omega, by decide, by decide, rfl, rfl, rfl, rfl, rfl⟩
              case round =>
               obtain ⟨k, nn, hgk, hk, hpk, hn0, hn1, hx, rfl, rfl, rfl, rfl⟩ := hrel
               have hp16 := pow16 k (by omega)
               have HX := Lib.hid hx
               clear hx
               by_cases hkm : k < 4
               · obtain ⟨j, hj⟩ : ∃ j, 4 - k = j + 1 := ⟨4 - k - 1, by omega⟩
                 have hx2 := HX.out
                 rw [hj, hexF_succ] at hx2
                 by_cases hq : i + 2 + k < rs.length
                 · have cq := HSW.out.cell hq
                   have HHH := Lib.hid (HH.out (peekOf rs (i + 2 + k)) wr)
                   have hdb := hexR_le (peekOf rs (i + 2 + k))
                   by_cases hd : hexR (peekOf rs (i + 2 + k)) < 0
                   · rw [if_pos hd] at hx2
                     have hnr : numR rs 4 (i + 2) = (0, i + 2 + k, false) := by unfold numR; rw [← hx2]; rfl
                     have hrr := HIRR.out
                     rw [hnr, if_neg Bool.false_ne_true] at hrr
                     subst hrr
                     clear hnr hx2
                     generalize hexR (peekOf rs (i + 2 + k)) = d at *
                     go_wp2_with fail
                     refine HHH.out.mono ?_
                     rintro e w2 ⟨rfl, rfl⟩
                     go_wp2_with fail
                     go_ret3
                     exact ⟨rfl, HF.out⟩
                   · rw [if_neg hd] at hx2
                     have HXX := Lib.hid hx2
                     have HP4 : 16 * nn + hexR (peekOf rs (i + 2 + k)) < 16 ^ (k + 1) := by rw [Int.pow_succ]; omega
                     generalize hexR (peekOf rs (i + 2 + k)) = d at *
                     clear hx2
                     have w1 : wrap64 (nn * 16) = nn * 16 := IntWalk.wrap64_in _ (by omega)
                     have w2 : wrap64 (nn * 16 + d) = nn * 16 + d := IntWalk.wrap64_in _ (by omega)
                     go_wp2_with fail
                     refine HHH.out.mono ?_
                     rintro e w2 ⟨rfl, rfl⟩
                     go_wp2_with fail
                     refine HHH.out.mono ?_
                     rintro e w2 ⟨rfl, rfl⟩
                     go_wp2_with fail
                     go_roundg (4 - (k + 1))
                     case measure => omega
                     case rel => exact ⟨k + 1, nn * 16 + d, by omega, by omega, by omega, by omega, by rw [Int.mul_comm nn 16]; exact HP4, by rw [show 4 - (k + 1) = j by omega, Int.mul_comm nn 16]; exact HXX.out, rfl, rfl, rfl, rfl⟩
                 · have hd : hexR (peekOf rs (i + 2 + k)) < 0 := by rw [peek_past hq]; decide
                   rw [if_pos hd] at hx2
                   have hnr : numR rs 4 (i + 2) = (0, i + 2 + k, false) := by unfold numR; rw [← hx2]; rfl
                   have hrr := HIRR.out
                   rw [hnr, if_neg Bool.false_ne_true] at hrr
                   subst hrr
                   clear hnr hx2 hd
                   go_wp2_with fail
                   go_ret3
                   exact ⟨rfl, HF.out⟩
               · obtain rfl : k = 4 := by omega
                 have hx2 := HX.out
                 rw [Nat.sub_self, hexF_zero] at hx2
                 have HSS := Lib.hid (HSI.out nn wr)
                 by_cases hsg2 : signR nn = true
                 · have hnr : numR rs 4 (i + 2) = (nn, i + 2 + 4, true) := by unfold numR; rw [← hx2, if_pos rfl, if_pos hsg2]
                   have hrr := HIRR.out
                   rw [hnr, if_pos rfl] at hrr
                   have HRR := Lib.hid hrr.symm
                   rw [show rSign nn = true from hsg2] at HSS
                   clear hrr hnr hx2
                   go_wp2_with fail
                   refine HSS.out.mono ?_
                   rintro e w2 ⟨rfl, rfl⟩
                   go_wp2_with (at_builtin; refine wpList_append_own _ rfl _ _ 79 rfl w.heap.size 3 i3 _ 1 8 Tryz.underlying79 hi3 hz0 hz1 hz2 rfl (by decide) (.slice A6 out.length c6) out.length (out.map (.int .i64)) (by rfl) (HROW.out.alloc _) ⟨wr.heap.size, 0, none⟩ 1 1 [.int .i64 nn] (by rfl) rfl (World.news_of_block (heap_alloc_new wr _)) (by intro u hu; rw [List.mem_singleton] at hu; rw [hu]; rfl) (by unfold maxLen; omega) (by omega) (by simp; omega) ?_; intro v7 w7 hown7 hgr7 _; have F7 := (show Fr (fun j => w.heap.size ≤ j) w w7 from ((HF.out.mono (fun _ _ h => h.elim)).alloc _).trans ((Fr.of_grown hgr7).mono (fun j _ e => (HROW.out.lt j e).1)) (fun _ _ h => h)); have HOWN7 := Lib.hid hown7; have HF7 := Lib.hid (F7.shut (Nat.le_refl _)); clear hown7 hgr7 F7)
                   go_roundg (rs.length + 1 - (i + 2 + 4))
                   case measure => omega
                   case rel => exact ⟨i + 2 + 4, out ++ [nn], rfl, by omega, by omega, by rw [List.length_append]; show out.length + 1 ≤ _; omega, HRR.out, by rw [List.length_append, List.map_append]; exact HOWN7.out, mem_push HOS.out hsg2, HF7.out⟩
                 · have hsf : signR nn = false := by simpa using hsg2
                   have hnr : numR rs 4 (i + 2) = (0, i + 2 + 4 - 1, false) := by unfold numR; rw [← hx2, if_pos rfl, if_neg hsg2]
                   have hrr := HIRR.out
                   rw [hnr, if_neg Bool.false_ne_true] at hrr
                   subst hrr
                   rw [show rSign nn = false from hsf] at HSS
                   clear hnr hx2
                   go_wp2_with fail
                   refine HSS.out.mono ?_
                   rintro e w2 ⟨rfl, rfl⟩
                   go_wp2_with fail
                   go_ret3
                   refine ⟨?_, HF.out⟩
                   show _ = Ending.returned (.tuple #[.string (optS none), .int .i64 ((i + 2 + 4 - 1 : Nat) : Int), .bool false])
                   rw [show ((i + 2 + 4 - 1 : Nat) : Int) = (i : Int) + 2 + 4 - 1 by omega]
                   rfl
            · by_cases hU : peekOf rs (i + 1) = 85
              · skip
                rw [hU] at TU TV
                have hpl := peek_lt (rs := rs) (p := i + 1) (by omega)
                have hrr := iriT_U (rs := rs) (i := i) out h92 hU
                rw [HIR.out] at hrr
                have HIRR := Lib.hid hrr
                clear hrr
                go_wp2_with fail
                refine TU.out.mono ?_
                rintro e w2 ⟨rfl, rfl⟩
                go_wp2_with fail
                refine TV.out.mono ?_
                rintro e w2 ⟨rfl, rfl⟩
                go_wp2_with fail
                go_loopg [8, 10, 11] (8) (fun gk b8 b10 b11 wi => ∃ (k : Nat) (nn : Int), 8 ≤ k + gk ∧ k ≤ 8 ∧ i + 2 + k ≤ rs.length ∧ 0 ≤ nn ∧ nn < 16 ^ k ∧ hexF rs (8 - k) (i + 2 + k) nn = hexF rs 8 (i + 2) 0 ∧ b8 = .int .i64 ((i + 2 + k : Nat) : Int) ∧ b10 = .int .i64 nn ∧ b11 = .int .i64 (k : Int) ∧ wr = wi)
                case atStart => exact ⟨0, 0, by omega, by omega, by omega, by decide, by decide, rfl, rfl, rfl, rfl, rfl⟩
                case round =>
                 obtain ⟨k, nn, hgk, hk, hpk, hn0, hn1, hx, rfl, rfl, rfl, rfl⟩ := hrel
                 have hp16 := pow16 k (by omega)
                 have HX := Lib.hid hx
                 clear hx
                 by_cases hkm : k < 8
                 · obtain ⟨j, hj⟩ : ∃ j, 8 - k = j + 1 := ⟨8 - k - 1, by omega⟩
                   have hx2 := HX.out
                   rw [hj, hexF_succ] at hx2
                   by_cases hq : i + 2 + k < rs.length
                   · have cq := HSW.out.cell hq
                     have HHH := Lib.hid (HH.out (peekOf rs (i + 2 + k)) wr)
                     have hdb := hexR_le (peekOf rs (i + 2 + k))
                     by_cases hd : hexR (peekOf rs (i + 2 + k)) < 0
                     · rw [if_pos hd] at hx2
                       have hnr : numR rs 8 (i + 2) = (0, i + 2 + k, false) := by unfold numR; rw [← hx2]; rfl
                       have hrr := HIRR.out
                       rw [hnr, if_neg Bool.false_ne_true] at hrr
                       subst hrr
                       clear hnr hx2
                       generalize hexR (peekOf rs (i + 2 + k)) = d at *
                       go_wp2_with fail
                       refine HHH.out.mono ?_
                       rintro e w2 ⟨rfl, rfl⟩
                       go_wp2_with fail
                       go_ret3
                       exact ⟨rfl, HF.out⟩
                     · rw [if_neg hd] at hx2
                       have HXX := Lib.hid hx2
                       have HP4 : 16 * nn + hexR (peekOf rs (i + 2 + k)) < 16 ^ (k + 1) := by rw [Int.pow_succ]; omega
                       generalize hexR (peekOf rs (i + 2 + k)) = d at *
                       clear hx2
                       have w1 : wrap64 (nn * 16) = nn * 16 := IntWalk.wrap64_in _ (by omega)
                       have w2 : wrap64 (nn * 16 + d) = nn * 16 + d := IntWalk.wrap64_in _ (by omega)
                       go_wp2_with fail
                       refine HHH.out.mono ?_
                       rintro e w2 ⟨rfl, rfl⟩
                       go_wp2_with fail
                       refine HHH.out.mono ?_
                       rintro e w2 ⟨rfl, rfl⟩
                       go_wp2_with fail
                       go_roundg (8 - (k + 1))
                       case measure => omega
                       case rel => exact ⟨k + 1, nn * 16 + d, by omega, by omega, by omega, by omega, by rw [Int.mul_comm nn 16]; exact HP4, by rw [show 8 - (k + 1) = j by omega, Int.mul_comm nn 16]; exact HXX.out, rfl, rfl, rfl, rfl⟩
                   · have hd : hexR (peekOf rs (i + 2 + k)) < 0 := by rw [peek_past hq]; decide
                     rw [if_pos hd] at hx2
                     have hnr : numR rs 8 (i + 2) = (0, i + 2 + k, false) := by unfold numR; rw [← hx2]; rfl
                     have hrr := HIRR.out
                     rw [hnr, if_neg Bool.false_ne_true] at hrr
                     subst hrr
                     clear hnr hx2 hd
                     go_wp2_with fail
                     go_ret3
                     exact ⟨rfl, HF.out⟩
                 · obtain rfl : k = 8 := by omega
                   have hx2 := HX.out
                   rw [Nat.sub_self, hexF_zero] at hx2
                   have HSS := Lib.hid (HSI.out nn wr)
                   by_cases hsg2 : signR nn = true
                   · have hnr : numR rs 8 (i + 2) = (nn, i + 2 + 8, true) := by unfold numR; rw [← hx2, if_pos rfl, if_pos hsg2]
                     have hrr := HIRR.out
                     rw [hnr, if_pos rfl] at hrr
                     have HRR := Lib.hid hrr.symm
                     rw [show rSign nn = true from hsg2] at HSS
                     clear hrr hnr hx2
                     go_wp2_with fail
                     refine HSS.out.mono ?_
                     rintro e w2 ⟨rfl, rfl⟩
                     go_wp2_with (at_builtin; refine wpList_append_own _ rfl _ _ 79 rfl w.heap.size 3 i3 _ 1 8 Tryz.underlying79 hi3 hz0 hz1 hz2 rfl (by decide) (.slice A6 out.length c6) out.length (out.map (.int .i64)) (by rfl) (HROW.out.alloc _) ⟨wr.heap.size, 0, none⟩ 1 1 [.int .i64 nn] (by rfl) rfl (World.news_of_block (heap_alloc_new wr _)) (by intro u hu; rw [List.mem_singleton] at hu; rw [hu]; rfl) (by unfold maxLen; omega) (by omega) (by simp; omega) ?_; intro v7 w7 hown7 hgr7 _; have F7 := (show Fr (fun j => w.heap.size ≤ j) w w7 from ((HF.out.mono (fun _ _ h => h.elim)).alloc _).trans ((Fr.of_grown hgr7).mono (fun j _ e => (HROW.out.lt j e).1)) (fun _ _ h => h)); have HOWN7 := Lib.hid hown7; have HF7 := Lib.hid (F7.shut (Nat.le_refl _)); clear hown7 hgr7 F7)
                     go_roundg (rs.length + 1 - (i + 2 + 8))
                     case measure => omega
                     case rel => exact ⟨i + 2 + 8, out ++ [nn], rfl, by omega, by omega, by rw [List.length_append]; show out.length + 1 ≤ _; omega, HRR.out, by rw [List.length_append, List.map_append]; exact HOWN7.out, mem_push HOS.out hsg2, HF7.out⟩
                   · have hsf : signR nn = false := by simpa using hsg2
                     have hnr : numR rs 8 (i + 2) = (0, i + 2 + 8 - 1, false) := by unfold numR; rw [← hx2, if_pos rfl, if_neg hsg2]
                     have hrr := HIRR.out
                     rw [hnr, if_neg Bool.false_ne_true] at hrr
                     subst hrr
                     rw [show rSign nn = false from hsf] at HSS
                     clear hnr hx2
                     go_wp2_with fail
                     refine HSS.out.mono ?_
                     rintro e w2 ⟨rfl, rfl⟩
                     go_wp2_with fail
                     go_ret3
                     refine ⟨?_, HF.out⟩
                     show _ = Ending.returned (.tuple #[.string (optS none), .int .i64 ((i + 2 + 8 - 1 : Nat) : Int), .bool false])
                     rw [show ((i + 2 + 8 - 1 : Nat) : Int) = (i : Int) + 2 + 8 - 1 by omega]
                     rfl
              · have hrr := (iriT_no (rs := rs) (i := i) out h92 hu hU).symm.trans HIR.out
                subst hrr
                rw [decide_eq_false hu] at TU
                rw [decide_eq_false hU] at TV
                go_wp2_with fail
                refine TU.out.mono ?_
                rintro e w2 ⟨rfl, rfl⟩
                go_wp2_with fail
                refine TV.out.mono ?_
                rintro e w2 ⟨rfl, rfl⟩
                go_wp2_with fail
                go_ret3
                exact ⟨rfl, HF.out⟩
          · have HRR := Lib.hid ((iriT_go (rs := rs) (i := i) out hil h10 h62 h92).symm.trans HIR.out)
            have b62 : (peekOf rs i != 62) = true := by simpa using h62
            have b10 : (peekOf rs i != 10) = true := by simpa using h10
            have b92 : (peekOf rs i != 92) = true := by simpa using h92
            generalize peekOf rs i = r at *
            go_wp2_with (at_builtin; refine wpList_append_own _ rfl _ _ 79 rfl w.heap.size 3 i3 _ 1 8 Tryz.underlying79 hi3 hz0 hz1 hz2 rfl (by decide) (.slice A6 out.length c6) out.length (out.map (.int .i64)) (by rfl) (HROW.out.alloc _) ⟨wr.heap.size, 0, none⟩ 1 1 [.int .i64 r] (by rfl) rfl (World.news_of_block (heap_alloc_new wr _)) (by intro u hu; rw [List.mem_singleton] at hu; rw [hu]; rfl) (by unfold maxLen; omega) (by omega) (by simp; omega) ?_; intro v7 w7 hown7 hgr7 _; have F7 := (show Fr (fun j => w.heap.size ≤ j) w w7 from ((HF.out.mono (fun _ _ h => h.elim)).alloc _).trans ((Fr.of_grown hgr7).mono (fun j _ e => (HROW.out.lt j e).1)) (fun _ _ h => h)); have HOWN7 := Lib.hid hown7; have HF7 := Lib.hid (F7.shut (Nat.le_refl _)); clear hown7 hgr7 F7)
            go_roundg (rs.length + 1 - (i + 1))
            case measure => omega
            case rel => exact ⟨i + 1, out ++ [r], rfl, by omega, by omega, by rw [List.length_append]; show out.length + 1 ≤ _; omega, HRR.out, by rw [List.length_append, List.map_append]; exact HOWN7.out, mem_push HOS.out hsg, HF7.out⟩
    · have hrr := (iriT_end (rs := rs) (i := i) out (fun h => hil h.1)).symm.trans HIR.out
      subst hrr
      rw [peek_past hil] at TE
      go_wp2_with fail
      refine TE.out.mono ?_
      rintro e w2 ⟨rfl, rfl⟩
      go_wp2_with fail
      go_ret3
      exact ⟨rfl, HF.out⟩
 · rw [if_neg hp0] at hres
   rw [decide_eq_false hp0] at S0
   subst hres
   go_enter Tryz.func88, Tryz.ntmps88
   go_wp2_with fail
   refine S0.out.mono ?_
   rintro e w1 ⟨rfl, rfl⟩
   go_wp2_with fail
   go_ret3
   exact ⟨rfl, Fr.refl _ _⟩

def stdS : ByteArray := ⟨#[9, 10, 13, 8, 12, 34, 92]⟩
def letS : ByteArray := ⟨#[116, 110, 114, 98, 102, 34, 92]⟩
/-- The letter that stands for a sign; 0: none. -/
def letR (m : Int) : Int := if m = 9 then 116 else if m = 10 then 110 else if m = 13 then 114 else if m = 8 then 98 else if m = 12 then 102 else if m = 34 then 34 else if m = 92 then 92 else 0
theorem letR_le (m : Int) : 0 ≤ letR m ∧ letR m ≤ 255 := by
 unfold letR
 (repeat' split) <;> omega
theorem std_at : ∀ j : Fin 7, letR (byteAt stdS j) = byteAt letS j ∧ 0 < byteAt letS j := by decide
theorem std_none (n : Int) (h : ∀ j, j < 7 → ¬ n = byteAt stdS j) : letR n = 0 := by
 have a0 := h 0 (by decide); have a1 := h 1 (by decide); have a2 := h 2 (by decide); have a3 := h 3 (by decide); have a4 := h 4 (by decide); have a5 := h 5 (by decide); have a6 := h 6 (by decide)
 rw [show byteAt stdS 0 = 9 from by decide] at a0
 rw [show byteAt stdS 1 = 10 from by decide] at a1
 rw [show byteAt stdS 2 = 13 from by decide] at a2
 rw [show byteAt stdS 3 = 8 from by decide] at a3
 rw [show byteAt stdS 4 = 12 from by decide] at a4
 rw [show byteAt stdS 5 = 34 from by decide] at a5
 rw [show byteAt stdS 6 = 92 from by decide] at a6
 unfold letR
 rw [if_neg a0, if_neg a1, if_neg a2, if_neg a3, if_neg a4, if_neg a5, if_neg a6]

theorem rlet_any (n : Int) (w : World) : Calls Tryz.prog 115 #[.int .i64 n] w fun e w' => e = .returned (.int .u8 (letR n)) ∧ w = w' := by
 obtain ⟨res, hres⟩ : ∃ x, x = letR n := ⟨_, rfl⟩
 rw [← hres]
 have HR := Lib.hid hres
 clear hres
 go_enter Tryz.func115, Tryz.ntmps115
 go_wp2_with fail
 go_loopg [5] (7) (fun g a wr => ∃ j : Nat, 7 ≤ j + g ∧ j ≤ 7 ∧ a = .int .i64 (j : Int) ∧ w = wr ∧ ∀ k, k < j → ¬ n = byteAt stdS k)
 case atStart => exact ⟨0, by omega, by omega, rfl, rfl, fun k hk => absurd hk (Nat.not_lt_zero _)⟩
 case round =>
  obtain ⟨j, hg, hj, rfl, rfl, hno⟩ := hrel
  have HNO := Lib.hid hno
  clear hno
  by_cases hj7 : j < 7
  · have h1 : ∀ w, (Instr.index 9 (.string ⟨#[9, 10, 13, 8, 12, 34, 92]⟩) (.int .i64 (j : Int))).run Tryz.prog w = .ok (.int .u8 (byteAt stdS j)) w := fun w => run_index_at (s := stdS) hj7 w
    have h2 : ∀ w, (Instr.index 9 (.string ⟨#[116, 110, 114, 98, 102, 34, 92]⟩) (.int .i64 (j : Int))).run Tryz.prog w = .ok (.int .u8 (byteAt letS j)) w := fun w => run_index_at (s := letS) hj7 w
    have b1 := byteAt_le stdS j
    have HAT := Lib.hid (std_at ⟨j, hj7⟩)
    have HJ := Lib.hid (show ∀ k, k < j + 1 → ¬ n = byteAt stdS j → ¬ n = byteAt stdS k from fun k hk e1 => by
     by_cases h3 : k < j
     · exact HNO.out k h3
     · obtain rfl : k = j := by omega
       exact e1)
    generalize byteAt stdS j = k1 at *
    generalize byteAt letS j = k2 at *
    by_cases e1 : n = k1
    · subst e1
      have hr : res = k2 := by rw [HR.out]; exact HAT.out.1
      subst hr
      go_wp2_with fail
      go_ret
      exact ⟨rfl, rfl⟩
    · have be1 : (n == k1) = false := by simpa using e1
      go_wp2_with fail
      go_roundg (7 - (j + 1))
      case measure => omega
      case rel => exact ⟨j + 1, by omega, by omega, rfl, rfl, fun k hk => HJ.out k hk e1⟩
  · obtain rfl : j = 7 := by omega
    have hr : res = 0 := by rw [HR.out]; exact std_none n (fun k hk => HNO.out k hk)
    subst hr
    go_wp2_with fail
    go_ret
    exact ⟨rfl, rfl⟩

/-- The last sign below m that a letter stands for. -/
def plF (c : Int) : Nat → Int
 | 0 => -1
 | m + 1 => if letR (m : Int) ≠ 0 ∧ letR (m : Int) = c then (m : Int) else plF c m
def plR (c : Int) : Int := if c = 39 then 39 else plF c 160
theorem plF_none (c : Int) (h : c ≠ 116 ∧ c ≠ 110 ∧ c ≠ 114 ∧ c ≠ 98 ∧ c ≠ 102 ∧ c ≠ 34 ∧ c ≠ 92) : ∀ m, plF c m = -1
 | 0 => rfl
 | m + 1 => by
  unfold plF
  rw [if_neg, plF_none c h m]
  rintro ⟨h1, h2⟩
  unfold letR at h1 h2
  repeat' split at h2
  all_goals first | (exact absurd h2.symm (by omega)) | (simp_all)
theorem plR_esc (c : Int) : plR c = (match escOf c with | some v => v | none => -1) := by
 by_cases h : c = 116 ∨ c = 110 ∨ c = 114 ∨ c = 98 ∨ c = 102 ∨ c = 34 ∨ c = 92 ∨ c = 39
 · rcases h with h | h | h | h | h | h | h | h <;> subst h <;> decide
 · unfold plR
   rw [if_neg (by omega), plF_none c (by omega)]
   unfold escOf
   rw [if_neg (by omega), if_neg (by omega), if_neg (by omega), if_neg (by omega), if_neg (by omega), if_neg (by omega), if_neg (by omega), if_neg (by omega)]
theorem plF_le (c : Int) : ∀ m : Nat, -1 ≤ plF c m ∧ plF c m < (m : Int)
 | 0 => by unfold plF; omega
 | m + 1 => by
  have := plF_le c m
  unfold plF
  split <;> omega

/-- The signs that are told; none: no row. -/
def outOf : Option (List Int) → List Int
 | none => []
 | some l => l
def RQPost (w : World) (qr : Option (List Int) × Nat) (e : Ending) (w' : World) : Prop :=
 (∃ A c, e = .returned (.tuple #[.slice A (outOf qr.1).length c, .int .i64 (qr.2 : Int), .bool qr.1.isSome]) ∧ w'.ownsRow w.heap.size 3 1 (.slice A (outOf qr.1).length c) (outOf qr.1).length ((outOf qr.1).map (.int .i64))) ∧ Fr (fun _ => False) w w'
theorem escT_some {rs : List Int} {p : Nat} {v : Int} (h : escOf (peekOf rs p) = some v) : escT rs p = (v, p + 1, true) := by unfold escT; rw [h]
theorem escT_u {rs : List Int} {p : Nat} (h : peekOf rs p = 117) : escT rs p = numR rs 4 (p + 1) := by
 unfold escT
 rw [h, show escOf 117 = none from rfl]
 rfl
theorem escT_U {rs : List Int} {p : Nat} (h : peekOf rs p = 85) : escT rs p = numR rs 8 (p + 1) := by
 unfold escT
 rw [h, show escOf 85 = none from rfl]
 rfl
theorem escT_no {rs : List Int} {p : Nat} (h : escOf (peekOf rs p) = none) (h1 : ¬ peekOf rs p = 117) (h2 : ¬ peekOf rs p = 85) : escT rs p = (0, p, false) := by
 unfold escT
 rw [h]
 dsimp only
 rw [if_neg h1, if_neg h2]

theorem rquoted_any (g c p : Nat) (rs : List Int) (w : World) (hl : rs.length ≤ 8100) (hv : ∀ r, r ∈ rs → signR r = true) (hp : p ≤ rs.length) (h : Ls w g c rs) :
    Calls Tryz.prog 90 #[.slice (some ⟨g, 0, none⟩) rs.length c, .int .i64 (p : Int)] w (RQPost w (quotR rs p)) := by
 obtain ⟨i3, hi3, hz0, hz1, hz2⟩ := info_parts info3b
 obtain ⟨res, hres⟩ : ∃ x, x = quotR rs p := ⟨_, rfl⟩
 rw [← hres]
 unfold quotR at hres
 have HLT := Lib.hid (fun n w1 => rlet_any n w1)
 have HH := Lib.hid (fun n w1 => rhex_any n w1)
 have HSI := Lib.hid (fun n w1 => rsign_any n w1)
 have HS := Lib.hid h
 have hcap := h.cap
 have HSG := Lib.hid (fun i hi => sign_peek hv (i := i) hi)
 have HV0 := Lib.hid (show ∀ r, r ∈ rs → 0 ≤ r from fun r hr => ((signR_iff r).1 (hv r hr)).1)
 clear h
 by_cases hp0 : peekOf rs p = 34
 · rw [if_pos hp0] at hres
   have HRES := Lib.hid hres
   have hplt := peek_lt (rs := rs) (p := p) (by omega)
   have c0 := HS.out.cell hplt
   rw [hp0] at c0
   have hdge : decide (rs.length ≤ p) = false := decide_eq_false (by omega)
   clear hres hp0
   go_enter Tryz.func90, Tryz.ntmps90
   go_wp2_with fail
   clear c0
   go_loopg [7, 8] (rs.length + 1) (fun gk a7 a8 wr => ∃ (i : Nat) (out : List Int), a8 = .int .i64 (i : Int) ∧ rs.length + 1 ≤ i + gk ∧ i ≤ rs.length ∧ out.length ≤ i ∧ quotT rs i out = res ∧ wr.ownsRow w.heap.size 3 1 a7 out.length (out.map (.int .i64)) ∧ Fr (fun _ => False) w wr)
   case atStart => exact ⟨p + 1, [], rfl, by omega, by omega, Nat.zero_le _, HRES.out.symm, World.ownsRow_nil _ _ _ _, Fr.refl _ _⟩
   case round =>
    obtain ⟨i, out, rfl, hg, hi, hol, hir, hrow, hf⟩ := hrel
    have HIR := Lib.hid hir
    have HF := Lib.hid hf
    have HROW := Lib.hid hrow
    have hsz := hf.size
    have HSW := Lib.hid (HS.out.frF hf)
    obtain ⟨A6, c6, hv6⟩ := row_shape hrow
    subst hv6
    clear hir hrow hf
    by_cases hil : i < rs.length
    · have c0 := HSW.out.cell hil
      by_cases h34 : peekOf rs i = 34
      · have hrr := (quotT_shut (rs := rs) (i := i) out h34).symm.trans HIR.out
        subst hrr
        rw [h34] at c0
        go_wp2_with fail
        go_ret3
        exact ⟨⟨A6, c6, rfl, HROW.out⟩, HF.out⟩
      · by_cases h10 : peekOf rs i = 10
        · have hrr := (quotT_end (rs := rs) (i := i) HV0.out out (by omega)).symm.trans HIR.out
          subst hrr
          rw [h10] at c0
          go_wp2_with fail
          go_ret3
          exact ⟨⟨none, 0, rfl, World.ownsRow_nil _ _ _ _⟩, HF.out⟩
        · by_cases h13 : peekOf rs i = 13
          · have hrr := (quotT_end (rs := rs) (i := i) HV0.out out (by omega)).symm.trans HIR.out
            subst hrr
            rw [h13] at c0
            go_wp2_with fail
            go_ret3
            exact ⟨⟨none, 0, rfl, World.ownsRow_nil _ _ _ _⟩, HF.out⟩
          · have hsg := HSG.out i hil
            by_cases h92 : peekOf rs i = 92
            · rw [h92] at c0
              by_cases hil2 : i + 1 < rs.length
              · have c1 := HSW.out.cell hil2
                have hpl := plR_esc (peekOf rs (i + 1))
                have HESS := Lib.hid (fun v h => escT_some (rs := rs) (p := i + 1) (v := v) h)
                have HESU := Lib.hid (fun h => escT_u (rs := rs) (p := i + 1) h)
                have HESV := Lib.hid (fun h => escT_U (rs := rs) (p := i + 1) h)
                have HESN := Lib.hid (fun h h1 h2 => escT_no (rs := rs) (p := i + 1) h h1 h2)
                have hqo := quotT_ok (rs := rs) (i := i) out h92
                have hqn := quotT_no (rs := rs) (i := i) out h92
                rw [HIR.out] at hqo hqn
                have HQO := Lib.hid hqo
                have HQN := Lib.hid hqn
                have HPL := Lib.hid hpl
                clear hpl hqo hqn
                generalize peekOf rs (i + 1) = ch at *
                go_wp2_with fail
                go_loopg [11, 12] (160) (fun gk b11 b12 wi => ∃ (m : Nat), 160 ≤ m + gk ∧ m ≤ 160 ∧ b11 = .int .i64 (plF ch m) ∧ b12 = .int .i64 (m : Int) ∧ wr = wi)
                case atStart => exact ⟨0, by omega, by omega, rfl, rfl, rfl⟩
                case round =>
                 obtain ⟨m, hgm, hm, rfl, rfl, rfl⟩ := hrel
                 have hple := plF_le ch m
                 by_cases hm160 : m < 160
                 · have HL := Lib.hid (HLT.out (m : Int) wr)
                   have hlb := letR_le (m : Int)
                   have HPF := Lib.hid (show plF ch (m + 1) = if letR (m : Int) ≠ 0 ∧ letR (m : Int) = ch then (m : Int) else plF ch m from rfl)
                   generalize letR (m : Int) = lt at *
                   generalize hpm : plF ch m = pm at *
                   by_cases hlt : lt ≠ 0 ∧ lt = ch
                   · have hpf := HPF.out
                     rw [if_pos hlt] at hpf
                     obtain ⟨l1, l2⟩ := hlt
                     subst l2
                     have b1 : (lt != 0) = true := by simpa using l1
                     have b1' : (lt == 0) = false := by simpa using l1
                     have b3 : (lt == lt) = true := by simp
                     go_wp2_with fail
                     refine HL.out.mono ?_
                     rintro e w2 ⟨rfl, rfl⟩
                     go_wp2_with fail
                     go_roundg (160 - (m + 1))
                     case measure => omega
                     case rel => exact ⟨m + 1, by omega, by omega, by rw [hpf], rfl, rfl⟩
                   · have hpf := HPF.out
                     rw [if_neg hlt] at hpf
                     by_cases l1 : lt = 0
                     · subst l1
                       go_wp2_with fail
                       refine HL.out.mono ?_
                       rintro e w2 ⟨rfl, rfl⟩
                       go_wp2_with fail
                       go_roundg (160 - (m + 1))
                       case measure => omega
                       case rel => exact ⟨m + 1, by omega, by omega, by rw [hpf], rfl, rfl⟩
                     · have b1 : (lt != 0) = true := by simpa using l1
                       have b2 : (lt == ch) = false := by simpa using fun e => hlt ⟨l1, e⟩
                       have b1' : (lt == 0) = false := by simpa using l1
                       have hne : ¬ lt = ch := fun e => hlt ⟨l1, e⟩
                       go_wp2_with fail
                       refine HL.out.mono ?_
                       rintro e w2 ⟨rfl, rfl⟩
                       go_wp2_with fail
                       go_roundg (160 - (m + 1))
                       case measure => omega
                       case rel => exact ⟨m + 1, by omega, by omega, by rw [hpf], rfl, rfl⟩
                 · obtain rfl : m = 160 := by omega
                   have hpl2 := HPL.out
                   unfold plR at hpl2
                   by_cases h39 : ch = 39
                   · subst h39
                     have hes := HESS.out 39 rfl
                     have hq := HQO.out (by rw [hes])
                     rw [hes] at hq
                     have HRR := Lib.hid hq.symm
                     clear hq hes hpl2
                     generalize plF 39 160 = pm at *
                     go_wp2_with (at_builtin; refine wpList_append_own _ rfl _ _ 79 rfl w.heap.size 3 i3 _ 1 8 Tryz.underlying79 hi3 hz0 hz1 hz2 rfl (by decide) (.slice A6 out.length c6) out.length (out.map (.int .i64)) (by rfl) (HROW.out.alloc _) ⟨wr.heap.size, 0, none⟩ 1 1 [.int .i64 39] (by rfl) rfl (World.news_of_block (heap_alloc_new wr _)) (by intro u hu; rw [List.mem_singleton] at hu; rw [hu]; rfl) (by unfold maxLen; omega) (by omega) (by simp; omega) ?_; intro v7 w7 hown7 hgr7 _; have F7 := (show Fr (fun j => w.heap.size ≤ j) w w7 from ((HF.out.mono (fun _ _ h => h.elim)).alloc _).trans ((Fr.of_grown hgr7).mono (fun j _ e => (HROW.out.lt j e).1)) (fun _ _ h => h)); have HOWN7 := Lib.hid hown7; have HF7 := Lib.hid (F7.shut (Nat.le_refl _)); clear hown7 hgr7 F7)
                     go_roundg (rs.length + 1 - (i + 1 + 1))
                     case measure => omega
                     case rel => exact ⟨i + 1 + 1, out ++ [39], rfl, by omega, by omega, by rw [List.length_append]; show out.length + 1 ≤ _; omega, HRR.out, by rw [List.length_append, List.map_append]; exact HOWN7.out, HF7.out⟩
                   · rw [if_neg h39] at hpl2
                     have b39 : (ch == 39) = false := by simpa using h39
                     cases hes0 : escOf ch with
                     | some v =>
                      rw [hes0] at hpl2
                      dsimp only at hpl2
                      have hv0 : 0 ≤ v := by
                       have := HESS.out v hes0
                       have h3 := escT_ok (rs := rs) (p := i + 1) (by rw [this])
                       rw [this] at h3
                       exact h3.2.2.1
                      have hes := HESS.out v hes0
                      have hq := HQO.out (by rw [hes])
                      rw [hes] at hq
                      have HRR := Lib.hid hq.symm
                      clear hq hes hes0
                      rw [hpl2] at hple ⊢
                      clear hpl2
                      go_wp2_with (at_builtin; refine wpList_append_own _ rfl _ _ 79 rfl w.heap.size 3 i3 _ 1 8 Tryz.underlying79 hi3 hz0 hz1 hz2 rfl (by decide) (.slice A6 out.length c6) out.length (out.map (.int .i64)) (by rfl) (HROW.out.alloc _) ⟨wr.heap.size, 0, none⟩ 1 1 [.int .i64 v] (by rfl) rfl (World.news_of_block (heap_alloc_new wr _)) (by intro u hu; rw [List.mem_singleton] at hu; rw [hu]; rfl) (by unfold maxLen; omega) (by omega) (by simp; omega) ?_; intro v7 w7 hown7 hgr7 _; have F7 := (show Fr (fun j => w.heap.size ≤ j) w w7 from ((HF.out.mono (fun _ _ h => h.elim)).alloc _).trans ((Fr.of_grown hgr7).mono (fun j _ e => (HROW.out.lt j e).1)) (fun _ _ h => h)); have HOWN7 := Lib.hid hown7; have HF7 := Lib.hid (F7.shut (Nat.le_refl _)); clear hown7 hgr7 F7)
                      go_roundg (rs.length + 1 - (i + 1 + 1))
                      case measure => omega
                      case rel => exact ⟨i + 1 + 1, out ++ [v], rfl, by omega, by omega, by rw [List.length_append]; show out.length + 1 ≤ _; omega, HRR.out, by rw [List.length_append, List.map_append]; exact HOWN7.out, HF7.out⟩
                     | none =>
                      rw [hes0] at hpl2
                      dsimp only at hpl2
                      rw [hpl2] at hple ⊢
                      clear hpl2 hple
                      by_cases hu : ch = 117
                      · subst hu
                        have hes := HESU.out rfl
                        have hqo := HQO.out
                        have hqn := HQN.out
                        rw [hes] at hqo hqn
                        have HQ1 := Lib.hid hqo
                        have HQ2 := Lib.hid hqn
                        clear hes hqo hqn hes0
                        go_wp2_with fail
                        go_loopg [8, 15, 16] (4) (fun gk b8 b10 b11 wi => ∃ (k : Nat) (nn : Int), 4 ≤ k + gk ∧ k ≤ 4 ∧ i + 2 + k ≤ rs.length ∧ 0 ≤ nn ∧ nn < 16 ^ k ∧ hexF rs (4 - k) (i + 2 + k) nn = hexF rs 4 (i + 1 + 1) 0 ∧ b8 = .int .i64 ((i + 2 + k : Nat) : Int) ∧ b10 = .int .i64 nn ∧ b11 = .int .i64 (k : Int) ∧ wr = wi)
                        case atStart => exact ⟨0, 0, by omega, by omega, by omega, by decide, by decide, rfl, rfl, rfl, rfl, rfl⟩
                        case round =>
                         obtain ⟨k, nn, hgk, hk, hpk, hn0, hn1, hx, rfl, rfl, rfl, rfl⟩ := hrel
                         have hp16 := pow16 k (by omega)
                         have HX := Lib.hid hx
                         clear hx
                         by_cases hkm : k < 4
                         · obtain ⟨j, hj⟩ : ∃ j, 4 - k = j + 1 := ⟨4 - k - 1, by omega⟩
                           have hx2 := HX.out
                           rw [hj, hexF_succ] at hx2
                           by_cases hq : i + 2 + k < rs.length
                           · have cq := HSW.out.cell hq
                             have HHH := Lib.hid (HH.out (peekOf rs (i + 2 + k)) wr)
                             have hdb := hexR_le (peekOf rs (i + 2 + k))
                             by_cases hd : hexR (peekOf rs (i + 2 + k)) < 0
                             · rw [if_pos hd] at hx2
                               have hnr : numR rs 4 (i + 1 + 1) = (0, i + 2 + k, false) := by unfold numR; rw [← hx2]; rfl
                               have hrr := HQ2.out
                               rw [hnr] at hrr
                               have hrr := hrr rfl
                               subst hrr
                               clear hnr hx2
                               generalize hexR (peekOf rs (i + 2 + k)) = d at *
                               go_wp2_with fail
                               refine HHH.out.mono ?_
                               rintro e w2 ⟨rfl, rfl⟩
                               go_wp2_with fail
                               go_ret3
                               exact ⟨⟨none, 0, rfl, World.ownsRow_nil _ _ _ _⟩, HF.out⟩
                             · rw [if_neg hd] at hx2
                               have HXX := Lib.hid hx2
                               have HP4 : 16 * nn + hexR (peekOf rs (i + 2 + k)) < 16 ^ (k + 1) := by rw [Int.pow_succ]; omega
                               generalize hexR (peekOf rs (i + 2 + k)) = d at *
                               clear hx2
                               have w1 : wrap64 (nn * 16) = nn * 16 := IntWalk.wrap64_in _ (by omega)
                               have w2 : wrap64 (nn * 16 + d) = nn * 16 + d := IntWalk.wrap64_in _ (by omega)
                               go_wp2_with fail
                               refine HHH.out.mono ?_
                               rintro e w2 ⟨rfl, rfl⟩
                               go_wp2_with fail
                               refine HHH.out.mono ?_
                               rintro e w2 ⟨rfl, rfl⟩
                               go_wp2_with fail
                               go_roundg (4 - (k + 1))
                               case measure => omega
                               case rel => exact ⟨k + 1, nn * 16 + d, by omega, by omega, by omega, by omega, by rw [Int.mul_comm nn 16]; exact HP4, by rw [show 4 - (k + 1) = j by omega, Int.mul_comm nn 16]; exact HXX.out, rfl, rfl, rfl, rfl⟩
                           · have hd : hexR (peekOf rs (i + 2 + k)) < 0 := by rw [peek_past hq]; decide
                             rw [if_pos hd] at hx2
                             have hnr : numR rs 4 (i + 1 + 1) = (0, i + 2 + k, false) := by unfold numR; rw [← hx2]; rfl
                             have hrr := HQ2.out
                             rw [hnr] at hrr
                             have hrr := hrr rfl
                             subst hrr
                             clear hnr hx2 hd
                             go_wp2_with fail
                             go_ret3
                             exact ⟨⟨none, 0, rfl, World.ownsRow_nil _ _ _ _⟩, HF.out⟩
                         · obtain rfl : k = 4 := by omega
                           have hx2 := HX.out
                           rw [Nat.sub_self, hexF_zero] at hx2
                           have HSS := Lib.hid (HSI.out nn wr)
                           by_cases hsg2 : signR nn = true
                           · have hnr : numR rs 4 (i + 1 + 1) = (nn, i + 2 + 4, true) := by unfold numR; rw [← hx2, if_pos rfl, if_pos hsg2]
                             have hrr := HQ1.out
                             rw [hnr] at hrr
                             have HRR := Lib.hid (hrr rfl).symm
                             rw [show rSign nn = true from hsg2] at HSS
                             clear hrr hnr hx2
                             go_wp2_with fail
                             refine HSS.out.mono ?_
                             rintro e w2 ⟨rfl, rfl⟩
                             go_wp2_with (at_builtin; refine wpList_append_own _ rfl _ _ 79 rfl w.heap.size 3 i3 _ 1 8 Tryz.underlying79 hi3 hz0 hz1 hz2 rfl (by decide) (.slice A6 out.length c6) out.length (out.map (.int .i64)) (by rfl) (HROW.out.alloc _) ⟨wr.heap.size, 0, none⟩ 1 1 [.int .i64 nn] (by rfl) rfl (World.news_of_block (heap_alloc_new wr _)) (by intro u hu; rw [List.mem_singleton] at hu; rw [hu]; rfl) (by unfold maxLen; omega) (by omega) (by simp; omega) ?_; intro v7 w7 hown7 hgr7 _; have F7 := (show Fr (fun j => w.heap.size ≤ j) w w7 from ((HF.out.mono (fun _ _ h => h.elim)).alloc _).trans ((Fr.of_grown hgr7).mono (fun j _ e => (HROW.out.lt j e).1)) (fun _ _ h => h)); have HOWN7 := Lib.hid hown7; have HF7 := Lib.hid (F7.shut (Nat.le_refl _)); clear hown7 hgr7 F7)
                             go_roundg (rs.length + 1 - (i + 2 + 4))
                             case measure => omega
                             case rel => exact ⟨i + 2 + 4, out ++ [nn], rfl, by omega, by omega, by rw [List.length_append]; show out.length + 1 ≤ _; omega, HRR.out, by rw [List.length_append, List.map_append]; exact HOWN7.out, HF7.out⟩
                           · have hsf : signR nn = false := by simpa using hsg2
                             have hnr : numR rs 4 (i + 1 + 1) = (0, i + 2 + 4 - 1, false) := by unfold numR; rw [← hx2, if_pos rfl, if_neg hsg2]
                             have hrr := HQ2.out
                             rw [hnr] at hrr
                             have hrr := hrr rfl
                             subst hrr
                             rw [show rSign nn = false from hsf] at HSS
                             clear hnr hx2
                             go_wp2_with fail
                             refine HSS.out.mono ?_
                             rintro e w2 ⟨rfl, rfl⟩
                             go_wp2_with fail
                             go_ret3
                             refine ⟨⟨none, 0, ?_, World.ownsRow_nil _ _ _ _⟩, HF.out⟩
                             show _ = Ending.returned (.tuple #[.slice none 0 0, .int .i64 ((i + 2 + 4 - 1 : Nat) : Int), .bool false])
                             rw [show ((i + 2 + 4 - 1 : Nat) : Int) = (i : Int) + 2 + 4 - 1 by omega]
                             rfl
                      · by_cases hU : ch = 85
                        · subst hU
                          have hes := HESV.out rfl
                          have hqo := HQO.out
                          have hqn := HQN.out
                          rw [hes] at hqo hqn
                          have HQ1 := Lib.hid hqo
                          have HQ2 := Lib.hid hqn
                          clear hes hqo hqn hes0
                          go_wp2_with fail
                          go_loopg [8, 15, 16] (8) (fun gk b8 b10 b11 wi => ∃ (k : Nat) (nn : Int), 8 ≤ k + gk ∧ k ≤ 8 ∧ i + 2 + k ≤ rs.length ∧ 0 ≤ nn ∧ nn < 16 ^ k ∧ hexF rs (8 - k) (i + 2 + k) nn = hexF rs 8 (i + 1 + 1) 0 ∧ b8 = .int .i64 ((i + 2 + k : Nat) : Int) ∧ b10 = .int .i64 nn ∧ b11 = .int .i64 (k : Int) ∧ wr = wi)
                          case atStart => exact ⟨0, 0, by omega, by omega, by omega, by decide, by decide, rfl, rfl, rfl, rfl, rfl⟩
                          case round =>
                           obtain ⟨k, nn, hgk, hk, hpk, hn0, hn1, hx, rfl, rfl, rfl, rfl⟩ := hrel
                           have hp16 := pow16 k (by omega)
                           have HX := Lib.hid hx
                           clear hx
                           by_cases hkm : k < 8
                           · obtain ⟨j, hj⟩ : ∃ j, 8 - k = j + 1 := ⟨8 - k - 1, by omega⟩
                             have hx2 := HX.out
                             rw [hj, hexF_succ] at hx2
                             by_cases hq : i + 2 + k < rs.length
                             · have cq := HSW.out.cell hq
                               have HHH := Lib.hid (HH.out (peekOf rs (i + 2 + k)) wr)
                               have hdb := hexR_le (peekOf rs (i + 2 + k))
                               by_cases hd : hexR (peekOf rs (i + 2 + k)) < 0
                               · rw [if_pos hd] at hx2
                                 have hnr : numR rs 8 (i + 1 + 1) = (0, i + 2 + k, false) := by unfold numR; rw [← hx2]; rfl
                                 have hrr := HQ2.out
                                 rw [hnr] at hrr
                                 have hrr := hrr rfl
                                 subst hrr
                                 clear hnr hx2
                                 generalize hexR (peekOf rs (i + 2 + k)) = d at *
                                 go_wp2_with fail
                                 refine HHH.out.mono ?_
                                 rintro e w2 ⟨rfl, rfl⟩
                                 go_wp2_with fail
                                 go_ret3
                                 exact ⟨⟨none, 0, rfl, World.ownsRow_nil _ _ _ _⟩, HF.out⟩
                               · rw [if_neg hd] at hx2
                                 have HXX := Lib.hid hx2
                                 have HP4 : 16 * nn + hexR (peekOf rs (i + 2 + k)) < 16 ^ (k + 1) := by rw [Int.pow_succ]; omega
                                 generalize hexR (peekOf rs (i + 2 + k)) = d at *
                                 clear hx2
                                 have w1 : wrap64 (nn * 16) = nn * 16 := IntWalk.wrap64_in _ (by omega)
                                 have w2 : wrap64 (nn * 16 + d) = nn * 16 + d := IntWalk.wrap64_in _ (by omega)
                                 go_wp2_with fail
                                 refine HHH.out.mono ?_
                                 rintro e w2 ⟨rfl, rfl⟩
                                 go_wp2_with fail
                                 refine HHH.out.mono ?_
                                 rintro e w2 ⟨rfl, rfl⟩
                                 go_wp2_with fail
                                 go_roundg (8 - (k + 1))
                                 case measure => omega
                                 case rel => exact ⟨k + 1, nn * 16 + d, by omega, by omega, by omega, by omega, by rw [Int.mul_comm nn 16]; exact HP4, by rw [show 8 - (k + 1) = j by omega, Int.mul_comm nn 16]; exact HXX.out, rfl, rfl, rfl, rfl⟩
                             · have hd : hexR (peekOf rs (i + 2 + k)) < 0 := by rw [peek_past hq]; decide
                               rw [if_pos hd] at hx2
                               have hnr : numR rs 8 (i + 1 + 1) = (0, i + 2 + k, false) := by unfold numR; rw [← hx2]; rfl
                               have hrr := HQ2.out
                               rw [hnr] at hrr
                               have hrr := hrr rfl
                               subst hrr
                               clear hnr hx2 hd
                               go_wp2_with fail
                               go_ret3
                               exact ⟨⟨none, 0, rfl, World.ownsRow_nil _ _ _ _⟩, HF.out⟩
                           · obtain rfl : k = 8 := by omega
                             have hx2 := HX.out
                             rw [Nat.sub_self, hexF_zero] at hx2
                             have HSS := Lib.hid (HSI.out nn wr)
                             by_cases hsg2 : signR nn = true
                             · have hnr : numR rs 8 (i + 1 + 1) = (nn, i + 2 + 8, true) := by unfold numR; rw [← hx2, if_pos rfl, if_pos hsg2]
                               have hrr := HQ1.out
                               rw [hnr] at hrr
                               have HRR := Lib.hid (hrr rfl).symm
                               rw [show rSign nn = true from hsg2] at HSS
                               clear hrr hnr hx2
                               go_wp2_with fail
                               refine HSS.out.mono ?_
                               rintro e w2 ⟨rfl, rfl⟩
                               go_wp2_with (at_builtin; refine wpList_append_own _ rfl _ _ 79 rfl w.heap.size 3 i3 _ 1 8 Tryz.underlying79 hi3 hz0 hz1 hz2 rfl (by decide) (.slice A6 out.length c6) out.length (out.map (.int .i64)) (by rfl) (HROW.out.alloc _) ⟨wr.heap.size, 0, none⟩ 1 1 [.int .i64 nn] (by rfl) rfl (World.news_of_block (heap_alloc_new wr _)) (by intro u hu; rw [List.mem_singleton] at hu; rw [hu]; rfl) (by unfold maxLen; omega) (by omega) (by simp; omega) ?_; intro v7 w7 hown7 hgr7 _; have F7 := (show Fr (fun j => w.heap.size ≤ j) w w7 from ((HF.out.mono (fun _ _ h => h.elim)).alloc _).trans ((Fr.of_grown hgr7).mono (fun j _ e => (HROW.out.lt j e).1)) (fun _ _ h => h)); have HOWN7 := Lib.hid hown7; have HF7 := Lib.hid (F7.shut (Nat.le_refl _)); clear hown7 hgr7 F7)
                               go_roundg (rs.length + 1 - (i + 2 + 8))
                               case measure => omega
                               case rel => exact ⟨i + 2 + 8, out ++ [nn], rfl, by omega, by omega, by rw [List.length_append]; show out.length + 1 ≤ _; omega, HRR.out, by rw [List.length_append, List.map_append]; exact HOWN7.out, HF7.out⟩
                             · have hsf : signR nn = false := by simpa using hsg2
                               have hnr : numR rs 8 (i + 1 + 1) = (0, i + 2 + 8 - 1, false) := by unfold numR; rw [← hx2, if_pos rfl, if_neg hsg2]
                               have hrr := HQ2.out
                               rw [hnr] at hrr
                               have hrr := hrr rfl
                               subst hrr
                               rw [show rSign nn = false from hsf] at HSS
                               clear hnr hx2
                               go_wp2_with fail
                               refine HSS.out.mono ?_
                               rintro e w2 ⟨rfl, rfl⟩
                               go_wp2_with fail
                               go_ret3
                               refine ⟨⟨none, 0, ?_, World.ownsRow_nil _ _ _ _⟩, HF.out⟩
                               show _ = Ending.returned (.tuple #[.slice none 0 0, .int .i64 ((i + 2 + 8 - 1 : Nat) : Int), .bool false])
                               rw [show ((i + 2 + 8 - 1 : Nat) : Int) = (i : Int) + 2 + 8 - 1 by omega]
                               rfl
                        · have hes := HESN.out hes0 hu hU
                          have hq := HQN.out (by rw [hes])
                          rw [hes] at hq
                          subst hq
                          have bu : (ch == 117) = false := by simpa using hu
                          have bU : (ch == 85) = false := by simpa using hU
                          clear hes hes0
                          go_wp2_with fail
                          go_ret3
                          exact ⟨⟨none, 0, rfl, World.ownsRow_nil _ _ _ _⟩, HF.out⟩
              · have hpk := peek_past hil2
                have hes := escT_no (rs := rs) (p := i + 1) (by rw [hpk]; rfl) (by rw [hpk]; decide) (by rw [hpk]; decide)
                have hq := (quotT_no (rs := rs) (i := i) out h92 (by rw [hes])).symm.trans HIR.out
                rw [hes] at hq
                subst hq
                clear hes hpk
                go_wp2_with fail
                go_ret3
                exact ⟨⟨none, 0, rfl, World.ownsRow_nil _ _ _ _⟩, HF.out⟩
            · have HRR := Lib.hid ((quotT_go (rs := rs) (i := i) out hil h34 h92 h10 h13).symm.trans HIR.out)
              have b34 : (peekOf rs i == 34) = false := by simpa using h34
              have b10 : (peekOf rs i == 10) = false := by simpa using h10
              have b13 : (peekOf rs i == 13) = false := by simpa using h13
              have b92 : (peekOf rs i != 92) = true := by simpa using h92
              generalize peekOf rs i = r at *
              go_wp2_with (at_builtin; refine wpList_append_own _ rfl _ _ 79 rfl w.heap.size 3 i3 _ 1 8 Tryz.underlying79 hi3 hz0 hz1 hz2 rfl (by decide) (.slice A6 out.length c6) out.length (out.map (.int .i64)) (by rfl) (HROW.out.alloc _) ⟨wr.heap.size, 0, none⟩ 1 1 [.int .i64 r] (by rfl) rfl (World.news_of_block (heap_alloc_new wr _)) (by intro u hu; rw [List.mem_singleton] at hu; rw [hu]; rfl) (by unfold maxLen; omega) (by omega) (by simp; omega) ?_; intro v7 w7 hown7 hgr7 _; have F7 := (show Fr (fun j => w.heap.size ≤ j) w w7 from ((HF.out.mono (fun _ _ h => h.elim)).alloc _).trans ((Fr.of_grown hgr7).mono (fun j _ e => (HROW.out.lt j e).1)) (fun _ _ h => h)); have HOWN7 := Lib.hid hown7; have HF7 := Lib.hid (F7.shut (Nat.le_refl _)); clear hown7 hgr7 F7)
              go_roundg (rs.length + 1 - (i + 1))
              case measure => omega
              case rel => exact ⟨i + 1, out ++ [r], rfl, by omega, by omega, by rw [List.length_append]; show out.length + 1 ≤ _; omega, HRR.out, by rw [List.length_append, List.map_append]; exact HOWN7.out, HF7.out⟩
    · have hrr := (quotT_end (rs := rs) (i := i) HV0.out out (.inl (peek_past hil))).symm.trans HIR.out
      subst hrr
      go_wp2_with fail
      go_ret3
      exact ⟨⟨none, 0, rfl, World.ownsRow_nil _ _ _ _⟩, HF.out⟩
 · rw [if_neg hp0] at hres
   subst hres
   by_cases hplt : p < rs.length
   · have c0 := HS.out.cell hplt
     have b0 : (peekOf rs p != 34) = true := by simpa using hp0
     generalize peekOf rs p = r at *
     go_enter Tryz.func90, Tryz.ntmps90
     go_wp2_with fail
     go_ret3
     exact ⟨⟨none, 0, rfl, World.ownsRow_nil _ _ _ _⟩, Fr.refl _ _⟩
   · go_enter Tryz.func90, Tryz.ntmps90
     go_wp2_with fail
     go_ret3
     exact ⟨⟨none, 0, rfl, World.ownsRow_nil _ _ _ _⟩, Fr.refl _ _⟩

/-- How many bytes signs have. -/
def wt (l : List Int) : Nat := (encL l).length
theorem strL_wt (l : List Int) : (strL l).size = wt l := rfl
theorem wt_append (a b : List Int) : wt (a ++ b) = wt a + wt b := by
 unfold wt encL
 rw [List.flatMap_append, List.length_append]
theorem wt_one (x : Int) : wt [x] = (Lib.encodeRune x).length := by
 unfold wt encL
 rw [List.flatMap_singleton]
theorem wt_cons (x : Int) (l : List Int) : wt (x :: l) = wt [x] + wt l := wt_append [x] l
theorem wt_pos (x : Int) : 1 ≤ wt [x] ∧ wt [x] ≤ 4 := by
 rw [wt_one]
 have := Lib.encodeRuneZ_length x
 have h : (Lib.encodeRune x).length = (Lib.encodeRuneZ x).length := by unfold Lib.encodeRune; rw [List.length_map]
 omega
theorem wt_at {rs : List Int} {i : Nat} (h : i < rs.length) : wt (rs.drop i) = wt [peekOf rs i] + wt (rs.drop (i + 1)) := by
 rw [List.drop_eq_getElem_cons h, wt_cons]
 unfold peekOf
 rw [if_pos h, List.getD_eq_getElem?_getD, List.getElem?_eq_getElem h]
 rfl
theorem wt_on {rs : List Int} : ∀ (k i : Nat), i + k ≤ rs.length → wt (rs.drop (i + k)) + k ≤ wt (rs.drop i)
 | 0, i, h => Nat.le_refl _
 | k + 1, i, h => by
  have h1 := wt_at (rs := rs) (i := i) (by omega)
  have h2 := wt_on (rs := rs) k (i + 1) (by omega)
  have h3 := wt_pos (peekOf rs i)
  rw [show i + (k + 1) = i + 1 + k by omega]
  omega
theorem wt_drop (rs : List Int) (i : Nat) : wt (rs.drop i) ≤ wt rs := by
 have := wt_append (rs.take i) (rs.drop i)
 rw [List.take_append_drop] at this
 omega
theorem wt_part (rs : List Int) (p q : Nat) : wt (part rs p q) ≤ wt rs := by
 unfold part
 have h1 := wt_append ((rs.drop p).take (q - p)) ((rs.drop p).drop (q - p))
 rw [List.take_append_drop] at h1
 have h2 := wt_drop rs p
 omega
theorem iriT_wt (rs : List Int) : ∀ m i out l e, rs.length - i ≤ m → iriT rs i out = (some l, e) → wt l ≤ wt out + wt (rs.drop i)
 | 0, i, out, l, e, hm, h => by
  rw [iriT_end out (by omega)] at h
  cases h
 | m + 1, i, out, l, e, hm, h => by
  by_cases hil : i < rs.length ∧ peekOf rs i ≠ 10
  · by_cases h62 : peekOf rs i = 62
    · rw [iriT_shut out h62] at h
      injection h with h _
      injection h with h
      subst h
      omega
    · by_cases h92 : peekOf rs i = 92
      · by_cases hu : peekOf rs (i + 1) = 117
        · rw [iriT_u out h92 hu] at h
          by_cases hk : (numR rs 4 (i + 2)).2.2 = true
          · rw [if_pos hk] at h
            have hn := numR_ok hk
            have h1 := iriT_wt rs m (i + 6) _ l e (by omega) h
            rw [wt_append] at h1
            have h2 := wt_on (rs := rs) 6 i (by omega)
            have h3 := wt_pos (numR rs 4 (i + 2)).1
            omega
          · rw [if_neg hk] at h
            cases h
        · by_cases hU : peekOf rs (i + 1) = 85
          · rw [iriT_U out h92 hU] at h
            by_cases hk : (numR rs 8 (i + 2)).2.2 = true
            · rw [if_pos hk] at h
              have hn := numR_ok hk
              have h1 := iriT_wt rs m (i + 10) _ l e (by omega) h
              rw [wt_append] at h1
              have h2 := wt_on (rs := rs) 10 i (by omega)
              have h3 := wt_pos (numR rs 8 (i + 2)).1
              omega
            · rw [if_neg hk] at h
              cases h
          · rw [iriT_no out h92 hu hU] at h
            cases h
      · rw [iriT_go out hil.1 hil.2 h62 h92] at h
        have h1 := iriT_wt rs m (i + 1) _ l e (by omega) h
        rw [wt_append] at h1
        have h2 := wt_at hil.1
        omega
  · rw [iriT_end out hil] at h
    cases h
theorem iriR_wt {rs : List Int} {p e : Nat} {l : List Int} (h : iriR rs p = (some l, e)) : wt l ≤ wt rs := by
 unfold iriR at h
 split at h
 · have h1 := iriT_wt rs _ _ _ l e (Nat.le_refl _) h
   have h2 := wt_drop rs (p + 1)
   have h3 : wt [] = 0 := rfl
   omega
 · cases h
theorem escT_wt {rs : List Int} {p : Nat} (h : (escT rs p).2.2 = true) (hp : 1 ≤ p) : wt [(escT rs p).1] + wt (rs.drop (escT rs p).2.1) ≤ wt (rs.drop (p - 1)) := by
 have hok := escT_ok h
 unfold escT at h hok ⊢
 split at h
 · rename_i v hv
   have hb : wt [v] = 1 := by
    unfold escOf at hv
    (repeat' split at hv) <;> first | (injection hv with hv; subst hv; rfl) | cases hv
   have := wt_on (rs := rs) 2 (p - 1) (by omega)
   rw [show p - 1 + 2 = p + 1 by omega] at this
   try dsimp only
   omega
 · split at h
   · rename_i h1
     rw [if_pos h1] at hok ⊢
     have hn := numR_ok h
     have h2 := wt_on (rs := rs) 6 (p - 1) (by omega)
     have h3 := wt_pos (numR rs 4 (p + 1)).1
     rw [hn.1, show p + 1 + 4 = p - 1 + 6 by omega]
     omega
   · rename_i h1
     rw [if_neg h1] at hok ⊢
     split at h
     · rename_i h2
       rw [if_pos h2] at hok ⊢
       have hn := numR_ok h
       have h2 := wt_on (rs := rs) 10 (p - 1) (by omega)
       have h3 := wt_pos (numR rs 8 (p + 1)).1
       rw [hn.1, show p + 1 + 8 = p - 1 + 10 by omega]
       omega
     · cases h
theorem quotT_wt (rs : List Int) (hv0 : ∀ r, r ∈ rs → 0 ≤ r) : ∀ m i out l e, rs.length - i ≤ m → quotT rs i out = (some l, e) → wt l ≤ wt out + wt (rs.drop i)
 | m, i, out, l, e, hm, h => by
  by_cases hb : peekOf rs i = -1 ∨ peekOf rs i = 10 ∨ peekOf rs i = 13
  · rw [quotT_end hv0 out hb] at h
    cases h
  · have hil : i < rs.length := Classical.byContradiction fun h => hb (.inl (by unfold peekOf; rw [if_neg h]))
    cases m with
    | zero => exact absurd hm (by omega)
    | succ m =>
     by_cases h34 : peekOf rs i = 34
     · rw [quotT_shut out h34] at h
       injection h with h _
       injection h with h
       subst h
       omega
     · by_cases h92 : peekOf rs i = 92
       · cases hk : (escT rs (i + 1)).2.2 with
         | true =>
          rw [quotT_ok out h92 hk] at h
          have he := escT_ok hk
          have h1 := quotT_wt rs hv0 m _ _ l e (by omega) h
          rw [wt_append] at h1
          have h2 := escT_wt hk (Nat.succ_pos _)
          rw [show i + 1 - 1 = i by omega] at h2
          omega
         | false =>
          rw [quotT_no out h92 hk] at h
          cases h
       · rw [quotT_go out hil h34 h92 (fun h => hb (.inr (.inl h))) (fun h => hb (.inr (.inr h)))] at h
         have h1 := quotT_wt rs hv0 m (i + 1) _ l e (by omega) h
         rw [wt_append] at h1
         have h2 := wt_at hil
         omega
theorem quotR_wt {rs : List Int} (hv : ∀ r, r ∈ rs → signR r = true) {p e : Nat} {l : List Int} (h : quotR rs p = (some l, e)) : wt l ≤ wt rs := by
 unfold quotR at h
 split at h
 · have h1 := quotT_wt rs (fun r hr => ((signR_iff r).1 (hv r hr)).1) _ _ _ l e (Nat.le_refl _) h
   have h2 := wt_drop rs (p + 1)
   have h3 : wt [] = 0 := rfl
   omega
 · cases h

end Go.Proofs.YtagchljgmjmlcaaGreatDoor
