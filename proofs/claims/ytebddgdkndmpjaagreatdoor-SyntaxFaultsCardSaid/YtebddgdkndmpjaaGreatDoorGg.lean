/- Split, languages: walked. -/
import Derived.Test.YtebddgdkndmpjaaGreatDoorGe
import Derived.OwnWalk
import Derived.Deep.CutBlock
import Derived.Deep.RegionLawGrows
import Derived.Deep.Cut
import Derived.Deep.CutRange
import Derived.WalkKit
import Derived.WalkLawsBesides
import Derived.WalkSpells
import Derived.Deep.QuietTactic
import Derived.BigRegion
import Derived.BigQuiet
import Derived.Lib.Hide
import Derived.Outline
import Derived.Deep.AppendLies
import Derived.Deep.RegionLaw
import Derived.Deep.RegionWith
import Derived.Deep.RegionHeld3
import Derived.Deep.LoopGhost
import Derived.Deep.DeepFit
import Derived.Laws.ResultCell
import Derived.Laws.RangeAny
import Derived.Deep.MidRow
import Derived.StillTailTactics
import Derived.OpenShut
namespace Go.Proofs.YtebddgdkndmpjaaGreatDoor
set_option linter.unusedVariables false
open Go.RowKit Go

theorem info_parts {P : Program} {t : TypeId} {z : Value} {n b : Nat} (h : (P.info? t).map (fun i => (i.zero, i.size, i.bytes)) = some (some z, n, b)) : ∃ i, P.info? t = some i ∧ i.zero = some z ∧ i.size = n ∧ i.bytes = b := by
  cases hi : P.info? t with
  | none => rw [hi] at h; cases h
  | some i =>
    rw [hi] at h
    simp only [Option.map_some, Option.some.injEq, Prod.mk.injEq] at h
    exact ⟨i, rfl, h.1, h.2.1, h.2.2⟩
theorem info9 : (Tryz.prog.info? 9).map (fun i => (i.zero, i.size, i.bytes)) = some (some (.string ⟨#[]⟩), 1, 16) := by kernel_rfl

theorem indexByte_lt (c : UInt8) : ∀ l : List UInt8, Lib.indexByte l c < (l.length : Int) ∨ Lib.indexByte l c = -1
  | [] => .inr rfl
  | x :: l => by
    unfold Lib.indexByte
    by_cases h : x == c
    · rw [if_pos h]; left; simp
    · rw [if_neg h]
      by_cases h2 : (Lib.indexByte l c == -1) = true
      · rw [if_pos h2]; exact .inr rfl
      · rw [if_neg h2]
        rcases indexByte_lt c l with h3 | h3
        · left; simp; omega
        · simp [h3] at h2

/-- A row's first part. -/
theorem ownsRow_take {w : World} {B e n m c : Nat} {A : Option Addr} {xs : List Value} (h : w.ownsRow B e 1 (.slice A n c) n xs) (hm : m ≤ n) (h0 : 0 < n) : w.ownsRow B e 1 (.slice A m c) m (xs.take m) := by
  refine ⟨by rw [List.length_take, h.1]; omega, ?_⟩
  rcases h.2 with ⟨_, h2⟩ | ⟨g, cap, cur, h1, hb, hg, hc, hm2, hs, ht⟩
  · omega
  · injection h1 with h3 _ h4
    subst h3 h4
    exact .inr ⟨g, c, cur, rfl, hb, hg, by omega, hm2, hs, by rw [← ht, List.take_take]; congr 1; omega⟩

theorem mem_set {α : Type} {l : List α} {i : Nat} {x y : α} (h : y ∈ l.set i x) : y = x ∨ y ∈ l := by
  rcases List.mem_or_eq_of_mem_set h with h | h
  · exact .inr h
  · exact .inl h
theorem split_step {w : World} {B g n c i : Nat} {ts : List ByteArray} {r : ByteArray} (h : w.ownsRow B 9 1 (.slice (some ⟨g, 0, none⟩) n c) n (ts.map .string)) (hts : ∀ t ∈ ts, t.size ≤ 40) (hr : r.size ≤ 40) :
    (w.setCell ⟨g, i, none⟩ (.string r)).ownsRow B 9 1 (.slice (some ⟨g, 0, none⟩) n c) n ((ts.set i r).map .string) ∧ (∀ t ∈ ts.set i r, t.size ≤ 40) ∧ Fr (fun j => j = g) w (w.setCell ⟨g, i, none⟩ (.string r)) := by
  have st := World.ownsRow.stored h i (.string r)
  refine ⟨by rw [List.map_set]; exact st.1, fun t ht => ?_, (Fr.of_grown st.2).mono (fun _ _ e => by injection e with e; exact e.symm)⟩
  rcases mem_set ht with rfl | ht
  · exact hr
  · exact hts t ht

/-- A text parted at signs '-', at n of them at most. -/
def splitF : Nat → ByteArray → List ByteArray
  | 0, r => [r]
  | n + 1, r => if Lib.indexByte r.data.toList 45 < 0 then [r] else r.extract 0 (Lib.indexByte r.data.toList 45).toNat :: splitF n (r.extract (Lib.indexByte r.data.toList 45 + 1).toNat r.size)
def splitOf (s : ByteArray) : List ByteArray := splitF (Lib.countByte s.data.toList 45) s
theorem take_set {α : Type} (l : List α) (i : Nat) (x : α) (h : i < l.length) : (l.set i x).take (i + 1) = l.take i ++ [x] := by
  apply List.ext_getElem?
  intro j
  rw [List.getElem?_take]
  by_cases hj : j < i
  · rw [if_pos (by omega), List.getElem?_set_ne (by omega), List.getElem?_append_left (by rw [List.length_take]; omega), List.getElem?_take, if_pos hj]
  · by_cases hji : j = i
    · subst hji
      rw [if_pos (by omega), List.getElem?_set_self h, List.getElem?_append_right (by rw [List.length_take]; omega)]
      simp [List.length_take, Nat.min_eq_left (Nat.le_of_lt h)]
    · rw [if_neg (by omega), List.getElem?_eq_none (by simp; omega)]

def SplitPost (s : ByteArray) (w : World) (e : Ending) (w' : World) : Prop :=
  ∃ (A : Option Addr) (n c : Nat), e = .returned (.slice A n c) ∧ w'.ownsRow w.heap.size 9 1 (.slice A n c) n ((splitOf s).map .string) ∧ (∀ t ∈ splitOf s, t.size ≤ 40) ∧ n ≤ 41 ∧ Fr (fun _ => False) w w'

set_option maxRecDepth 100000 in
set_option maxHeartbeats 4000000 in
theorem gensplit_any (s : ByteArray) (w : World) (hs : s.size ≤ 40) : Calls Tryz.prog 423 #[.string s, .string ⟨#[45]⟩, .int .i64 0, .int .i64 (-1)] w (SplitPost s w) := by
  have HSO := Lib.hid (show splitOf s = splitF (Lib.countByte s.data.toList 45) s from rfl)
  obtain ⟨so, hso⟩ : ∃ so, so = splitOf s := ⟨_, rfl⟩
  rw [← hso] at HSO
  have HSE := Lib.hid hso
  clear hso
  obtain ⟨i9, hi9, hz90, hz91, hz92⟩ := info_parts info9
  have hcnt : Lib.countByte s.data.toList 45 ≤ s.size := by
    have := List.count_le_length (a := (45 : UInt8)) (l := s.data.toList)
    have e : s.data.toList.length = s.size := by simp
    unfold Lib.countByte
    omega
  have HC := Lib.hid (fun w => Tryz.strings_Count_one s 45 w)
  generalize Lib.countByte s.data.toList 45 = cnt at *
  have h1 : ¬ ((s.size : Int) < (cnt : Int)) := by omega
  have hs' : (s.size : Int) ≤ 40 := by omega
  have hmin : min (cnt : Int) (s.size : Int) = (cnt : Int) := by omega
  go_enter Tryz.func423, Tryz.ntmps423
  go_wp2_with fail
  refine (HC.out w).mono ?_
  rintro e w1 ⟨rfl, rfl⟩
  go_wp2_with (at_make; refine wpList_make_full _ rfl _ _ 28 rfl w1.heap.size 9 i9 _ 1 Tryz.underlying28 hi9 hz90 hz91 _ _ _ _ (cnt + 1) (by rfl) (by rfl) rfl rfl (by rw [hz92]; omega) (by unfold maxLen; omega) (by omega) ?_; intro w4 hrow hgr4)
  have hf4 : Fr (fun j => w1.heap.size ≤ j) w1 w4 := (Fr.of_grown hgr4).mono (fun _ _ e => by cases e)
  have hse : (madeCells (Value.string ⟨#[]⟩).cells ((cnt + 1) * 1)).toList = (List.replicate (cnt + 1) (⟨#[]⟩ : ByteArray)).map Value.string := by
    rw [show (Value.string ⟨#[]⟩).cells = #[Value.string ⟨#[]⟩] from rfl, toList_madeCells_one, Nat.mul_one, List.map_replicate]
  rw [hse] at hrow
  have hlt := World.ownsRow.lt hrow w1.heap.size rfl
  have hsz4 := hf4.size
  have HF4 := Lib.hid hf4
  have HR4 := Lib.hid hrow
  clear hse hrow hgr4 hf4 hmin h1
  go_wp2_with fail
  go_loopw [0, 10] (fun sv iv wr => ∃ (r : ByteArray) (i : Nat) (ts : List ByteArray), sv = .string r ∧ iv = .int .i64 (i : Int) ∧ r.size ≤ s.size ∧ i ≤ cnt ∧ wr.ownsRow w1.heap.size 9 1 (.slice (some ⟨w1.heap.size, 0, none⟩) (cnt + 1) (cnt + 1)) (cnt + 1) (ts.map .string) ∧ (∀ t ∈ ts, t.size ≤ 40) ∧ Fr (fun j => w1.heap.size ≤ j) w1 wr ∧ ts.take i ++ splitF (cnt - i) r = so) (fun _ iv _ => cnt - (intOf iv).toNat)
  case atStart => exact ⟨s, 0, _, rfl, rfl, Nat.le_refl _, Nat.zero_le _, HR4.out, (fun t ht => by rw [List.eq_of_mem_replicate ht]; decide), HF4.out, by rw [HSO.out]; simp⟩
  case round =>
    obtain ⟨r, i, ts, rfl, rfl, hr, hi, hrow, hts, hf, hsp⟩ := hrel
    have HSP := Lib.hid hsp
    clear hsp
    have hrs : (r.size : Int) ≤ 40 := by omega
    have hszr := hf.size
    have g0 : ∀ j, wr.frozen? ⟨w1.heap.size, j, none⟩ = false := fun j => World.ownsRow.frozenAt hrow j
    have gi := g0 i
    have hlen : ts.length = cnt + 1 := by have := hrow.1; simpa using this
    have hci : wr.cell? ⟨w1.heap.size, i, none⟩ = some (.string (ts.getD i ⟨#[]⟩)) := by
      rw [World.ownsRow.cellAt hrow i (by omega), List.getElem?_map, List.getD_eq_getElem?_getD]
      rw [List.getElem?_eq_getElem (by omega)]
      rfl
    have fin := Lib.hid (fun (t : ByteArray) (ht : t.size ≤ 40) => split_step (i := i) hrow hts ht)
    have HTS := Lib.hid hts
    have HF := Lib.hid hf
    clear g0 hrow hf hts
    by_cases hlt2 : i < cnt
    · have hlt3 : (i : Int) < (cnt : Int) := by omega
      have HSTEP := Lib.hid (show splitF (cnt - i) r = if Lib.indexByte r.data.toList 45 < 0 then [r] else r.extract 0 (Lib.indexByte r.data.toList 45).toNat :: splitF (cnt - (i + 1)) (r.extract (Lib.indexByte r.data.toList 45 + 1).toNat r.size) by
        obtain ⟨k, hk⟩ : ∃ k, cnt - i = k + 1 := ⟨cnt - i - 1, by omega⟩
        rw [hk, show cnt - (i + 1) = k by omega]
        rfl)
      have hix := indexByte_lt 45 r.data.toList
      have hix2 := Lib.indexByte_ge r.data.toList 45
      have el : (r.data.toList.length : Int) = (r.size : Int) := by simp
      rw [el] at hix
      have HI := Lib.hid (fun w => Tryz.strings_Index_one r 45 w)
      generalize Lib.indexByte r.data.toList 45 = m at *
      have HLEN := Lib.hid hlen
      clear el
      by_cases hm : m < 0
      · have hm' : decide (m < 0) = true := decide_eq_true hm
        go_wp2_with fail
        refine (HI.out _).mono ?_
        rintro e w5 ⟨rfl, rfl⟩
        go_wp2_with fail
        go_ret
        have T := fin.out r (by omega)
        have E : so = (ts.set i r).take (i + 1) := by
          rw [← HSP.out, HSTEP.out, if_pos hm, take_set _ _ _ (by omega)]
        exact ⟨_, i + 1, _, rfl, by rw [← HSE.out, E, List.map_take]; exact ownsRow_take T.1 (by omega) (by omega), fun t ht => by rw [← HSE.out, E] at ht; exact T.2.1 t (List.mem_of_mem_take ht), by omega, (HF.out.trans T.2.2 (fun j hj e => by omega)).shut (Nat.le_refl _)⟩
      · have hm0 : 0 ≤ m := by omega
        have hm' : decide (m < 0) = false := decide_eq_false hm
        have hm1 : m < (r.size : Int) := by omega
        go_wp2_with fail
        refine (HI.out _).mono ?_
        rintro e w5 ⟨rfl, rfl⟩
        go_wp2_with fail
        go_roundw
        case rel =>
          have T := fin.out (r.extract 0 m.toNat) (by rw [ByteArray.size_extract]; omega)
          exact ⟨_, i + 1, ts.set i (r.extract 0 m.toNat), rfl, by go_num, by rw [ByteArray.size_extract]; omega, by omega, T.1, T.2.1, HF.out.trans T.2.2 (fun j hj e => by omega), by rw [take_set _ _ _ (by omega), ← HSP.out, HSTEP.out, if_neg (by omega), List.append_assoc]; rfl⟩
        case measure => simp [intOf]; omega
    · have hie : i = cnt := by omega
      subst hie
      clear hlt2
      go_wp2_with fail
      go_ret
      have T := fin.out r (by omega)
      have E : so = (ts.set i r).take (i + 1) := by
        rw [← HSP.out, Nat.sub_self, take_set _ _ _ (by omega)]
        rfl
      exact ⟨_, i + 1, _, rfl, by rw [← HSE.out, E, List.map_take]; exact ownsRow_take T.1 (by omega) (by omega), fun t ht => by rw [← HSE.out, E] at ht; exact T.2.1 t (List.mem_of_mem_take ht), by omega, (HF.out.trans T.2.2 (fun j hj e => by omega)).shut (Nat.le_refl _)⟩

theorem split_any (s : ByteArray) (w : World) (hs : s.size ≤ 40) : Calls Tryz.prog 420 #[.string s, .string ⟨#[45]⟩] w (SplitPost s w) := by
  go_enter Tryz.func420, Tryz.ntmps420
  go_wp2_with fail
  refine (gensplit_any s w hs).mono ?_
  rintro e w1 ⟨A, n, c, rfl, h⟩
  go_wp2_with fail
  go_ret
  exact ⟨A, n, c, rfl, h⟩

theorem row_le {w : World} {B e size n c : Nat} {A : Option Addr} {xs : List Value} (h : w.ownsRow B e size (.slice A n c) n xs) : n ≤ c := by
  rcases h.2 with ⟨h1, h2⟩ | ⟨g, cap, cur, h1, _, _, h2, _⟩
  · omega
  · injection h1 with _ _ h3
    omega
theorem row_form {w : World} {B e size n c : Nat} {A : Option Addr} {xs : List Value} (h : w.ownsRow B e size (.slice A n c) n xs) (hn : 0 < n) : ∃ g, A = some ⟨g, 0, none⟩ ∧ B ≤ g ∧ g < w.heap.size ∧ n ≤ c := by
  obtain ⟨g, cap, hv, hb, hl⟩ := World.ownsRow.form h hn
  injection hv with h1 _ _
  exact ⟨g, h1, hb, hl, row_le h⟩

/-- May a sign stand in part k of a language? -/
def langSign (k : Nat) (r : Int) : Bool := plainOf r && (!decide (k = 0) || (classOf r == 1))
def partFrom (k : Nat) (s : ByteArray) (p : Nat) : Bool :=
  if h : p < s.size then langSign k ((Utf8.decode s p).1 : Int) && partFrom k s (p + (Utf8.decode s p).2) else true
termination_by s.size - p
decreasing_by have := width_pos s p h; omega
theorem partFrom_step (k : Nat) (s : ByteArray) (p : Nat) (h : p < s.size) : partFrom k s p = (langSign k ((Utf8.decode s p).1 : Int) && partFrom k s (p + (Utf8.decode s p).2)) := by
  rw [partFrom, dif_pos h]
theorem partFrom_end (k : Nat) (s : ByteArray) (p : Nat) (h : ¬ p < s.size) : partFrom k s p = true := by
  rw [partFrom, dif_neg h]
def langPart (k : Nat) (t : ByteArray) : Bool := !t.toList.isEmpty && (!decide (8 < t.size) && partFrom k t 0)
def langAll : Nat → List ByteArray → Bool
  | _, [] => true
  | k, t :: ts => langPart k t && langAll (k + 1) ts
def langOf (s : ByteArray) : Bool := !decide (40 < s.size) && langAll 0 (splitOf s)

set_option maxRecDepth 100000 in
set_option maxHeartbeats 4000000 in
theorem lang_any (s : ByteArray) (w : World) (hs : s.size ≤ 4096) : Calls Tryz.prog 417 #[.string s] w (IsB (langOf s) w) := by
  have HLO := Lib.hid (show langOf s = (!decide (40 < s.size) && langAll 0 (splitOf s)) from rfl)
  generalize langOf s = lo at *
  have hs1 : (s.size : Int) ≤ 4096 := by omega
  by_cases hl : 40 < s.size
  · have hl' : decide (40 < s.size) = true := decide_eq_true hl
    have hl2 : decide ((40 : Int) < (s.size : Int)) = true := decide_eq_true (by omega)
    go_enter Tryz.func417, Tryz.ntmps417
    have HH := Lib.hid hl'
    go_wp2_with fail
    go_ret
    exact IsB.of (Fr.refl _ _) (by rw [HLO.out, HH.out]; rfl)
  · have hl2 : decide ((40 : Int) < (s.size : Int)) = false := decide_eq_false (by omega)
    rw [show decide (40 < s.size) = false from decide_eq_false (by omega), Bool.not_false, Bool.true_and] at HLO
    have hs40 : s.size ≤ 40 := by omega
    clear hl
    go_enter Tryz.func417, Tryz.ntmps417
    go_wp2_with fail
    refine (split_any s w hs40).mono ?_
    rintro e w1 ⟨A, n, c, rfl, hrow, hts, hn, hf1⟩
    generalize splitOf s = ts at *
    have HROW := Lib.hid hrow
    have HTS := Lib.hid hts
    have HF1 := Lib.hid hf1
    have hsz1 := hf1.size
    clear hrow hts hf1 hs1 hl2 hs40
    go_wp2_with fail
    go_loopw [13] (fun iv wr => ∃ k : Nat, iv = .int .i64 (k : Int) ∧ k ≤ n ∧ Fr (fun j => w1.heap.size ≤ j) w1 wr ∧ langAll k (ts.drop k) = lo) (fun iv _ => n - (intOf iv).toNat)
    case atStart => exact ⟨0, rfl, Nat.zero_le _, Fr.refl _ _, by rw [List.drop_zero]; exact HLO.out.symm⟩
    case round =>
      obtain ⟨k, rfl, hk, hf, hla⟩ := hrel
      have hfe : Fr (fun _ => False) w wr := HF1.out.trans' (hf.shut (Nat.le_refl _))
      have HFE := Lib.hid hfe
      clear hfe
      by_cases hlt : k < n
      · have hlt' : (k : Int) < (n : Int) := by omega
        obtain ⟨g, hg, -, hgl, hgc⟩ := row_form HROW.out (by omega)
        subst hg
        have hrow := ownsRow_fr HROW.out hf (fun j hj e => by have := (World.ownsRow.lt HROW.out j hj).2; omega)
        have hlen : ts.length = n := by have := hrow.1; simpa using this
        have hck : wr.cell? ⟨g, k, none⟩ = some (.string (ts.getD k ⟨#[]⟩)) := by
          rw [World.ownsRow.cellAt hrow k (by omega), List.getElem?_map, List.getD_eq_getElem?_getD]
          rw [List.getElem?_eq_getElem (by omega)]
          rfl
        have hdr : langAll k (ts.drop k) = (langPart k (ts.getD k ⟨#[]⟩) && langAll (k + 1) (ts.drop (k + 1))) := by
          rw [List.drop_eq_getElem_cons (by omega), List.getD_eq_getElem?_getD, List.getElem?_eq_getElem (by omega)]
          rfl
        rw [hdr] at hla
        have htk : (ts.getD k ⟨#[]⟩).size ≤ 40 := by
          rw [List.getD_eq_getElem?_getD, List.getElem?_eq_getElem (by omega)]
          exact HTS.out _ (List.getElem_mem _)
        generalize ts.getD k ⟨#[]⟩ = t at *
        have ht1 : (t.size : Int) ≤ 40 := by omega
        have HF := Lib.hid hf
        have hszr := hf.size
        unfold langPart at hla
        have HLA := Lib.hid hla
        clear hrow hf hlen hla hdr
        obtain ⟨wo, rfl⟩ : ∃ wo, wo = wr := ⟨wr, rfl⟩
        by_cases h1 : t.toList = []
        · have h1' : t.toList.isEmpty = true := by rw [h1]; rfl
          have h1e : (t.toList == []) = true := by rw [h1]; rfl
          have H1 := Lib.hid h1'
          clear h1
          go_wp2_with fail
          go_ret
          exact IsB.of HFE.out (by rw [← HLA.out, H1.out]; rfl)
        · have h1' : t.toList.isEmpty = false := by
            cases ht : t.toList with
            | nil => exact absurd ht h1
            | cons a l => rfl
          have h1e : (t.toList == []) = false := by
            cases ht : t.toList with
            | nil => exact absurd ht h1
            | cons a l => rfl
          have H1 := Lib.hid h1'
          by_cases h2 : 8 < t.size
          · have h2' : decide (8 < t.size) = true := decide_eq_true h2
            have h2e : decide ((8 : Int) < (t.size : Int)) = true := decide_eq_true (by omega)
            have H2 := Lib.hid h2'
            clear h2
            go_wp2_with fail
            go_ret
            exact IsB.of HFE.out (by rw [← HLA.out, H2.out]; simp)
          · have h2' : decide (8 < t.size) = false := decide_eq_false h2
            have h2e : decide ((8 : Int) < (t.size : Int)) = false := decide_eq_false (by omega)
            have H2 := Lib.hid h2'
            clear h2
            go_wp2_with fail
            go_loopg [] (t.size) (fun g wi => ∃ (p : Nat), t.size ≤ p + g ∧ ItAt wi wo.heap.size t p ∧ Fr (fun j => wo.heap.size ≤ j) wo wi ∧ partFrom k t p = partFrom k t 0)
            case atStart => exact ⟨0, by omega, ItAt.new wo t 0, (Fr.refl _ _).alloc _, rfl⟩
            case round =>
              obtain ⟨p, hg, hit, hfi, htx⟩ := hrel
              clear hck
              by_cases hp : p < t.size
              · have hnx := run_next_it hit hp
                have hwd := width_pos t p hp
                have hit2 := hit.set (p + (Utf8.decode t p).2)
                have hfi2 : Fr (fun j => wo.heap.size ≤ j) wo (World.itSet wr wo.heap.size t (p + (Utf8.decode t p).2)) := hfi.trans (hit.frS _) (fun i hi e => by omega)
                rw [partFrom_step k t p hp] at htx
                have hvr := decode_valid t p
                have HIT := Lib.hid hit2
                have HFI0 := Lib.hid hfi2
                generalize World.itSet wr wo.heap.size t (p + (Utf8.decode t p).2) = w3 at *
                generalize (Utf8.decode t p).2 = wd at *
                generalize (Utf8.decode t p).1 = r at *
                have HPL := Lib.hid (fun w => plain_any r w hvr)
                have HCL := Lib.hid (fun w => class_any r w hvr)
                unfold langSign at htx
                generalize plainOf (r : Int) = pl at *
                generalize classOf (r : Int) = c5 at *
                have HTX := Lib.hid htx
                clear hit hfi hit2 hfi2 htx hvr
                go_wp2_with fail
                refine (HPL.out w3).mono ?_
                rintro e w4 ⟨rfl, rfl⟩
                have HFI := HFI0
                have HIT4 := HIT
                clear HIT HFI0
                cases pl with
                | false =>
                  go_wp2_with fail
                  go_ret
                  exact IsB.of (HFE.out.trans' (HFI.out.shut (Nat.le_refl _))) (by rw [← HLA.out, ← HTX.out]; simp)
                | true =>
                  by_cases h0 : k = 0
                  · subst h0
                    go_wp2_with fail
                    refine (HCL.out w3).mono ?_
                    rintro e w5 ⟨rfl, rfl⟩
                    by_cases hc : c5 = 1
                    · have hc' : (c5 != 1) = false := by simp [hc]
                      have HC5 := Lib.hid hc
                      clear hc
                      go_wp2_with fail
                      go_roundg (t.size - (p + wd))
                      case measure => omega
                      case rel => exact ⟨p + wd, by omega, HIT4.out, HFI.out, by have h := HTX.out; simpa [HC5.out] using h⟩
                    · have hc' : (c5 != 1) = true := by simp [hc]
                      have HC5 := Lib.hid hc
                      clear hc
                      go_wp2_with fail
                      go_ret
                      exact IsB.of (HFE.out.trans' (HFI.out.shut (Nat.le_refl _))) (by rw [← HLA.out, ← HTX.out]; simp [HC5.out])
                  · have h0' : ((k : Int) == 0) = false := by simp [h0]
                    have HK0 := Lib.hid h0
                    clear h0
                    go_wp2_with fail
                    go_roundg (t.size - (p + wd))
                    case measure => omega
                    case rel => exact ⟨p + wd, by omega, HIT4.out, HFI.out, by have h := HTX.out; simpa [HK0.out] using h⟩
              · have hnx := run_next_it_end hit hp
                rw [partFrom_end k t p hp] at htx
                have HTX := Lib.hid htx
                have HFI := Lib.hid hfi
                clear hit hfi htx
                go_wp2_with fail
                go_roundw
                case rel => exact ⟨k + 1, by go_num, by omega, HF.out.trans HFI.out (fun i hi e => by omega), by rw [← HLA.out, ← HTX.out, H1.out, H2.out]; simp⟩
                case measure => simp [intOf]; omega
      · have hge : (n : Int) ≤ (k : Int) := by omega
        have hlen : ts.length = n := by have := HROW.out.1; simpa using this
        rw [List.drop_eq_nil_of_le (by omega)] at hla
        have HLA := Lib.hid hla
        clear hf hla hlen
        go_wp2_with fail
        go_ret
        exact IsB.of HFE.out HLA.out.symm

end Go.Proofs.YtebddgdkndmpjaaGreatDoor
