/- A group that binds literals: walked. -/
import Derived.Test.YtebddgdkndmpjaaGreatDoorAp
import Derived.Deep.CutBlock
import Derived.Deep.RegionLawGrows
import Derived.Deep.Cut
import Derived.Deep.CutRange
import Derived.WalkKit
import Derived.WalkLawsBesides
import Derived.WalkSpells
import Derived.Deep.QuietTactic
import Derived.BigRegion
import Derived.BigQuiet
import Derived.Lib.Hide
import Derived.Outline
import Derived.Deep.AppendLies
import Derived.Deep.RegionLaw
import Derived.Deep.RegionWith
import Derived.Deep.RegionHeld3
import Derived.Deep.LoopGhost
import Derived.Deep.DeepFit
import Derived.Laws.ResultCell
import Derived.Laws.RangeAny
import Derived.Deep.MidRow
import Derived.StillTailTactics
import Derived.OpenShut
namespace Go.Proofs.YtebddgdkndmpjaaGreatDoor
set_option linter.unusedVariables false
open Go.RowKit Go

/-- 0, 1, .. -/
def ramp (n : Nat) : List Int := (List.range n).map Int.ofNat
theorem ramp_len (n : Nat) : (ramp n).length = n := by unfold ramp; simp
theorem ramp_step (n : Nat) : ramp (n + 1) = ramp n ++ [(n : Int)] := by unfold ramp; rw [List.range_succ, List.map_append]; rfl
theorem ramp_get (n j : Nat) (hj : j < n) : (ramp n).getD j 0 = (j : Int) := by
  unfold ramp
  rw [List.getD_eq_getElem?_getD, List.getElem?_map, List.getElem?_range hj]
  rfl

/-- What the evaluation keeps: all but its own block, the dictionary, and what is new. -/
def KP (B : Nat) (w w' : World) : Prop := ∃ S : Nat → Prop, Fr S w w' ∧ (∀ j, S j → B ≤ j) ∧ ∀ g t cs, Blk w g t cs → t ≠ 163 → t ≠ 150 → t ≠ 35 → ¬ S g
theorem KP.blk {B : Nat} {w w' : World} (h : KP B w w') {g t : Nat} {cs : Array Value} (hb : Blk w g t cs) (h1 : t ≠ 163) (h2 : t ≠ 150) (h3 : t ≠ 35) : Blk w' g t cs := by
  obtain ⟨S, hf, _, ht⟩ := h
  exact hb.fr hf (ht _ _ _ hb h1 h2 h3)
theorem KP.row {B : Nat} {w w' : World} (h : KP B w w') {B' t size n : Nat} {v : Value} {xs : List Value} (hr : w.ownsRow B' t size v n xs) (h1 : t ≠ 163) (h2 : t ≠ 150) (h3 : t ≠ 35) : w'.ownsRow B' t size v n xs := by
  obtain ⟨S, hf, _, ht⟩ := h
  refine ownsRow_fr hr hf fun k hk hS => ?_
  rcases hr.2 with ⟨rfl, _⟩ | ⟨g, cap, cur, rfl, _, hh, _⟩
  · cases hk
  · injection hk with hk
    subst hk
    exact ht g t cur hh h1 h2 h3 hS
theorem KP.refl (B : Nat) (w : World) : KP B w w := ⟨fun _ => False, Fr.refl _ _, fun _ h => h.elim, fun _ _ _ _ _ _ _ h => h⟩
theorem KP.new {B : Nat} {w w1 w2 : World} (h : KP B w w1) {T : Nat → Prop} (hf : Fr T w1 w2) (hT : ∀ j, T j → w.heap.size ≤ j) (hB : B ≤ w.heap.size) : KP B w w2 := by
  obtain ⟨S, hf1, hb, ht⟩ := h
  refine ⟨fun j => S j ∨ T j, (hf1.mono (fun _ _ h => .inl h)).trans hf (fun _ _ h => .inr h), fun j h => h.elim (hb j) (fun h => Nat.le_trans hB (hT j h)), fun g t cs hg h1 h2 h3 hS => ?_⟩
  rcases hS with hS | hS
  · exact ht g t cs hg h1 h2 h3 hS
  · exact absurd hg.lt (by have := hT g hS; omega)
theorem KP.bind {B : Nat} {w w1 w2 : World} (h : KP B w w1) {b r vb : Nat} {sp : Option Addr} {e : Int} {vt : Value} {ts : List Tm} {room : Int} (hev : EvBlk w1 vb b sp e) (hd : IsDict w1 B b r vt ts room) (hvb : B ≤ vb) (hf : Fr (fun j => j = vb ∨ j = b ∨ j = r ∨ vt.ownBlock = some j) w1 w2) : KP B w w2 := by
  have h0 := h
  obtain ⟨S, hf1, hb, ht⟩ := h
  refine ⟨fun j => S j ∨ (j = vb ∨ j = b ∨ j = r ∨ vt.ownBlock = some j), (hf1.mono (fun _ _ h => .inl h)).trans hf (fun _ _ h => .inr h), fun j h => ?_, fun g t cs hg h1 h2 h3 hS => ?_⟩
  · rcases h with h | rfl | rfl | rfl | h
    · exact hb j h
    · exact hvb
    · exact hd.leb
    · exact hd.ler
    · exact (hd.row.lt j h).1
  · have hg1 := h0.blk hg h1 h2 h3
    rcases hS with hS | rfl | rfl | rfl | hS
    · exact ht g t cs hg h1 h2 h3 hS
    · exact Blk.ne_ hg1 hev h1 rfl
    · exact Blk.ne_ hg1 hd.blk h2 rfl
    · exact hd.map.ne_blk hg1 rfl
    · exact own_blk_ne hd.row hg1 (fun e => h3 e.symm) hS
theorem KP.fr {B n : Nat} {w w' : World} (h : KP B w w') (hB : n ≤ B) : Fr (fun j => n ≤ j) w w' := by
  obtain ⟨S, hf, hb, _⟩ := h
  exact hf.mono (fun j _ hj => Nat.le_trans hB (hb j hj))
theorem KP.size {B : Nat} {w w' : World} (h : KP B w w') : w.heap.size ≤ w'.heap.size := by
  obtain ⟨S, hf, _⟩ := h
  exact hf.size

/-- The table so far: i items bound, or one too many. -/
def Bound (i n : Nat) (room er : Int) (j : Nat) (xs : List Int) (l : List Tm) : Prop :=
  (er = 0 ∧ j = i ∧ (i : Int) ≤ room ∧ xs = ramp i ∧ l = smalls i) ∨ (er = 6 ∧ room < (n : Int))
def GInv (w wr : World) (tb vb b r B n i : Nat) (cc : Nat) (G : Option Addr) (sp : Option Addr) (room : Int) : Prop :=
  ∃ j V vc A c vals xs vt, ∃ (er : Int) (l : List Tm), Blk wr tb 63 #[.slice V j vc, .slice A 1 c] ∧ j ≤ i ∧ (j = 0 → V = none ∧ vc = 0) ∧ wr.ownsRow w.heap.size 9 1 (.slice V j vc) j ((letters.take j).map .string) ∧ RowsAt wr w.heap.size (.slice A 1 c) vals [xs] ∧ xs.length = j ∧
    EvBlk wr vb b sp er ∧ IsDict wr B b r vt l room ∧ Blk wr w.heap.size 161 #[.pointer (some ⟨vb, 0, none⟩)] ∧ Blk wr (w.heap.size + 1) 27 #[.slice G n cc] ∧ Blk wr (w.heap.size + 1 + 1) 63 #[.slice none 0 0, .slice none 0 0] ∧ KP B w wr ∧ Bound i n room er j xs l
/-- What a group of n items that bind makes. -/
def GroupPost (w : World) (vb b r B n : Nat) (sp : Option Addr) (room : Int) (e : Ending) (w' : World) : Prop :=
  ∃ j V vc A c vals xs vt, ∃ (er : Int) (l : List Tm), e = .returned (.agg #[.slice V j vc, .slice A 1 c]) ∧ j ≤ n ∧ (j = 0 → V = none ∧ vc = 0) ∧ w'.ownsRow w.heap.size 9 1 (.slice V j vc) j ((letters.take j).map .string) ∧ RowsAt w' w.heap.size (.slice A 1 c) vals [xs] ∧ xs.length = j ∧
    EvBlk w' vb b sp er ∧ IsDict w' B b r vt l room ∧ KP B w w' ∧ Bound n n room er j xs l

set_option maxRecDepth 100000 in
set_option maxHeartbeats 40000000 in
theorem groupN (vb b r B B4 n cc : Nat) (sp G : Option Addr) (vt : Value) (room : Int) (fv : Value) (w : World) (hn : n ≤ 9) (hroom : 0 ≤ room) (hb : EvBlk w vb b sp 0) (hd : IsDict w B b r vt [] room) (hB : B ≤ w.heap.size) (hvb : B ≤ vb) (hi : ItemsAt w B4 (.slice G n cc) n) :
    Calls Tryz.prog 81 #[.pointer (some ⟨vb, 0, none⟩), .agg #[.slice G n cc], fv] w (GroupPost w vb b r B n sp room) := by
  have HU := Lib.hid (fun w => unit_any w)
  have HIT := Lib.hid hi
  have HEV := Lib.hid hb
  have HD := Lib.hid hd
  clear hb hd hi
  go_enter Tryz.func81, Tryz.ntmps81
  go_wp2_with fail
  refine (HU.out _).mono ?_
  rintro e w1 ⟨vr, vals, rfl, hr1, hf1⟩
  obtain ⟨A1, c1, hvr⟩ := row_shape hr1.own
  subst hvr
  rw [show ([[]] : List (List Int)).length = 1 from rfl]
  have hz1 : (w.alloc (.cells #[.pointer (some ⟨vb, 0, none⟩)] 161)).heap.size = w.heap.size + 1 := by simp
  have hz2 : ((w.alloc (.cells #[.pointer (some ⟨vb, 0, none⟩)] 161)).alloc (.cells #[.slice G n cc] 27)).heap.size = w.heap.size + 1 + 1 := by simp
  have hz3 : (((w.alloc (.cells #[.pointer (some ⟨vb, 0, none⟩)] 161)).alloc (.cells #[.slice G n cc] 27)).alloc (.cells #[.slice none 0 0, .slice none 0 0] 63)).heap.size = w.heap.size + 3 := by simp
  have hsz1 := hf1.size
  rw [hz3] at hsz1 hr1
  have B0 := (((Blk.new w 161 #[.pointer (some ⟨vb, 0, none⟩)]).alloc (.cells #[.slice G n cc] 27)).alloc (.cells #[.slice none 0 0, .slice none 0 0] 63)).fr hf1 (fun h => h)
  have B1 := ((Blk.new (w.alloc (.cells #[.pointer (some ⟨vb, 0, none⟩)] 161)) 27 #[.slice G n cc]).alloc (.cells #[.slice none 0 0, .slice none 0 0] 63)).fr hf1 (fun h => h)
  have B2 := (Blk.new ((w.alloc (.cells #[.pointer (some ⟨vb, 0, none⟩)] 161)).alloc (.cells #[.slice G n cc] 27)) 63 #[.slice none 0 0, .slice none 0 0]).fr hf1 (fun h => h)
  rw [hz1] at B1
  rw [hz2] at B2
  have F1 : Fr (fun _ => False) w (w1.alloc (.cells #[.slice none 0 0, .slice A1 1 c1] 63)) := (((((Fr.refl (fun _ => False) w).alloc (.cells #[.pointer (some ⟨vb, 0, none⟩)] 161)).alloc (.cells #[.slice G n cc] 27)).alloc (.cells #[.slice none 0 0, .slice none 0 0] 63)).trans' hf1).alloc _
  have START := Lib.hid (show GInv w (w1.alloc (.cells #[.slice none 0 0, .slice A1 1 c1] 63)) w1.heap.size vb b r B n 0 cc G sp room from
    ⟨0, none, 0, A1, c1, vals, [], vt, 0, [], Blk.new _ _ _, Nat.le_refl _, fun _ => ⟨rfl, rfl⟩, World.ownsRow_nil _ _ _ _, (hr1.base (by omega)).frF ((Fr.refl _ _).alloc _), rfl, Blk.fr HEV.out F1 (fun h => h), HD.out.frF F1, B0.alloc _, B1.alloc _, B2.alloc _, (KP.refl B w).new F1 (fun _ h => h.elim) hB, .inl ⟨rfl, rfl, hroom, rfl, rfl⟩⟩)
  have hc1 : w1.cell? ⟨w.heap.size + 1, 0, none⟩ = some (.slice G n cc) := B1.cell 0
  have hlt1 : w.heap.size + 1 < w1.heap.size := B1.lt
  clear hr1 hf1 B0 B1 B2 F1 HEV HD hz1 hz2 hz3
  go_wp2_with fail
  go_loopw [14] (fun iv wr => ∃ i : Nat, iv = .int .i64 (i : Int) ∧ i ≤ n ∧ GInv w wr w1.heap.size vb b r B n i cc G sp room) (fun iv _ => n - (intOf iv).toNat)
  case atStart => exact ⟨0, rfl, Nat.zero_le _, START.out⟩
  case round =>
    obtain ⟨i, rfl, hin, j, V, vc, A, c, vals, xs, vt, er, l, htb, hj, hV, hrow, hrows, hxl, hev, hd, hv, hg, hrb, hkp, hbd⟩ := hrel
    have HTB := Lib.hid htb
    have HROW := Lib.hid hrow
    have HROWS := Lib.hid hrows
    have HEV := Lib.hid hev
    have HD := Lib.hid hd
    have HVB := Lib.hid hv
    have HGB := Lib.hid hg
    have HRB := Lib.hid hrb
    have HKP := Lib.hid hkp
    have HV := Lib.hid hV
    have hszr := hkp.size
    have t0 : wr.cell? ⟨w1.heap.size, 0, none⟩ = some (.slice V j vc) := htb.cell 0
    have t1 : wr.cell? ⟨w1.heap.size, 1, none⟩ = some (.slice A 1 c) := htb.cell 1
    have htl := htb.lt
    have v0 : wr.cell? ⟨w.heap.size, 0, none⟩ = some (.pointer (some ⟨vb, 0, none⟩)) := hv.cell 0
    have hvl := hv.lt
    have e3 : wr.cell? ⟨vb, 3, none⟩ = some (.int .i64 er) := Blk.cell hev 3
    have hel := Blk.lt hev
    have g0 : wr.cell? ⟨w.heap.size + 1, 0, none⟩ = some (.slice G n cc) := hg.cell 0
    have hgl := hg.lt
    have HIR := Lib.hid (show ItemsAt wr B4 (.slice G n cc) n from hkp.row HIT.out (by decide) (by decide) (by decide))
    clear htb hrow hrows hev hd hv hg hrb hkp hV
    by_cases hlt : i < n
    · have hlt' : (i : Int) < (n : Int) := by omega
      obtain ⟨gg, rfl, _, _, _⟩ := row_form HIR.out (by omega)
      have hrg := ItemsAt.range HIR.out hlt
      have F2 : Fr (fun _ => False) wr (wr.alloc (.cells (litItem i) 46)) := (Fr.refl _ _).alloc _
      have hev2 : EvBlk (wr.alloc (.cells (litItem i) 46)) vb b sp er := Blk.fr HEV.out F2 (fun h => h)
      have hd2 := HD.out.frF F2
      rcases hbd with ⟨rfl, rfl, hir, rfl, rfl⟩ | ⟨rfl, hrn⟩
      · have HIM := Lib.hid (item_any vb b r B w.heap.size w.heap.size j vc c sp V A vals (ramp j) vt fv room (wr.alloc (.cells (litItem j) 46)) (by omega) hev2 hd2 (by simp; omega) HV.out (ownsRow_fr HROW.out F2 (fun _ _ h => h)) (HROWS.out.frF F2) hxl (fun q hq => by rw [ramp_get _ _ hq]; omega))
        have HNX := Lib.hid (fun w5 V' vc' A' c' (h : ExtPost (wr.alloc (.cells (litItem j) 46)) vb b r B j sp vt room (ramp j) (.returned (.agg #[.slice V' (j + 1) vc', .slice A' 1 c'])) w5) => show (Blk w5 w1.heap.size 63 #[.slice V j vc, .slice A 1 c] ∧ GInv w ((w5.setCell ⟨w1.heap.size, 0, none⟩ (.slice V' (j + 1) vc')).setCell ⟨w1.heap.size, 1, none⟩ (.slice A' 1 c')) w1.heap.size vb b r B n (j + 1) cc (some ⟨gg, 0, none⟩) sp room) from by
          obtain ⟨V4, c4, vr4, vals4, vt4, n4, er4, l4, he, ho4, hr4, hev4, hd4, hf4, hcase⟩ := h
          injection he with he
          injection he with he
          have he0 := congrArg (fun a : Array Value => a.toList) he
          simp only [List.cons.injEq, and_true] at he0
          obtain ⟨he1, he2⟩ := he0
          injection he1 with he1 _ he3
          subst he1 he3 he2
          have htb5 := bind_blk hev2 hd2 hf4 (HTB.out.alloc (.cells (litItem j) 46)) (by decide) (by decide) (by decide)
          have FS : Fr (fun q => q = w1.heap.size) w5 ((w5.setCell ⟨w1.heap.size, 0, none⟩ (.slice V' (j + 1) vc')).setCell ⟨w1.heap.size, 1, none⟩ (.slice A' 1 c')) := ((Fr.refl (fun q => q = w1.heap.size) w5).setCell ⟨w1.heap.size, 0, none⟩ (fun _ => rfl) _).setCell ⟨w1.heap.size, 1, none⟩ (fun _ => rfl) _
          have hsz2 : w.heap.size ≤ (wr.alloc (.cells (litItem j) 46)).heap.size := Nat.le_trans hszr F2.size
          refine ⟨htb5, j + 1, V', vc', A', c', vals4, _, vt4, er4, l4, (htb5.set_ 0 (.slice V' (j + 1) vc')).set_ 1 (.slice A' 1 c'), Nat.le_refl _, fun h => absurd h (by omega), ownsRow_base (ownsRow_fr ho4 FS (fun q hq e => own_blk_ne ho4 htb5 (by decide) (by rw [hq, e]))) hsz2, (hr4.frB htb5 (by decide) (by decide) FS).base hsz2, by rw [List.length_append, ramp_len]; rfl,
            Blk.fr hev4 FS (fun e => Blk.ne_ hev4 htb5 (by decide) e), hd4.fr FS (fun e => Blk.ne_ hd4.blk htb5 (by decide) e) (fun e => hd4.map.ne_blk htb5 e.symm) (fun q hq e => own_blk_ne hd4.row htb5 (by decide) (by rw [hq, e])),
            (bind_blk hev2 hd2 hf4 (HVB.out.alloc (.cells (litItem j) 46)) (by decide) (by decide) (by decide)).fr FS (fun e => absurd e (by omega)), (bind_blk hev2 hd2 hf4 (HGB.out.alloc (.cells (litItem j) 46)) (by decide) (by decide) (by decide)).fr FS (fun e => absurd e (by omega)), (bind_blk hev2 hd2 hf4 (HRB.out.alloc (.cells (litItem j) 46)) (by decide) (by decide) (by decide)).fr FS (fun e => absurd e (by omega)),
            (((HKP.out.new F2 (fun _ h => h.elim) hB).bind hev2 hd2 hvb hf4).new FS (fun q e => by omega) hB), ?_⟩
          rcases hcase with ⟨hc1, rfl, rfl, rfl⟩ | ⟨hc1, rfl, rfl, rfl⟩
          · exact .inl ⟨rfl, rfl, by omega, (ramp_step j).symm, rfl⟩
          · exact .inr ⟨rfl, by omega⟩)
        have HSH := Lib.hid (fun e w5 (h : ExtPost (wr.alloc (.cells (litItem j) 46)) vb b r B j sp vt room (ramp j) e w5) => show ∃ V' vc' A' c', e = .returned (.agg #[.slice V' (j + 1) vc', .slice A' 1 c']) from by
          obtain ⟨V4, c4, vr4, vals4, vt4, n4, er4, l4, he, ho4, hr4, _⟩ := h
          obtain ⟨A4, d4, hv4⟩ := row_shape hr4.own
          subst hv4
          exact ⟨_, _, _, _, he⟩)
        clear hev2 hd2 F2
        unfold litItem at HIM HNX HSH
        obtain ⟨d0, x9, hsh⟩ := Tm.shape (smallTm j)
        rw [hsh] at HIM HNX HSH hrg
        generalize letters.getD j ByteArray.empty = y at *
        have HRG := Lib.hid hrg
        have HR2 := Lib.hid (blk_range (Blk.new wr 46 #[.int .i64 2, .string ⟨#[]⟩, .nilIface, .string ⟨#[]⟩, .nilIface, .string ⟨#[]⟩, .nilIface, .int .i64 0, .string ⟨#[]⟩, .slice none 0 0, .string ⟨#[]⟩, .string ⟨#[]⟩, .iface d0 x9, .slice none 0 0, .string y, .string ⟨#[]⟩, .slice none 0 0]))
        clear hsh hrg
        go_wp2_with (first | refine wpList_load_mid rfl 46 _ rfl gg (j * 17) rfl _ _ HRG.out Tryz.underlying46 rfl info46 ?_ | refine wpList_load_mid rfl 46 _ rfl wr.heap.size 0 rfl _ _ HR2.out Tryz.underlying46 rfl info46 ?_)
        refine HIM.out.mono ?_
        intro e w5 hp
        obtain ⟨V', vc', A', c', rfl⟩ := HSH.out e w5 hp
        obtain ⟨hb5, hgi⟩ := HNX.out w5 V' vc' A' c' hp
        have HGI := Lib.hid hgi
        have hlcb := hb5.lt
        have f0 := hb5.frozen 0
        have f1 := hb5.frozen 1
        have cc0 : w5.cell? ⟨w1.heap.size, 0, none⟩ = some (.slice V j vc) := hb5.cell 0
        have cc12 : w5.cell? ⟨w1.heap.size, 1, none⟩ = some (.slice A 1 c) := hb5.cell 1
        have hb2 := hb5.set_ 0 (.slice V' (j + 1) vc')
        have cc1 : (w5.setCell ⟨w1.heap.size, 0, none⟩ (.slice V' (j + 1) vc')).cell? ⟨w1.heap.size, 1, none⟩ = some (.slice A 1 c) := hb2.cell 1
        have f12 : (w5.setCell ⟨w1.heap.size, 0, none⟩ (.slice V' (j + 1) vc')).frozen? ⟨w1.heap.size, 1, none⟩ = false := hb2.frozen 1
        have hl2 := hb2.lt
        clear hp hb5 hgi hb2
        go_wp2_with fail
        go_roundw
        case rel => exact ⟨j + 1, by go_num, by omega, HGI.out⟩
        case measure => simp only [intOf]; omega
      · have HGI := Lib.hid (show GInv w (wr.alloc (.cells (litItem i) 46)) w1.heap.size vb b r B n (i + 1) cc (some ⟨gg, 0, none⟩) sp room from
          ⟨j, V, vc, A, c, vals, xs, vt, 6, l, HTB.out.alloc _, by omega, HV.out, ownsRow_fr HROW.out F2 (fun _ _ h => h), HROWS.out.frF F2, hxl, hev2, hd2, HVB.out.alloc _, HGB.out.alloc _, HRB.out.alloc _, HKP.out.new F2 (fun _ h => h.elim) hB, .inr ⟨rfl, hrn⟩⟩)
        clear hev2 hd2 F2
        unfold litItem at HGI
        obtain ⟨d0, x9, hsh⟩ := Tm.shape (smallTm i)
        rw [hsh] at HGI hrg
        generalize letters.getD i ByteArray.empty = y at *
        have HRG := Lib.hid hrg
        clear hsh hrg
        go_wp2_with (refine wpList_load_mid rfl 46 _ rfl gg (i * 17) rfl _ _ HRG.out Tryz.underlying46 rfl info46 ?_)
        go_roundw
        case rel => exact ⟨i + 1, by go_num, by omega, HGI.out⟩
        case measure => simp only [intOf]; omega
    · have hlt' : ¬ (i : Int) < (n : Int) := by omega
      have hie : i = n := by omega
      subst hie
      have HFI := Lib.hid (filter_any 139 #[.pointer (some ⟨w.heap.size + 1, 0, none⟩), .pointer (some ⟨w.heap.size, 0, none⟩)] j vc _ _ V (.slice A 1 c) vals [xs] (letters.take j) wr (by omega) HV.out (by simp) (fun q hq => by
        have : q = 0 := by simp at hq; omega
        subst this; exact hxl) HROW.out HROWS.out (fun _ _ => rfl) (fun wy q hq hy => by
        have hq0 : q = 0 := by simp at hq; omega
        subst hq0
        obtain ⟨R, rc, hv⟩ := row_shape (HROWS.out.each 0 (by simp))
        rw [hv]
        exact keepL (w.heap.size + 1) w.heap.size j vc 1 c _ rc i cc B4 V A R G (.pointer (some ⟨w.heap.size, 0, none⟩)) wy hn (HIR.out.fr hy (fun q hq h => absurd (HIR.out.lt q hq).2 (by omega))) (HGB.out.fr hy (fun h => absurd h (by omega)))))
      go_wp2_with fail
      refine HFI.out.mono ?_
      rintro e w3 ⟨V3, vc3, vr3, vals3, rfl, hV3, hs3, hr3, hf3⟩
      obtain ⟨A3, c3, hv3⟩ := row_shape hr3.own
      subst hv3
      rw [show ([xs] : List (List Int)).length = 1 from rfl] at *
      have C3 := HRB.out.fr hf3 (fun h => h)
      have hlcb := C3.lt
      have f0 := C3.frozen 0
      have f1 := C3.frozen 1
      have cc0 : w3.cell? ⟨w.heap.size + 1 + 1, 0, none⟩ = some (.slice none 0 0) := C3.cell 0
      have cc12 : w3.cell? ⟨w.heap.size + 1 + 1, 1, none⟩ = some (.slice none 0 0) := C3.cell 1
      have hb2 := C3.set_ 0 (.slice V3 j vc3)
      have cc1 : (w3.setCell ⟨w.heap.size + 1 + 1, 0, none⟩ (.slice V3 j vc3)).cell? ⟨w.heap.size + 1 + 1, 1, none⟩ = some (.slice none 0 0) := hb2.cell 1
      have f12 : (w3.setCell ⟨w.heap.size + 1 + 1, 0, none⟩ (.slice V3 j vc3)).frozen? ⟨w.heap.size + 1 + 1, 1, none⟩ = false := hb2.frozen 1
      have hl2 := hb2.lt
      have HB3 := Lib.hid (show Blk ((w3.setCell ⟨w.heap.size + 1 + 1, 0, none⟩ (.slice V3 j vc3)).setCell ⟨w.heap.size + 1 + 1, 1, none⟩ (.slice A3 1 c3)) (w.heap.size + 1 + 1) 63 #[.slice V3 j vc3, .slice A3 1 c3] from hb2.set_ 1 (.slice A3 1 c3))
      have FS : Fr (fun q => q = w.heap.size + 1 + 1) w3 ((w3.setCell ⟨w.heap.size + 1 + 1, 0, none⟩ (.slice V3 j vc3)).setCell ⟨w.heap.size + 1 + 1, 1, none⟩ (.slice A3 1 c3)) := ((Fr.refl (fun q => q = w.heap.size + 1 + 1) w3).setCell ⟨w.heap.size + 1 + 1, 0, none⟩ (fun _ => rfl) _).setCell ⟨w.heap.size + 1 + 1, 1, none⟩ (fun _ => rfl) _
      have hev3 : EvBlk w3 vb b sp er := Blk.fr HEV.out hf3 (fun h => h)
      have hd3 := HD.out.frF hf3
      have HPOST := Lib.hid (show GroupPost w vb b r B i sp room (.returned (.agg #[.slice V3 j vc3, .slice A3 1 c3])) ((w3.setCell ⟨w.heap.size + 1 + 1, 0, none⟩ (.slice V3 j vc3)).setCell ⟨w.heap.size + 1 + 1, 1, none⟩ (.slice A3 1 c3)) from
        ⟨j, V3, vc3, A3, c3, vals3, xs, vt, er, l, rfl, hj, hV3, ownsRow_base (ownsRow_fr hs3 FS (fun q hq e => own_blk_ne hs3 C3 (by decide) (by rw [hq, e]))) hszr, (hr3.frB C3 (by decide) (by decide) FS).base hszr, hxl, Blk.fr hev3 FS (fun e => Blk.ne_ hev3 C3 (by decide) e),
          hd3.fr FS (fun e => Blk.ne_ hd3.blk C3 (by decide) e) (fun e => hd3.map.ne_blk C3 e.symm) (fun q hq e => own_blk_ne hd3.row C3 (by decide) (by rw [hq, e])), (HKP.out.new hf3 (fun _ h => h.elim) hB).new FS (fun q e => by omega) hB, hbd⟩)
      clear hb2 FS hs3 hr3 hf3 C3 hev3 hd3 hbd
      go_wp2_with fail
      exact bodyPost_ret (v := .agg #[.slice V3 j vc3, .slice A3 1 c3]) (results_cell_row rfl _ _ (w.heap.size + 1 + 1) 63 _ (0, 0) _ rfl HB3.out Tryz.underlying63 rfl (by kernel_rfl)) rfl HPOST.out

end Go.Proofs.YtebddgdkndmpjaaGreatDoor
