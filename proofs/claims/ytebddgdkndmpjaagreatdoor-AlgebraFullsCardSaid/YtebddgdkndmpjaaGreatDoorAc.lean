/- The document's empty group; what vars stand for by a row: walked. -/
import Derived.Test.YtebddgdkndmpjaaGreatDoorAb
import Derived.Deep.CutBlock
import Derived.Deep.RegionLawGrows
import Derived.Deep.Cut
import Derived.Deep.CutRange
import Derived.WalkKit
import Derived.WalkLawsBesides
import Derived.WalkSpells
import Derived.Deep.QuietTactic
import Derived.BigRegion
import Derived.BigQuiet
import Derived.Lib.Hide
import Derived.Outline
import Derived.Deep.AppendLies
import Derived.Deep.RegionLaw
import Derived.Deep.RegionWith
import Derived.Deep.RegionHeld3
import Derived.Deep.LoopGhost
import Derived.Deep.DeepFit
import Derived.Laws.ResultCell
import Derived.Laws.RangeAny
import Derived.Deep.MidRow
import Derived.StillTailTactics
import Derived.OpenShut
namespace Go.Proofs.YtebddgdkndmpjaaGreatDoor
set_option linter.unusedVariables false
open Go.RowKit Go

set_option maxRecDepth 100000 in
set_option maxHeartbeats 4000000 in
theorem awake31_any (w : World) : Calls Tryz.prog 31 #[] w (IsB true w) := by
  have HD := Lib.hid (fun w => dnew_any 5 w (by decide) (by decide))
  have HS := Lib.hid (fun w => snew_any 5 w (by decide) (by decide))
  have HE := Lib.hid (fun d s w => eval0 d s w)
  go_enter Tryz.func31, Tryz.ntmps31
  go_wp2_with fail
  refine (HD.out _).mono ?_
  rintro e w1 ⟨rfl, _, hf1⟩
  go_wp2_with fail
  refine (HS.out _).mono ?_
  rintro e w2 ⟨rfl, hf2⟩
  go_wp2_with fail
  refine (HE.out _ _ _).mono ?_
  rintro e w3 ⟨vr, vals, rfl, hr, hf3⟩
  obtain ⟨A, c, hv⟩ := row_shape hr.own
  subst hv
  rw [show ([[]] : List (List Int)).length = 1 from rfl]
  go_wp2_with fail
  go_ret
  exact ⟨rfl, ((hf1.trans' hf2).trans' hf3).alloc _⟩

set_option maxRecDepth 100000 in
set_option maxHeartbeats 4000000 in
theorem env_any (d V A R : Option Addr) (m vc n c k rc : Nat) (w : World) :
    Calls Tryz.prog 37 #[.pointer d, .agg #[.slice V m vc, .slice A n c], .slice R k rc] w fun e w' => e = .returned (.func (.func 85) #[] #[.pointer (some ⟨w.heap.size, 0, none⟩), .pointer (some ⟨w.heap.size + 1, 0, none⟩), .pointer (some ⟨w.heap.size + 1 + 1, 0, none⟩)]) ∧
      w' = ((w.alloc (.cells #[.pointer d] 60)).alloc (.cells #[.slice V m vc, .slice A n c] 63)).alloc (.cells #[.slice R k rc] 48) := by
  go_enter Tryz.func37, Tryz.ntmps37
  go_wp2_with fail
  go_ret
  exact ⟨rfl, rfl⟩

set_option maxRecDepth 100000 in
set_option maxHeartbeats 4000000 in
theorem env1_any (db tb rb m vc n c rc B B' B2 b r p : Nat) (V A R : Option Addr) (vt : Value) (ts : List Tm) (room : Int) (ss : List ByteArray) (v : ByteArray) (fnd : Bool) (xs : List Int) (w : World)
    (hm : m ≤ 4096) (hv : IsVar ss v p fnd) (hx : xs.length = m) (hs : w.ownsRow B 9 1 (.slice V m vc) m (ss.map .string)) (hr : IntRow w B' (.slice R m rc) xs) (hd : IsDict w B2 b r vt ts room) (hl : ts.length ≤ 100000)
    (h1 : Blk w db 60 #[.pointer (some ⟨b, 0, none⟩)]) (h2 : Blk w tb 63 #[.slice V m vc, .slice A n c]) (h3 : Blk w rb 48 #[.slice R m rc]) :
    Calls Tryz.prog 85 #[.string v, .pointer (some ⟨db, 0, none⟩), .pointer (some ⟨tb, 0, none⟩), .pointer (some ⟨rb, 0, none⟩)] w fun e w' => e = .returned (.tuple #[termV (termN ts (valN p fnd xs)), .bool (termN ts (valN p fnd xs)).isSome]) ∧ Fr (fun _ => False) w w' := by
  have HV := Lib.hid (fun wy (hf : Fr (fun _ => False) w wy) => value_any m vc B B' p V (.slice A n c) ss v fnd (.slice R m rc) xs wy hm hv hx (ownsRow_fr hs hf (fun _ _ h => h)) (hr.fr hf (fun _ _ h => h)))
  have HT := Lib.hid (fun wy (hf : Fr (fun _ => False) w wy) => term_any B2 b r vt ts room (valN p fnd xs) wy (hd.frF hf) hl)
  have c1 := h1.cell 0
  have c2 := h2.cell 0
  have c3 := h2.cell 1
  have c4 := h3.cell 0
  simp only [List.getElem?_toArray, List.getElem?_cons_zero, List.getElem?_cons_succ] at c1 c2 c3 c4
  generalize valN p fnd xs = nv at *
  have HCK := Lib.hid (fun wy (hf : Fr (fun _ => False) w wy) => show (wy.cell? ⟨db, 0, none⟩ = some (.pointer (some ⟨b, 0, none⟩)) ∧ wy.cell? ⟨tb, 0, none⟩ = some (.slice V m vc) ∧ wy.cell? ⟨tb, 1, none⟩ = some (.slice A n c) ∧ wy.cell? ⟨rb, 0, none⟩ = some (.slice R m rc)) from ⟨cell_fr hf c1, cell_fr hf c2, cell_fr hf c3, cell_fr hf c4⟩)
  clear hv hx hs hr hd h1 h2 h3
  generalize termN ts nv = o at *
  cases o with
  | none =>
    simp only [termV, termE, Option.isSome] at HT ⊢
    go_enter Tryz.func85, Tryz.ntmps85
    go_wp2_with fail
    go_region_held3 (fun wy => wy.cell? ⟨db, 0, none⟩ = some (.pointer (some ⟨b, 0, none⟩)) ∧ wy.cell? ⟨tb, 0, none⟩ = some (.slice V m vc) ∧ wy.cell? ⟨tb, 1, none⟩ = some (.slice A n c) ∧ wy.cell? ⟨rb, 0, none⟩ = some (.slice R m rc))
      (first | exact HCK.out _ F1 | exact HCK.out _ (Fr.refl (fun _ => False) w).drew)
      (first
        | (go_at_call 27; refine (HV.out _ (Fr.refl (fun _ => False) w).drew).mono ?_; rintro e w1 ⟨rfl, hf1⟩; have F1 : Fr (fun _ => False) w w1 := ((Fr.refl (fun _ => False) w).drew).trans' hf1)
        | (go_at_call 34; refine (HT.out _ F1).mono ?_; rintro e w2 ⟨rfl, rfl⟩))
    all_goals
      go_wp2_with fail
      go_ret2
      exact ⟨rfl, F1⟩
  | some t =>
    obtain ⟨d0, x0, hsh⟩ := Tm.shape t
    simp only [termV, termE, Option.isSome] at HT ⊢
    rw [hsh] at HT ⊢
    go_enter Tryz.func85, Tryz.ntmps85
    go_wp2_with fail
    go_region_held3 (fun wy => wy.cell? ⟨db, 0, none⟩ = some (.pointer (some ⟨b, 0, none⟩)) ∧ wy.cell? ⟨tb, 0, none⟩ = some (.slice V m vc) ∧ wy.cell? ⟨tb, 1, none⟩ = some (.slice A n c) ∧ wy.cell? ⟨rb, 0, none⟩ = some (.slice R m rc))
      (first | exact HCK.out _ F1 | exact HCK.out _ (Fr.refl (fun _ => False) w).drew)
      (first
        | (go_at_call 27; refine (HV.out _ (Fr.refl (fun _ => False) w).drew).mono ?_; rintro e w1 ⟨rfl, hf1⟩; have F1 : Fr (fun _ => False) w w1 := ((Fr.refl (fun _ => False) w).drew).trans' hf1)
        | (go_at_call 34; refine (HT.out _ F1).mono ?_; rintro e w2 ⟨rfl, rfl⟩))
    all_goals
      go_wp2_with fail
      go_ret2
      exact ⟨rfl, F1⟩

end Go.Proofs.YtebddgdkndmpjaaGreatDoor
