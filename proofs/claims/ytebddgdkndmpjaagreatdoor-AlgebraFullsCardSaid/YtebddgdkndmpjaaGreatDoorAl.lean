/- A table with one more var: walked. -/
import Derived.Test.YtebddgdkndmpjaaGreatDoorAh
import Derived.Test.YtebddgdkndmpjaaGreatDoorAi
import Derived.Deep.CutBlock
import Derived.Deep.RegionLawGrows
import Derived.Deep.Cut
import Derived.Deep.CutRange
import Derived.WalkKit
import Derived.WalkLawsBesides
import Derived.WalkSpells
import Derived.Deep.QuietTactic
import Derived.BigRegion
import Derived.BigQuiet
import Derived.Lib.Hide
import Derived.Outline
import Derived.Deep.AppendLies
import Derived.Deep.RegionLaw
import Derived.Deep.RegionWith
import Derived.Deep.RegionHeld3
import Derived.Deep.LoopGhost
import Derived.Deep.DeepFit
import Derived.Laws.ResultCell
import Derived.Laws.RangeAny
import Derived.Deep.MidRow
import Derived.StillTailTactics
import Derived.OpenShut
namespace Go.Proofs.YtebddgdkndmpjaaGreatDoor
set_option linter.unusedVariables false
open Go.RowKit Go

set_option maxRecDepth 100000 in
set_option maxHeartbeats 4000000 in
/-- What is told of each var by the row, and of the new one. -/
theorem ext1_any (vb nb tb rb k m vc n c rc B B' p : Nat) (V A R : Option Addr) (ss : List ByteArray) (x y : ByteArray) (z : Int) (fnd : Bool) (xs : List Int) (w : World)
    (hm : m ≤ 4096) (hv : IsVar ss x p fnd) (hx : xs.length = m) (hs : w.ownsRow B 9 1 (.slice V m vc) m (ss.map .string)) (hr : IntRow w B' (.slice R m rc) xs)
    (h1 : Blk w vb 9 #[.string y]) (h2 : Blk w nb 3 #[.int .i64 z]) (h3 : Blk w tb 63 #[.slice V m vc, .slice A n c]) (h4 : Blk w rb 48 #[.slice R m rc]) :
    Calls Tryz.prog 237 #[.string x, .pointer (some ⟨vb, 0, none⟩), .pointer (some ⟨nb, 0, none⟩), .pointer (some ⟨tb, 0, none⟩), .pointer (some ⟨rb, 0, none⟩)] w fun e w' => e = .returned (.int .i64 (if (x.toList == y.toList) = true then z else valN p fnd xs)) ∧ Fr (fun _ => False) w w' := by
  have HV := Lib.hid (value_any m vc B B' p V (.slice A n c) ss x fnd (.slice R m rc) xs w hm hv hx hs hr)
  have c1 : w.cell? ⟨vb, 0, none⟩ = some (.string y) := h1.cell 0
  have c2 : w.cell? ⟨nb, 0, none⟩ = some (.int .i64 z) := h2.cell 0
  have c3 : w.cell? ⟨tb, 0, none⟩ = some (.slice V m vc) := h3.cell 0
  have c4 : w.cell? ⟨tb, 1, none⟩ = some (.slice A n c) := h3.cell 1
  have c5 : w.cell? ⟨rb, 0, none⟩ = some (.slice R m rc) := h4.cell 0
  generalize valN p fnd xs = u at *
  clear hv hx hs hr h1 h2 h3 h4
  by_cases hxy : (x.toList == y.toList) = true
  · rw [if_pos hxy]
    go_enter Tryz.func237, Tryz.ntmps237
    go_wp2_with fail
    go_ret
    exact ⟨rfl, Fr.refl _ _⟩
  · rw [if_neg hxy]
    have hxy' : (x.toList == y.toList) = false := by simpa using hxy
    go_enter Tryz.func237, Tryz.ntmps237
    go_wp2_with fail
    refine HV.out.mono ?_
    rintro e w1 ⟨rfl, hf⟩
    go_wp2_with fail
    go_ret
    exact ⟨rfl, hf⟩

end Go.Proofs.YtebddgdkndmpjaaGreatDoor
