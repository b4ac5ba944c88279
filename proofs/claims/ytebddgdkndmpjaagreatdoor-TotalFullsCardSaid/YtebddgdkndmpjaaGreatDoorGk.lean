/- The dictionary: New, Find, Put: walked. -/
import Derived.Test.YtebddgdkndmpjaaGreatDoorGj
import Derived.Deep.CutBlock
import Derived.Deep.RegionLawGrows
import Derived.Deep.Cut
import Derived.Deep.CutRange
import Derived.WalkKit
import Derived.WalkLawsBesides
import Derived.WalkSpells
import Derived.Deep.QuietTactic
import Derived.BigRegion
import Derived.BigQuiet
import Derived.Lib.Hide
import Derived.Outline
import Derived.Deep.AppendLies
import Derived.Deep.RegionLaw
import Derived.Deep.RegionWith
import Derived.Deep.RegionHeld3
import Derived.Deep.LoopGhost
import Derived.Deep.DeepFit
import Derived.Laws.ResultCell
import Derived.Laws.RangeAny
import Derived.Deep.MidRow
import Derived.StillTailTactics
import Derived.OpenShut
namespace Go.Proofs.YtebddgdkndmpjaaGreatDoor
set_option linter.unusedVariables false
open Go.RowKit Go

theorem row_shape {w : World} {B : Nat} {e : TypeId} {size n : Nat} {v : Value} {xs : List Value} (h : w.ownsRow B e size v n xs) : ∃ A c, v = .slice A n c := by
  rcases h.2 with ⟨h1, h2⟩ | ⟨g, cap, cur, h1, _⟩
  · exact ⟨none, 0, by rw [h1, h2]⟩
  · exact ⟨_, _, h1⟩
theorem info37 : (Tryz.prog.info? 35).map (fun i => (i.zero, i.size, i.bytes)) = some (some .nilIface, 1, 16) := by kernel_rfl
theorem Tm.one (t : Tm) : t.val.oneCell' = true := by cases t <;> rfl

/-- A dictionary in memory. -/
structure IsDict (w : World) (B b r : Nat) (vt : Value) (ts : List Tm) (room : Int) : Prop where
  blk : Blk w b 150 #[vt, .map (some r), .int .i64 room]
  row : w.ownsRow B 35 1 vt ts.length (ts.map Tm.val)
  map : MapAt w r ts
  leb : B ≤ b
  ler : B ≤ r

theorem MapAt.ne_blk {w : World} {r g : Nat} {ts : List Tm} {t : TypeId} {cs : Array Value} (h : MapAt w r ts) (hb : Blk w g t cs) : g ≠ r := by
  rintro rfl
  obtain ⟨es, clock, hg, _⟩ := h
  unfold Blk at hb
  rw [hb] at hg
  cases hg
theorem MapAt.ne_row {w : World} {r B e size n : Nat} {ts : List Tm} {v : Value} {xs : List Value} (h : MapAt w r ts) (hr : w.ownsRow B e size v n xs) : v.ownBlock ≠ some r := by
  rcases hr.2 with ⟨rfl, _⟩ | ⟨g, cap, cur, rfl, _, hh, _⟩
  · simp [Value.ownBlock]
  · intro he
    have : g = r := by simpa [Value.ownBlock] using he
    exact h.ne_blk (show Blk w g e cur from hh) this
theorem IsDict.fr {S : Nat → Prop} {w w' : World} {B b r : Nat} {vt : Value} {ts : List Tm} {room : Int} (h : IsDict w B b r vt ts room) (hf : Fr S w w') (h1 : ¬ S b) (h2 : ¬ S r) (h3 : ∀ k, vt.ownBlock = some k → ¬ S k) : IsDict w' B b r vt ts room :=
  ⟨h.blk.fr hf h1, ownsRow_fr h.row hf h3, h.map.fr hf h2, h.leb, h.ler⟩
theorem IsDict.frF {w w' : World} {B b r : Nat} {vt : Value} {ts : List Tm} {room : Int} (h : IsDict w B b r vt ts room) (hf : Fr (fun _ => False) w w') : IsDict w' B b r vt ts room := h.fr hf (fun h => h) (fun h => h) (fun _ _ h => h)

theorem mk_map (w : World) : (Instr.makeMap 147 none).run Tryz.prog w = .ok (.map (some w.heap.size)) (w.alloc (.map #[] 0)) := rfl

set_option maxRecDepth 100000 in
set_option maxHeartbeats 4000000 in
theorem dnew_any (room : Int) (w : World) (h1 : 1 ≤ room) (h2 : room ≤ 65536) :
    Calls Tryz.prog 22 #[.int .i64 room] w fun e w' => e = .returned (.tuple #[.pointer (some ⟨w.heap.size + 1, 0, none⟩), .int .i64 0]) ∧ IsDict w' w.heap.size (w.heap.size + 1) w.heap.size (.slice none 0 0) [] room ∧ Fr (fun _ => False) w w' := by
  have hmk := mk_map
  have hm : MapAt (w.alloc (.map #[] 0)) w.heap.size [] := ⟨#[], 0, heap_alloc_new w _, trivial⟩
  have hsz : (w.alloc (.map #[] 0)).heap.size = w.heap.size + 1 := by simp
  have hb := Blk.new (w.alloc (.map #[] 0)) 150 #[.slice none 0 0, .map (some w.heap.size), .int .i64 room]
  rw [hsz] at hb
  have F : Fr (fun _ => False) w ((w.alloc (.map #[] 0)).alloc (.cells #[.slice none 0 0, .map (some w.heap.size), .int .i64 room] 150)) := ((Fr.refl _ _).alloc _).alloc _
  have hm2 := hm.fr ((Fr.refl (fun _ => False) _).alloc (.cells #[.slice none 0 0, .map (some w.heap.size), .int .i64 room] 150)) (fun h => h)
  have FIN := Lib.hid (show IsDict ((w.alloc (.map #[] 0)).alloc (.cells #[.slice none 0 0, .map (some w.heap.size), .int .i64 room] 150)) w.heap.size (w.heap.size + 1) w.heap.size (.slice none 0 0) [] room from
    ⟨hb, World.ownsRow_nil _ _ _ _, hm2, by omega, Nat.le_refl _⟩)
  have HF := Lib.hid F
  clear hm hsz hb F hm2
  go_enter Tryz.func22, Tryz.ntmps22
  go_wp2_with fail
  go_ret2
  exact ⟨rfl, FIN.out, HF.out⟩

/-- What Find answers. -/
noncomputable def findN (ts : List Tm) (t : Tm) : Int := if t.good = true then (((idxT ts t).getD 0 : Nat) : Int) else 0
noncomputable def findE (ts : List Tm) (t : Tm) : Int := if t.good = true ∧ (idxT ts t).isSome = true then 0 else 4

set_option maxRecDepth 100000 in
set_option maxHeartbeats 4000000 in
theorem find_any (w : World) (B b r : Nat) (vt : Value) (ts : List Tm) (room : Int) (t : Tm) (hd : IsDict w B b r vt ts room) (hs : t.short) :
    Calls Tryz.prog 71 #[.pointer (some ⟨b, 0, none⟩), t.val] w fun e w' => e = .returned (.tuple #[.int .i64 (findN ts t), .int .i64 (findE ts t)]) ∧ Fr (fun _ => False) w w' := by
  have HG := Lib.hid (fun w => tgood_any t w hs)
  have HN := Lib.hid (show findN ts t = if t.good = true then (((idxT ts t).getD 0 : Nat) : Int) else 0 from rfl)
  have HE := Lib.hid (show findE ts t = if t.good = true ∧ (idxT ts t).isSome = true then 0 else 4 from rfl)
  generalize findN ts t = fn at *
  generalize findE ts t = fe at *
  have HD := Lib.hid hd
  generalize hg : t.good = g at *
  clear hd hg
  cases g with
  | false =>
    go_enter Tryz.func71, Tryz.ntmps71
    go_wp2_with fail
    refine (HG.out _).mono ?_
    rintro e w1 ⟨rfl, hf⟩
    have HF := Lib.hid hf
    clear hf
    go_wp2_with fail
    go_ret2
    exact ⟨by rw [HN.out, HE.out]; simp, HF.out⟩
  | true =>
    go_enter Tryz.func71, Tryz.ntmps71
    go_wp2_with fail
    refine (HG.out _).mono ?_
    rintro e w1 ⟨rfl, hf⟩
    have hd1 := HD.out.frF hf
    have c1 : w1.cell? ⟨b, 1, none⟩ = some (.map (some r)) := hd1.blk.cell 1
    have hlk := run_lookup_tm hd1.map t
    have HF := Lib.hid hf
    clear hf hd1
    generalize idxT ts t = ix at *
    cases ix with
    | none =>
      simp only [Option.getD_none, Option.isSome_none] at hlk
      go_wp2_with fail
      go_ret2
      exact ⟨by rw [HN.out, HE.out]; simp, HF.out⟩
    | some j =>
      simp only [Option.getD_some, Option.isSome_some] at hlk
      go_wp2_with fail
      go_ret2
      exact ⟨by rw [HN.out, HE.out]; simp, HF.out⟩

end Go.Proofs.YtebddgdkndmpjaaGreatDoor
