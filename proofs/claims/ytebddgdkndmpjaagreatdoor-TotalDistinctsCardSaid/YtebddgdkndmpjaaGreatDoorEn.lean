/- The input, as it is read: rows of three terms of the document's. -/
import Derived.Test.YtebddgdkndmpjaaGreatDoorGy
import Derived.ProofKit
import Derived.OpenShut
import Derived.Deep.Slices
import Derived.Deep.Strs
import Derived.Lib.SmallJoins
namespace Go.Proofs.YtebddgdkndmpjaaGreatDoor
set_option linter.unusedVariables false
open Go.ChangeShapes Go.WideShapes Go.Deep Go.RowKit

theorem Tryz.cellsA : Tryz.prog.cellsOf 124 = 12 := by kernel_rfl
theorem Tryz.cellsT : Tryz.prog.cellsOf 52 = 4 := by kernel_rfl
theorem Tryz.cellsI : Tryz.prog.cellsOf 3 = 1 := by kernel_rfl
theorem Tryz.cellsS : Tryz.prog.cellsOf 9 = 1 := by kernel_rfl

section
variable {H : Type} {enc : TypeId × Value → H} {w : World} {base : Nat} {spare : Nat → Bool} {held : Bool}

set_option maxRecDepth 10000 in
theorem term_of {n : Nat} {cs : List Value} {x : DataW H × List MemPlace} (hl : cs.length = 4) (h : DataW.trod enc Tryz.prog w base spare held n 52 cs = some x) :
    ∃ y : DT, cs = y.list := by
  obtain ⟨y0, y1, y2, y3, m, hx, hlen, h0, h1, h2, h3⟩ := Go.Joins.trod_struct4 Tryz.underlying52 h
  match cs, hl with
  | [v0, v1, v2, v3], _ =>
    simp only [Tryz.cellsI, Tryz.cellsS] at h0 h1 h2 h3
    obtain ⟨t, e0, _, _⟩ := DataW.trod_int Tryz.underlying3 h0
    obtain ⟨s1, e1, _, _⟩ := DataW.trod_string Tryz.underlying9 h1
    obtain ⟨s2, e2, _, _⟩ := DataW.trod_string Tryz.underlying9 h2
    obtain ⟨s3, e3, _, _⟩ := DataW.trod_string Tryz.underlying9 h3
    simp at e0 e1 e2 e3
    subst e0 e1 e2 e3
    exact ⟨⟨t, s1, s2, s3⟩, rfl⟩

set_option maxRecDepth 10000 in
theorem three_of {n : Nat} {cs : List Value} {x : DataW H × List MemPlace} {a : Addr} (hc : w.cells? base a 12 = some cs) (h : DataW.trod enc Tryz.prog w base spare held n 124 cs = some x) :
    a.spot = none ∧ ∃ y : D3, ∀ j, j < 12 → w.cell? ⟨a.block, a.off + j, none⟩ = y.list[j]? := by
  obtain ⟨_, hl, hat⟩ := World.cells?_some hc
  obtain ⟨xs, m, _, _, hlen, hxl, hg⟩ := DataW.trod_array Tryz.underlying124 h
  have g0 := hg 0 (by omega)
  have g1 := hg 1 (by omega)
  have g2 := hg 2 (by omega)
  rw [Tryz.cellsT] at g0 g1 g2
  match xs, hxl with
  | [z0, z1, z2], _ =>
    obtain ⟨t0, f0⟩ := term_of (by rw [List.length_take, List.length_drop]; omega) g0
    obtain ⟨t1, f1⟩ := term_of (by rw [List.length_take, List.length_drop]; omega) g1
    obtain ⟨t2, f2⟩ := term_of (by rw [List.length_take, List.length_drop]; omega) g2
    have hv : cs = (⟨t0, t1, t2⟩ : D3).list := by
      show cs = t0.list ++ t1.list ++ t2.list
      rw [← f0, ← f1, ← f2]
      have e1 : cs = cs.take 4 ++ cs.drop 4 := (List.take_append_drop 4 cs).symm
      have e2 : cs.drop 4 = (cs.drop 4).take 4 ++ (cs.drop 4).drop 4 := (List.take_append_drop 4 _).symm
      have e3 : (cs.drop 4).drop 4 = (cs.drop 8).take 4 := by
        rw [List.drop_drop, List.take_of_length_le (by rw [List.length_drop]; omega)]
      rw [e3] at e2
      rw [e2] at e1
      simpa [List.append_assoc] using e1
    have c0 := hat 0 (by omega)
    have hne : ∃ v, cs[0]? = some v := ⟨cs[0]'(by omega), List.getElem?_eq_getElem (by omega)⟩
    obtain ⟨v, hv0⟩ := hne
    rw [hv0] at c0
    have hs : a.spot = none := World.cell?_spot c0
    refine ⟨hs, ⟨t0, t1, t2⟩, fun j hj => ?_⟩
    obtain ⟨b, o, sp⟩ := a
    simp only at hs
    subst hs
    have h2 := hat j hj
    rw [Go.WideShapes.add_plain] at h2
    rw [← hv]
    exact h2

theorem open_in {fuel : Nat} {v : Value} {a : Option Addr} {len cap : Nat} {x : DataW H × List MemPlace} (hv : v = .slice a len cap) (h : DataW.trod enc Tryz.prog w base spare held fuel 59 v.cells.toList = some x) :
    len ≤ maxLen ∧ ∃ zs, IsIn w a len cap zs := by
  subst hv
  rcases open_slice Tryz.underlying59 h with ⟨hcs, _⟩ | ⟨a', len', cap', m, n, D, Pl, hcs, _, hl, hcm, hm, _, hall⟩
  · simp [Value.cells] at hcs
    obtain ⟨rfl, rfl, rfl⟩ := hcs
    exact ⟨Nat.zero_le _, [], .inl ⟨rfl, rfl, rfl, rfl⟩⟩
  · simp [Value.cells] at hcs
    obtain ⟨rfl, rfl, rfl⟩ := hcs
    have hlm : len ≤ m := by rw [hm]; split <;> omega
    rw [Tryz.cellsA] at hall
    have hk : ∀ i, i < len → ∃ y : D3, a'.spot = none ∧ ∀ j, j < 12 → w.cell? ⟨a'.block, a'.off + i * 12 + j, none⟩ = y.list[j]? := fun i hi => by
      obtain ⟨cs', hc', ht'⟩ := hall i (by omega)
      obtain ⟨hs, y, hy⟩ := three_of hc' ht'
      have hsp : a'.spot = none := by
        obtain ⟨cs0, hc0, ht0⟩ := hall 0 (by omega)
        have := (three_of hc0 ht0).1
        simpa [Addr.add] using this
      obtain ⟨b, o, sp⟩ := a'
      simp only at hsp
      subst hsp
      rw [Go.WideShapes.add_plain] at hy
      exact ⟨y, rfl, hy⟩
    refine ⟨Nat.le_trans hl hcm, (List.range len).map fun i => if hi : i < len then (hk i hi).choose else default, .inr ⟨a', rfl, hl, by simp, fun i hi => ?_⟩⟩
    have e : ((List.range len).map fun i => if hi : i < len then (hk i hi).choose else default).getD i default = (hk i hi).choose := by
      simp [List.getD_eq_getElem?_getD, hi]
    rw [e]
    exact (hk i hi).choose_spec
end

end Go.Proofs.YtebddgdkndmpjaaGreatDoor
