/- Arguments that are arrays of two integers, opened. -/
import Derived.Test.YtgcmdoinihehcaaAc
namespace Go.Proofs.Ytgcmdoinihehcaa
set_option linter.unusedVariables false
open Go.ChangeShapes Go.WideShapes Go.Deep Go.RowKit

section
variable {H : Type} {enc : TypeId × Value → H} {w : World} {base : Nat} {spare : Nat → Bool} {held : Bool} {d : DataW H} {p : List MemPlace}

theorem Try.cells49 : Try.prog.cellsOf 49 = 2 := by kernel_rfl
theorem Try.cells51 : Try.prog.cellsOf 51 = 2 := by kernel_rfl

theorem open_pair49 {r : Reach} {b0 : Nat} {v : Value} (hv : Value.okWide Try.prog w r b0 49 v) (h : DataW.Trod enc Try.prog w base spare held 49 v d p) :
    ∃ x0 x1 : Int, v = .agg #[.int .u8 x0, .int .u8 x1] ∧ (Lit.int .u8 x0).wf = true ∧ (Lit.int .u8 x1).wf = true := by
  simp only [Value.okWide, Try.underlying49] at hv
  obtain ⟨cs, rfl, hsz, _⟩ := hv
  rw [Try.cells49] at hsz
  obtain ⟨l⟩ := cs
  match l, hsz with
  | [c0, c1], _ =>
    obtain ⟨fuel, hf⟩ := h
    obtain ⟨xs, m', _, _, _, hxl, hg⟩ := DataW.trod_array Try.underlying49 hf
    have g0 := hg 0 (by omega)
    have g1 := hg 1 (by omega)
    match xs, hxl with
    | [z0, z1], _ =>
      simp only [Try.cells5, Value.cells] at g0 g1
      obtain ⟨p0, f0, _, w0⟩ := DataW.trod_int Try.underlying5 g0
      obtain ⟨p1, f1, _, w1⟩ := DataW.trod_int Try.underlying5 g1
      simp at f0 f1
      subst f0 f1
      exact ⟨p0, p1, rfl, w0, w1⟩

theorem open_pair51 {r : Reach} {b0 : Nat} {v : Value} (hv : Value.okWide Try.prog w r b0 51 v) (h : DataW.Trod enc Try.prog w base spare held 51 v d p) :
    ∃ x0 x1 : Int, v = .agg #[.int .i64 x0, .int .i64 x1] ∧ (Lit.int .i64 x0).wf = true ∧ (Lit.int .i64 x1).wf = true := by
  simp only [Value.okWide, Try.underlying51] at hv
  obtain ⟨cs, rfl, hsz, _⟩ := hv
  rw [Try.cells51] at hsz
  obtain ⟨l⟩ := cs
  match l, hsz with
  | [c0, c1], _ =>
    obtain ⟨fuel, hf⟩ := h
    obtain ⟨xs, m', _, _, _, hxl, hg⟩ := DataW.trod_array Try.underlying51 hf
    have g0 := hg 0 (by omega)
    have g1 := hg 1 (by omega)
    match xs, hxl with
    | [z0, z1], _ =>
      simp only [Try.cells3, Value.cells] at g0 g1
      obtain ⟨p0, f0, _, w0⟩ := DataW.trod_int Try.underlying3 g0
      obtain ⟨p1, f1, _, w1⟩ := DataW.trod_int Try.underlying3 g1
      simp at f0 f1
      subst f0 f1
      exact ⟨p0, p1, rfl, w0, w1⟩
end

end Go.Proofs.Ytgcmdoinihehcaa
