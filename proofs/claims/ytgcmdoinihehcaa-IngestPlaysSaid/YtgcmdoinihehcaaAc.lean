/- A slice of acts that came in: what its cells hold. -/
import Derived.Test.YtgcmdoinihehcaaMem
import Derived.ProofKit
import Derived.OpenShut
import Derived.Deep.Slices
import Derived.Deep.Strs
namespace Go.Proofs.Ytgcmdoinihehcaa
set_option linter.unusedVariables false
open Go.ChangeShapes Go.WideShapes Go.Deep Go.RowKit

structure Act where
  kind : Int
  time : Int
  k0 : Int
  k1 : Int
  k2 : Int

instance : Inhabited Act := ⟨⟨0, 0, 0, 0, 0⟩⟩

/-- An act's cells at an address, each fitting its kind. -/
structure ActAt (w : World) (b o : Nat) (x : Act) : Prop where
  c0 : w.cell? ⟨b, o, none⟩ = some (.int .u8 x.kind)
  c1 : w.cell? ⟨b, o + 1, none⟩ = some (.int .i64 x.time)
  c2 : w.cell? ⟨b, o + 2, none⟩ = some (.int .i64 x.k0)
  c3 : w.cell? ⟨b, o + 3, none⟩ = some (.int .i64 x.k1)
  c4 : w.cell? ⟨b, o + 4, none⟩ = some (.int .i64 x.k2)
  w0 : 0 ≤ x.kind ∧ x.kind ≤ 255
  w1 : -9223372036854775808 ≤ x.time ∧ x.time ≤ 9223372036854775807

/-- Of a slice of acts that came in: it is nil, or it leads to a row of them. -/
def IsActs (w : World) (a : Option Addr) (len cap : Nat) (zs : List Act) : Prop :=
  (a = none ∧ len = 0 ∧ cap = 0 ∧ zs = []) ∨
  ∃ x : Addr, a = some x ∧ len ≤ cap ∧ zs.length = len ∧ ∀ i, i < len → x.spot = none ∧ ActAt w x.block (x.off + i * 5) (zs.getD i default)

theorem IsActs.len_ {w : World} {a : Option Addr} {len cap : Nat} {zs : List Act} (h : IsActs w a len cap zs) : zs.length = len := by
  rcases h with ⟨_, h1, _, h2⟩ | ⟨_, _, _, h, _⟩
  · rw [h2, h1]; rfl
  · exact h

theorem IsActs.at_ {w : World} {a : Option Addr} {len cap : Nat} {zs : List Act} (h : IsActs w a len cap zs) {i : Nat} (hi : i < len) :
    ∃ b o, a = some ⟨b, o, none⟩ ∧ len ≤ cap ∧ b < w.heap.size ∧ ActAt w b (o + i * 5) (zs.getD i default) := by
  rcases h with ⟨_, h, _, _⟩ | ⟨x, rfl, hl, _, hc⟩
  · omega
  · obtain ⟨hs, h1⟩ := hc i hi
    obtain ⟨b, o, sp⟩ := x
    simp only at hs
    subst hs
    exact ⟨b, o, rfl, hl, World.block_lt_of_cell? w _ h1.c0, h1⟩

theorem ActAt.keep {w w' : World} {b o : Nat} {x : Act} (h : ActAt w b o x) (hb : w'.heap[b]? = w.heap[b]?) : ActAt w' b o x := by
  have k : ∀ j, w'.cell? ⟨b, j, none⟩ = w.cell? ⟨b, j, none⟩ := fun j => World.cell?_of_block (a := ⟨b, j, none⟩) hb
  exact ⟨(k _).trans h.c0, (k _).trans h.c1, (k _).trans h.c2, (k _).trans h.c3, (k _).trans h.c4, h.w0, h.w1⟩

theorem Try.cells45 : Try.prog.cellsOf 45 = 5 := by kernel_rfl
theorem Try.cells30 : Try.prog.cellsOf 30 = 3 := by kernel_rfl
theorem Try.cells3 : Try.prog.cellsOf 3 = 1 := by kernel_rfl
theorem Try.cells5 : Try.prog.cellsOf 5 = 1 := by kernel_rfl

section
variable {H : Type} {enc : TypeId × Value → H} {w : World} {base : Nat} {spare : Nat → Bool} {held : Bool}

theorem act_of {n : Nat} {cs : List Value} {x : DataW H × List MemPlace} {a : Addr} (hc : w.cells? base a 5 = some cs) (h : DataW.trod enc Try.prog w base spare held n 45 cs = some x) :
    a.spot = none ∧ ∃ y, ActAt w a.block a.off y := by
  obtain ⟨_, hl, hat⟩ := World.cells?_some hc
  obtain ⟨y0, y1, y2, m, hx, hlen, h0, h1, h2⟩ := trod_struct3 Try.underlying45 h
  match cs, hl with
  | [v0, v1, v2, v3, v4], _ =>
    simp only [Try.cells5, Try.cells3, Try.cells30] at h0 h1 h2
    obtain ⟨t, e0, _, w0⟩ := DataW.trod_int Try.underlying5 h0
    obtain ⟨u, e1, _, w1⟩ := DataW.trod_int Try.underlying3 h1
    obtain ⟨xs, m', _, _, _, hxl, hg⟩ := DataW.trod_array Try.underlying30 h2
    have g0 := hg 0 (by omega)
    have g1 := hg 1 (by omega)
    have g2 := hg 2 (by omega)
    match xs, hxl with
    | [z0, z1, z2], _ =>
      simp only [Try.cells3] at g0 g1 g2
      obtain ⟨p0, f0, _, _⟩ := DataW.trod_int Try.underlying3 g0
      obtain ⟨p1, f1, _, _⟩ := DataW.trod_int Try.underlying3 g1
      obtain ⟨p2, f2, _, _⟩ := DataW.trod_int Try.underlying3 g2
      simp at e0 e1 f0 f1 f2
      subst e0 e1 f0 f1 f2
      have c0 := hat 0 (by omega)
      have hs : a.spot = none := World.cell?_spot c0
      refine ⟨hs, ⟨t, u, p0, p1, p2⟩, ?_⟩
      obtain ⟨b, o, sp⟩ := a
      simp only at hs
      subst hs
      have G : ∀ i, i < 5 → w.cell? ⟨b, o + i, none⟩ = [Value.int .u8 t, Value.int .i64 u, Value.int .i64 p0, Value.int .i64 p1, Value.int .i64 p2][i]? := fun i hi => by
        rw [← Go.WideShapes.add_plain]; exact hat i hi
      exact ⟨by simpa using G 0 (by omega), G 1 (by omega), G 2 (by omega), G 3 (by omega), G 4 (by omega), bounds_u8 w0, bounds_i64 w1⟩

theorem open_acts {fuel : Nat} {v : Value} {a : Option Addr} {len cap : Nat} {x : DataW H × List MemPlace} (hv : v = .slice a len cap) (h : DataW.trod enc Try.prog w base spare held fuel 43 v.cells.toList = some x) :
    ∃ zs, IsActs w a len cap zs := by
  subst hv
  rcases open_slice Try.underlying43 h with ⟨hcs, _⟩ | ⟨a', len', cap', m, n, D, Pl, hcs, _, hl, _, hm, _, hall⟩
  · simp [Value.cells] at hcs
    obtain ⟨rfl, rfl, rfl⟩ := hcs
    exact ⟨[], .inl ⟨rfl, rfl, rfl, rfl⟩⟩
  · simp [Value.cells] at hcs
    obtain ⟨rfl, rfl, rfl⟩ := hcs
    have hlm : len ≤ m := by rw [hm]; split <;> omega
    rw [Try.cells45] at hall
    have hk : ∀ i, i < len → ∃ y, a'.spot = none ∧ ActAt w a'.block (a'.off + i * 5) y := fun i hi => by
      obtain ⟨cs', hc', ht'⟩ := hall i (by omega)
      obtain ⟨hs, y, hy⟩ := act_of hc' ht'
      have hsp : a'.spot = none := by
        obtain ⟨cs0, hc0, ht0⟩ := hall 0 (by omega)
        have := (act_of hc0 ht0).1
        simpa [Addr.add] using this
      obtain ⟨b, o, sp⟩ := a'
      simp only at hsp
      subst hsp
      rw [Go.WideShapes.add_plain] at hy
      exact ⟨y, rfl, hy⟩
    refine ⟨(List.range len).map fun i => if hi : i < len then (hk i hi).choose else default, .inr ⟨a', rfl, hl, by simp, fun i hi => ?_⟩⟩
    have e : ((List.range len).map fun i => if hi : i < len then (hk i hi).choose else default).getD i default = (hk i hi).choose := by
      simp [List.getD_eq_getElem?_getD, hi]
    rw [e]
    exact (hk i hi).choose_spec
end

end Go.Proofs.Ytgcmdoinihehcaa
