/- The document's buffer in memory: words that its walks share. -/
import Derived.Test.YtgcmdoinihehcaaPm
namespace Go.Proofs.Ytgcmdoinihehcaa
set_option linter.unusedVariables false
open Go.RowKit Go

theorem results_row_tmp {P : Program} {fn : Func} {p u : Tmp} {ty : TypeId} (h : fn.results = #[.cell p ty, .tmp u]) (tmps : Array Value) (w : World) (g : Nat) (t : TypeId) (cs : Array Value) (fr : Nat × Nat) (d : TypeDesc)
    (hp : tmps.getD p undef = .pointer (some ⟨g, 0, none⟩)) (hg : w.heap[g]? = some (.cells cs t fr))
    (hu : P.underlying ty = some d) (hd : (match d with | .struct _ | .array _ _ => true | _ => false) = true) (hi : (P.info? ty).map (·.size) = some cs.size) (v : Value) (hv : tmps.getD u undef = v) :
    (results fn tmps).run P w = .ok (.tuple #[.agg cs, v]) w := by
  rw [results_cell_tmp h, hp, hv]
  simp [asAddr, run_loadVar_row w g t ty cs fr d hg hu hd hi]

abbrev rAgg (r : RB) (vw vs vc : Value) : Value := .agg (bCells r.lat r.room vw vs vc r.num r.late r.closed)
abbrev zB : Array Value := #[.int .i64 0, .int .i64 0, .slice none 0 0, .slice none 0 0, .slice none 0 0, .int .i64 0, .int .i64 0, .bool false]
def iCells (l : List Item) : List Value := l.flatMap itemCells
theorem iCells_one (l : List Item) : ∀ u ∈ iCells l, u.oneCell' = true := by
  intro u hu
  unfold iCells at hu
  rw [List.mem_flatMap] at hu
  obtain ⟨x, _, hx⟩ := hu
  exact itemCells_one x u hx
theorem iCells_append (a b : List Item) : iCells a ++ iCells b = iCells (a ++ b) := by simp [iCells]
theorem iCells_len (l : List Item) : (iCells l).length = l.length * 5 := flat_len l
theorem info73 : (Try.prog.info? 73).map (fun i => (i.zero, i.size, i.bytes)) = some (some (.agg #[.int .i64 0, .int .i64 0, .int .i64 0, .int .i64 0, .int .i64 0]), 5, 40) := by kernel_rfl

theorem row_base {w : World} {B B' : Nat} {e : TypeId} {size n : Nat} {v : Value} {xs : List Value} (h : w.ownsRow B e size v n xs) (hB : B' ≤ B) : w.ownsRow B' e size v n xs := by
  refine ⟨h.1, ?_⟩
  rcases h.2 with hn | ⟨g, cap, cur, rfl, hb, rest⟩
  · exact .inl hn
  · exact .inr ⟨g, cap, cur, rfl, Nat.le_trans hB hb, rest⟩

/-- The rows of a buffer. -/
structure RMem (w : World) (n0 : Nat) (r : RB) (vw vs vc : Value) : Prop where
  wait : w.ownsRow n0 73 5 vw r.wait.length (iCells r.wait)
  seen : w.ownsRow n0 3 1 vs r.seen.length (ints r.seen)
  shown : w.ownsRow n0 3 1 vc r.shown.length (ints r.shown)

theorem RMem.fr {S : Nat → Prop} {w w' : World} {n0 : Nat} {r : RB} {vw vs vc : Value} (h : RMem w n0 r vw vs vc) (hf : Fr S w w') (hs : ∀ k, n0 ≤ k → k < w.heap.size → ¬ S k) : RMem w' n0 r vw vs vc :=
  ⟨ownsRow_fr h.wait hf fun k hk => hs k (World.ownsRow.lt h.wait k hk).1 (World.ownsRow.lt h.wait k hk).2, ownsRow_fr h.seen hf fun k hk => hs k (World.ownsRow.lt h.seen k hk).1 (World.ownsRow.lt h.seen k hk).2,
    ownsRow_fr h.shown hf fun k hk => hs k (World.ownsRow.lt h.shown k hk).1 (World.ownsRow.lt h.shown k hk).2⟩
theorem RMem.frF {w w' : World} {n0 : Nat} {r : RB} {vw vs vc : Value} (h : RMem w n0 r vw vs vc) (hf : Fr (fun _ => False) w w') : RMem w' n0 r vw vs vc := h.fr hf fun _ _ _ h => h

/-- A frame that leaves all that was there. -/
theorem Fr.shut {n : Nat} {w w' : World} (h : Fr (fun j => n ≤ j) w w') (hn : w.heap.size ≤ n) : Fr (fun _ => False) w w' := ⟨h.os, h.tape, h.output, h.size, fun k hk _ => h.block k hk (by omega)⟩

/-- Eight cells are stored. -/
theorem Blk.set8 {w : World} {g : Nat} {t : TypeId} {cs : Array Value} (h : Blk w g t cs) (hc : cs.size = 8) (v0 v1 v2 v3 v4 v5 v6 v7 : Value) :
    Blk ((((((((w.setCell ⟨g, 0, none⟩ v0).setCell ⟨g, 1, none⟩ v1).setCell ⟨g, 2, none⟩ v2).setCell ⟨g, 3, none⟩ v3).setCell ⟨g, 4, none⟩ v4).setCell ⟨g, 5, none⟩ v5).setCell ⟨g, 6, none⟩ v6).setCell ⟨g, 7, none⟩ v7) g t #[v0, v1, v2, v3, v4, v5, v6, v7] ∧
    Fr (fun j => j = g) w ((((((((w.setCell ⟨g, 0, none⟩ v0).setCell ⟨g, 1, none⟩ v1).setCell ⟨g, 2, none⟩ v2).setCell ⟨g, 3, none⟩ v3).setCell ⟨g, 4, none⟩ v4).setCell ⟨g, 5, none⟩ v5).setCell ⟨g, 6, none⟩ v6).setCell ⟨g, 7, none⟩ v7) := by
  refine ⟨?_, ?_⟩
  · have e : ((((((((cs.setIfInBounds 0 v0).setIfInBounds 1 v1).setIfInBounds 2 v2).setIfInBounds 3 v3).setIfInBounds 4 v4).setIfInBounds 5 v5).setIfInBounds 6 v6).setIfInBounds 7 v7) = #[v0, v1, v2, v3, v4, v5, v6, v7] := by
      obtain ⟨l⟩ := cs
      match l, hc with
      | [a0, a1, a2, a3, a4, a5, a6, a7], _ => simp
    exact e ▸ (((((((h.set_ 0 v0).set_ 1 v1).set_ 2 v2).set_ 3 v3).set_ 4 v4).set_ 5 v5).set_ 6 v6).set_ 7 v7
  · iterate 8 (refine Fr.setCell ?_ _ (by intro _; rfl) _)
    exact Fr.refl _ _

theorem Blk.cells8 {w : World} {g : Nat} {t : TypeId} {v0 v1 v2 v3 v4 v5 v6 v7 : Value} (h : Blk w g t #[v0, v1, v2, v3, v4, v5, v6, v7]) :
    w.cell? ⟨g, 0, none⟩ = some v0 ∧ w.cell? ⟨g, 1, none⟩ = some v1 ∧ w.cell? ⟨g, 2, none⟩ = some v2 ∧ w.cell? ⟨g, 3, none⟩ = some v3 ∧ w.cell? ⟨g, 4, none⟩ = some v4 ∧ w.cell? ⟨g, 5, none⟩ = some v5 ∧ w.cell? ⟨g, 6, none⟩ = some v6 ∧ w.cell? ⟨g, 7, none⟩ = some v7 :=
  ⟨h.cell 0, h.cell 1, h.cell 2, h.cell 3, h.cell 4, h.cell 5, h.cell 6, h.cell 7⟩
theorem Blk.free8 {w : World} {g : Nat} {t : TypeId} {cs : Array Value} (h : Blk w g t cs) :
    w.frozen? ⟨g, 0, none⟩ = false ∧ w.frozen? ⟨g, 1, none⟩ = false ∧ w.frozen? ⟨g, 2, none⟩ = false ∧ w.frozen? ⟨g, 3, none⟩ = false ∧ w.frozen? ⟨g, 4, none⟩ = false ∧ w.frozen? ⟨g, 5, none⟩ = false ∧ w.frozen? ⟨g, 6, none⟩ = false ∧ w.frozen? ⟨g, 7, none⟩ = false :=
  ⟨h.frozen 0, h.frozen 1, h.frozen 2, h.frozen 3, h.frozen 4, h.frozen 5, h.frozen 6, h.frozen 7⟩

end Go.Proofs.Ytgcmdoinihehcaa
