/- Words for memory: frames, a block known whole, a row of items, a buffer. -/
import Derived.Test.YtgcmdoinihehcaaRows
import Derived.Test.YtgcmdoinihehcaaHeap
import Derived.WalkKit
import Derived.Below
import Derived.Laws.OwnMore
import Derived.Deep.Draws
import Derived.Laws.Rows
import Derived.Maps.AppendAt
import Derived.Deep.AppendLies
import Derived.WalkSmall
namespace Go.Proofs.Ytgcmdoinihehcaa
set_option linter.unusedVariables false
open Go Go.RowKit

/-- Only blocks of S, and new ones, have turned. -/
structure Fr (S : Nat → Prop) (w w' : World) : Prop where
  os : w'.os = w.os
  tape : w'.tape = w.tape
  output : w'.output = w.output
  size : w.heap.size ≤ w'.heap.size
  block : ∀ k, k < w.heap.size → ¬ S k → w'.heap[k]? = w.heap[k]?

theorem Fr.refl (S : Nat → Prop) (w : World) : Fr S w w := ⟨rfl, rfl, rfl, Nat.le_refl _, fun _ _ _ => rfl⟩
theorem Fr.mono {S T : Nat → Prop} {w w' : World} (h : Fr S w w') (hs : ∀ k, k < w.heap.size → S k → T k) : Fr T w w' :=
  ⟨h.os, h.tape, h.output, h.size, fun k hk hn => h.block k hk (fun e => hn (hs k hk e))⟩
theorem Fr.trans {S T : Nat → Prop} {a b c : World} (h : Fr S a b) (k : Fr T b c) (ht : ∀ i, i < a.heap.size → T i → S i) : Fr S a c :=
  ⟨k.os.trans h.os, k.tape.trans h.tape, k.output.trans h.output, Nat.le_trans h.size k.size,
    fun i hi hn => (k.block i (Nat.lt_of_lt_of_le hi h.size) (fun e => hn (ht i hi e))).trans (h.block i hi hn)⟩
theorem Fr.trans' {S : Nat → Prop} {a b c : World} (h : Fr S a b) (k : Fr S b c) : Fr S a c := h.trans k fun _ _ h => h
theorem Fr.drewN {S : Nat → Prop} {a w : World} (h : Fr S a w) (n : Nat) : Fr S a (w.drewN n) := ⟨h.os, h.tape, h.output, h.size, h.block⟩
theorem Fr.drew {S : Nat → Prop} {a w : World} (h : Fr S a w) : Fr S a w.drew := ⟨h.os, h.tape, h.output, h.size, h.block⟩
theorem Fr.alloc {S : Nat → Prop} {a w : World} (h : Fr S a w) (o : Obj) : Fr S a (w.alloc o) :=
  ⟨h.os, h.tape, h.output, Nat.le_trans h.size (by simp), fun k hk hn => (Below.heap_alloc w o k (Nat.lt_of_lt_of_le hk h.size)).trans (h.block k hk hn)⟩
theorem Fr.setCell {S : Nat → Prop} {a w : World} (h : Fr S a w) (p : Addr) (hp : p.block < a.heap.size → S p.block) (u : Value) : Fr S a (w.setCell p u) :=
  ⟨h.os, h.tape, h.output, by simpa [World.setCell] using h.size, fun k hk hn => (Below.heap_setCell w p u k (fun e => hn (by rw [e]; exact hp (by omega)))).trans (h.block k hk hn)⟩
theorem Fr.of_grown {w w' : World} {row : Option Nat} (h : w.grownBy w' row) : Fr (fun k => row = some k) w w' :=
  ⟨h.os, h.tape, h.output, h.size, fun k hk hn => h.block k hk (fun e => hn e.symm)⟩
theorem Fr.grown {S : Nat → Prop} {a w w' : World} {row : Option Nat} (h : Fr S a w) (g : w.grownBy w' row) (hr : ∀ k, k < a.heap.size → row = some k → S k) : Fr S a w' :=
  h.trans (Fr.of_grown g) hr
theorem Fr.below {S : Nat → Prop} {w w' : World} {B : Nat} (h : Fr S w w') (hB : B ≤ w.heap.size) (hs : ∀ k, S k → B ≤ k) : Below B w w' :=
  ⟨h.os, h.tape, h.output, h.size, fun k hk => h.block k (by omega) (fun e => by have := hs k e; omega)⟩
theorem Fr.of_below {w w' : World} (h : Below w.heap.size w w') (S : Nat → Prop) : Fr S w w' :=
  ⟨h.os, h.tape, h.output, h.size, fun k hk _ => h.block k hk⟩

/-- A block that is known whole. -/
def Blk (w : World) (g : Nat) (t : TypeId) (cs : Array Value) : Prop := w.heap[g]? = some (.cells cs t (0, 0))

section
variable {w w' : World} {g : Nat} {t : TypeId} {cs : Array Value}
theorem Blk.lt (h : Blk w g t cs) : g < w.heap.size := by
  rcases Nat.lt_or_ge g w.heap.size with hlt | hge
  · exact hlt
  · unfold Blk at h; rw [Array.getElem?_eq_none hge] at h; cases h
theorem Blk.cell (h : Blk w g t cs) (i : Nat) : w.cell? ⟨g, i, none⟩ = cs[i]? := cell_of_row w g i cs t (0, 0) h
theorem Blk.frozen (h : Blk w g t cs) (i : Nat) : w.frozen? ⟨g, i, none⟩ = false := by
  unfold Blk at h
  simp [World.frozen?, h]
theorem Blk.new (w : World) (t : TypeId) (cs : Array Value) : Blk (w.alloc (.cells cs t)) w.heap.size t cs := heap_alloc_new w _
theorem Blk.drew (h : Blk w g t cs) : Blk w.drew g t cs := h
theorem Blk.drewN (h : Blk w g t cs) (n : Nat) : Blk (w.drewN n) g t cs := h
theorem Blk.alloc (h : Blk w g t cs) (o : Obj) : Blk (w.alloc o) g t cs := (Below.heap_alloc w o g h.lt).trans h
theorem Blk.set_ (h : Blk w g t cs) (i : Nat) (u : Value) : Blk (w.setCell ⟨g, i, none⟩ u) g t (cs.setIfInBounds i u) := by
  unfold Blk at h ⊢
  simp [World.setCell, Array.getElem?_modify, h]
theorem Blk.far (h : Blk w g t cs) {p : Addr} (hp : g ≠ p.block) (u : Value) : Blk (w.setCell p u) g t cs := (Below.heap_setCell w p u g hp).trans h
theorem Blk.fr {S : Nat → Prop} (h : Blk w g t cs) (hb : Fr S w w') (hg : ¬ S g) : Blk w' g t cs := (hb.block g h.lt hg).trans h
theorem Blk.ne_ {g' : Nat} {t' : TypeId} {cs' : Array Value} (h : Blk w g t cs) (h' : Blk w g' t' cs') (hne : t ≠ t') : g ≠ g' := by
  rintro rfl
  unfold Blk at h h'
  rw [h] at h'
  injection h' with h'
  injection h' with _ ht
  exact hne ht
theorem own_blk_ne {base : Nat} {e : TypeId} {size n : Nat} {v : Value} {xs : List Value} (h : w.ownsRow base e size v n xs) (hg : Blk w g t cs) (hne : e ≠ t) : v.ownBlock ≠ some g := by
  rcases h.2 with ⟨rfl, _⟩ | ⟨g', cap, cur, rfl, _, hh, _⟩
  · simp [Value.ownBlock]
  · intro he
    have : g' = g := by simpa [Value.ownBlock] using he
    subst this
    exact Blk.ne_ (t := e) hh hg hne rfl
end

theorem ownsRow_fr {S : Nat → Prop} {w w' : World} {base : Nat} {e : TypeId} {size n : Nat} {v : Value} {xs : List Value} (h : w.ownsRow base e size v n xs) (hf : Fr S w w') (hs : ∀ k, v.ownBlock = some k → ¬ S k) : w'.ownsRow base e size v n xs := by
  refine ⟨h.1, ?_⟩
  rcases h.2 with hn | ⟨g, cap, cur, rfl, hb, hgg, rest⟩
  · exact .inl hn
  · refine .inr ⟨g, cap, cur, rfl, hb, ?_, rest⟩
    rw [hf.block g (Array.getElem?_eq_some_iff.1 hgg).1 (hs g rfl)]
    exact hgg

/-- An item's cells. -/
def itemCells (x : Item) : List Value := [.int .i64 x.t, .int .i64 x.s, .int .i64 x.k0, .int .i64 x.k1, .int .i64 x.k2]
def qCells (q : Array Item) : List Value := q.toList.flatMap itemCells

theorem flat_len (l : List Item) : (l.flatMap itemCells).length = l.length * 5 := by
  induction l with
  | nil => rfl
  | cons x l ih => rw [List.flatMap_cons, List.length_append, ih]; simp [itemCells]; omega
theorem flat_get : ∀ (l : List Item) (i j : Nat) (h : i < l.length), j < 5 → (l.flatMap itemCells)[i * 5 + j]? = (itemCells l[i])[j]?
  | x :: l, 0, j, _, hj => by
    rw [List.flatMap_cons, List.getElem?_append_left (by simp [itemCells]; omega)]; simp
  | x :: l, i + 1, j, h, hj => by
    rw [List.flatMap_cons, List.getElem?_append_right (by simp [itemCells]; omega)]
    have := flat_get l i j (by simpa using h) hj
    rw [show (i + 1) * 5 + j - (itemCells x).length = i * 5 + j by simp [itemCells]; omega, this]
    rfl

theorem qCells_len (q : Array Item) : (qCells q).length = q.size * 5 := by rw [qCells, flat_len, Array.length_toList]
theorem qCells_get (q : Array Item) (i j : Nat) (h : i < q.size) (hj : j < 5) : (qCells q)[i * 5 + j]? = (itemCells q[i]!)[j]? := by
  unfold qCells
  rw [flat_get _ i j (by simpa using h) hj, getElem!_pos q i h]
  simp

theorem qCells_push (q : Array Item) (x : Item) : qCells (q.push x) = qCells q ++ itemCells x := by simp [qCells]

theorem qCells_set (q : Array Item) (i : Nat) (x : Item) (h : i < q.size) :
    qCells (q.setIfInBounds i x) = (((((qCells q).set (i * 5) (.int .i64 x.t)).set (i * 5 + 1) (.int .i64 x.s)).set (i * 5 + 2) (.int .i64 x.k0)).set (i * 5 + 3) (.int .i64 x.k1)).set (i * 5 + 4) (.int .i64 x.k2) := by
  apply List.ext_getElem?
  intro m
  by_cases hm : m < q.size * 5
  · obtain ⟨a, b, hb, rfl⟩ : ∃ a b, b < 5 ∧ m = a * 5 + b := ⟨m / 5, m % 5, by omega, by omega⟩
    have ha : a < q.size := by omega
    have hl := qCells_len q
    rw [qCells_get _ a b (by simpa using ha) hb]
    simp only [List.getElem?_set, List.length_set, hl]
    by_cases e : i = a
    · subst e
      have hx : (q.setIfInBounds i x)[i]! = x := by simp [ha]
      rw [hx]
      have : b = 0 ∨ b = 1 ∨ b = 2 ∨ b = 3 ∨ b = 4 := by omega
      rcases this with rfl | rfl | rfl | rfl | rfl
      · rw [if_neg (by omega), if_neg (by omega), if_neg (by omega), if_neg (by omega), if_pos (by omega), if_pos (by omega)]; rfl
      · rw [if_neg (by omega), if_neg (by omega), if_neg (by omega), if_pos (by omega), if_pos (by omega)]; rfl
      · rw [if_neg (by omega), if_neg (by omega), if_pos (by omega), if_pos (by omega)]; rfl
      · rw [if_neg (by omega), if_pos (by omega), if_pos (by omega)]; rfl
      · rw [if_pos (by omega), if_pos (by omega)]; rfl
    · rw [if_neg (by omega), if_neg (by omega), if_neg (by omega), if_neg (by omega), if_neg (by omega), qCells_get _ a b ha hb]
      congr 2
      simp [getElem!_def, e]
  · rw [List.getElem?_eq_none (by rw [qCells_len]; simpa using hm), List.getElem?_eq_none (by simp [qCells_len]; omega)]

/-- A row of items. -/
abbrev QRow (w : World) (B : Nat) (v : Value) (q : Array Item) : Prop := w.ownsRow B 41 5 v q.size (qCells q)

theorem QRow.form {w : World} {B : Nat} {v : Value} {q : Array Item} (h : QRow w B v q) (hn : 0 < q.size) : ∃ g cap, v = .slice (some ⟨g, 0, none⟩) q.size cap ∧ B ≤ g ∧ g < w.heap.size := World.ownsRow.form h hn
theorem QRow.shape {w : World} {B : Nat} {v : Value} {q : Array Item} (h : QRow w B v q) : ∃ A c, v = .slice A q.size c := by
  rcases h.2 with ⟨rfl, h0⟩ | ⟨g, cap, cur, hv, _⟩
  · exact ⟨none, 0, by rw [h0]⟩
  · exact ⟨_, _, hv⟩

/-- The five cells of an item of a row. -/
theorem QRow.cells {w : World} {B : Nat} {g n cap : Nat} {q : Array Item} (h : QRow w B (.slice (some ⟨g, 0, none⟩) n cap) q) {i : Nat} (hi : i < q.size) :
    w.cell? ⟨g, i * 5, none⟩ = some (.int .i64 q[i]!.t) ∧ w.cell? ⟨g, i * 5 + 1, none⟩ = some (.int .i64 q[i]!.s) ∧ w.cell? ⟨g, i * 5 + 2, none⟩ = some (.int .i64 q[i]!.k0) ∧
    w.cell? ⟨g, i * 5 + 3, none⟩ = some (.int .i64 q[i]!.k1) ∧ w.cell? ⟨g, i * 5 + 4, none⟩ = some (.int .i64 q[i]!.k2) := by
  have hn : n = q.size := by
    rcases h.2 with ⟨h0, _⟩ | ⟨g', cap', cur, hv, _⟩
    · cases h0
    · injection hv
  subst hn
  have G : ∀ j, j < 5 → w.cell? ⟨g, i * 5 + j, none⟩ = (itemCells q[i]!)[j]? := fun j hj => by
    rw [World.ownsRow.cellAt h (i * 5 + j) (by omega), qCells_get q i j hi hj]
  exact ⟨G 0 (by omega), G 1 (by omega), G 2 (by omega), G 3 (by omega), G 4 (by omega)⟩

theorem QRow.n_eq {w : World} {B : Nat} {A : Option Addr} {n cap : Nat} {q : Array Item} (h : QRow w B (.slice A n cap) q) : n = q.size := by
  rcases h.2 with ⟨h0, h1⟩ | ⟨g', cap', cur, hv, _⟩
  · injection h0 with _ h2 _; omega
  · injection hv

/-- Five stores into a row of items. -/
theorem QRow.store {w : World} {B : Nat} {g n cap : Nat} {q : Array Item} (h : QRow w B (.slice (some ⟨g, 0, none⟩) n cap) q) {i : Nat} (hi : i < q.size) (x : Item) :
    QRow (((((w.setCell ⟨g, i * 5, none⟩ (.int .i64 x.t)).setCell ⟨g, i * 5 + 1, none⟩ (.int .i64 x.s)).setCell ⟨g, i * 5 + 2, none⟩ (.int .i64 x.k0)).setCell ⟨g, i * 5 + 3, none⟩ (.int .i64 x.k1)).setCell ⟨g, i * 5 + 4, none⟩ (.int .i64 x.k2)) B
      (.slice (some ⟨g, 0, none⟩) n cap) (q.setIfInBounds i x) := by
  have hn := h.n_eq
  subst hn
  have h5 := ((((h.stored (i * 5) (.int .i64 x.t)).1.stored (i * 5 + 1) (.int .i64 x.s)).1.stored (i * 5 + 2) (.int .i64 x.k0)).1.stored (i * 5 + 3) (.int .i64 x.k1)).1.stored (i * 5 + 4) (.int .i64 x.k2)
  have := h5.1
  unfold QRow
  rw [qCells_set q i x hi, Array.size_setIfInBounds]
  exact this

theorem QRow.drewN {w : World} {B : Nat} {v : Value} {q : Array Item} (h : QRow w B v q) (n : Nat) : QRow (w.drewN n) B v q := h
theorem QRow.drew {w : World} {B : Nat} {v : Value} {q : Array Item} (h : QRow w B v q) : QRow w.drew B v q := h
theorem QRow.fr {S : Nat → Prop} {w w' : World} {B : Nat} {v : Value} {q : Array Item} (h : QRow w B v q) (hf : Fr S w w') (hs : ∀ k, v.ownBlock = some k → ¬ S k) : QRow w' B v q := ownsRow_fr h hf hs

theorem qCells_pop (q : Array Item) {m : Nat} (h : q.size = m + 1) : qCells q = qCells q.pop ++ itemCells q[m]! := by
  rw [← qCells_push]
  congr 1
  rw [getElem!_pos q m (by omega)]
  have : q ≠ #[] := by intro e; subst e; simp at h
  apply Array.ext_getElem?
  intro i
  simp only [Array.getElem?_push, Array.size_pop, h, Nat.add_sub_cancel, Array.getElem?_pop]
  by_cases hi : i = m
  · subst hi; simp
  · rw [if_neg hi]
    by_cases hlt : i < m
    · simp [hlt]
    · rw [if_neg hlt, Array.getElem?_eq_none (by omega)]

theorem QRow.pop {w : World} {B : Nat} {g n cap : Nat} {q : Array Item} {m : Nat} (h : QRow w B (.slice (some ⟨g, 0, none⟩) n cap) q) (hs : q.size = m + 1) :
    QRow w B (.slice (some ⟨g, 0, none⟩) m cap) q.pop := by
  have hn := h.n_eq
  subst hn
  unfold QRow at h ⊢
  have e : q.pop.size = m := by simp [hs]
  rw [e]
  rw [qCells_pop q hs, hs] at h
  exact ownsRow_pop (by rw [qCells_len, e]) h

end Go.Proofs.Ytgcmdoinihehcaa
