/- The two buffers side by side in memory: the invariant of the play. -/
import Derived.Test.YtgcmdoinihehcaaWk
import Derived.Test.YtgcmdoinihehcaaPn
namespace Go.Proofs.Ytgcmdoinihehcaa
set_option linter.unusedVariables false
open Go.RowKit Go

section
variable {w w' : World} {B b : Nat} {v : Value} {s : St} {q : Array Item}
theorem keep_blk {g : Nat} {t : TypeId} {cs : Array Value} (hb : IsBuf w B b v s q) (hk : Blk w g t cs) (h1 : t ≠ 65) (h2 : t ≠ 41) (hf : Fr (fun j => j = b ∨ v.ownBlock = some j) w w') : Blk w' g t cs := by
  refine hk.fr hf fun h => ?_
  rcases h with h | h
  · exact hk.ne_ hb.pq.blk h1 h
  · exact own_blk_ne hb.pq.row hk (Ne.symm h2) h
theorem keep_row {B' e size n : Nat} {u : Value} {xs : List Value} (hb : IsBuf w B b v s q) (hr : w.ownsRow B' e size u n xs) (h1 : e ≠ 65) (h2 : e ≠ 41) (hf : Fr (fun j => j = b ∨ v.ownBlock = some j) w w') : w'.ownsRow B' e size u n xs := by
  refine ownsRow_fr hr hf fun k hk h => ?_
  rcases h with h | h
  · subst h; exact own_blk_ne hr hb.pq.blk h1 hk
  · exact own_own_ne hr hb.pq.row h2 k hk h
theorem keep_mem {n0 : Nat} {r : RB} {vw vs vc : Value} (hb : IsBuf w B b v s q) (hm : RMem w n0 r vw vs vc) (hf : Fr (fun j => j = b ∨ v.ownBlock = some j) w w') : RMem w' n0 r vw vs vc :=
  ⟨keep_row hb hm.wait (by decide) (by decide) hf, keep_row hb hm.seen (by decide) (by decide) hf, keep_row hb hm.shown (by decide) (by decide) hf⟩
theorem keep_buf {g : Nat} {cs : Array Value} (hb : IsBuf w B b v s q) (hk : Blk w g 54 cs) (hf : Fr (fun j => j = g) w w') : IsBuf w' B b v s q :=
  hb.fr hf (fun h => hk.ne_ hb.pq.blk (by decide) h.symm) (fun k hk' h => own_blk_ne hb.pq.row hk (by decide) (by rw [hk', h]))
theorem keep_row54 {g : Nat} {cs : Array Value} {B' e size n : Nat} {u : Value} {xs : List Value} (hk : Blk w g 54 cs) (hr : w.ownsRow B' e size u n xs) (he : e ≠ 54) (hf : Fr (fun j => j = g) w w') : w'.ownsRow B' e size u n xs :=
  ownsRow_fr hr hf fun k hk' h => own_blk_ne hr hk he (by rw [hk', h])
theorem keep_mem54 {g : Nat} {cs : Array Value} {n0 : Nat} {r : RB} {vw vs vc : Value} (hk : Blk w g 54 cs) (hm : RMem w n0 r vw vs vc) (hf : Fr (fun j => j = g) w w') : RMem w' n0 r vw vs vc :=
  ⟨keep_row54 hk hm.wait (by decide) hf, keep_row54 hk hm.seen (by decide) hf, keep_row54 hk hm.shown (by decide) hf⟩
end

theorem rPush_lat (r : RB) (t k0 k1 k2 : Int) : (rPush r t k0 k1 k2).lat = r.lat ∧ (rPush r t k0 k1 k2).room = r.room := by
  unfold rPush
  split
  · exact ⟨rfl, rfl⟩
  · split <;> exact ⟨rfl, rfl⟩
theorem rTick_lat (r : RB) (t : Int) : (rTick r t).lat = r.lat ∧ (rTick r t).room = r.room := by
  unfold rTick
  split <;> exact ⟨rfl, rfl⟩

theorem take_goes {k : Nat} {s : St} {q t q2 : Array Item} {r : RB} (h : RP k s q r) (ht : Taken q t q2) (htm : ∀ y ∈ t.toList, y.t < s.mark) (hrm : ∀ y ∈ q2.toList, s.mark ≤ y.t) :
    (∀ y ∈ t.toList, goes r.mark false y = true) ∧ ∀ y ∈ q2.toList, goes r.mark false y = false := by
  rw [h.markEq]
  have hsz := ht.size
  cases hm : s.marked with
  | false =>
    have h0 := h.noneIn hm
    have ht0 : t.toList = [] := List.eq_nil_of_length_eq_zero (by rw [Array.length_toList]; omega)
    have hq0 : q2.toList = [] := List.eq_nil_of_length_eq_zero (by rw [Array.length_toList]; omega)
    rw [ht0, hq0]
    exact ⟨(fun y hy => by cases hy), (fun y hy => by cases hy)⟩
  | true =>
    refine ⟨fun y hy => ?_, fun y hy => ?_⟩
    · have := htm y hy
      simp [goes, this]
    · have := hrm y hy
      simp only [goes, Bool.false_or, Bool.true_and]
      exact decide_eq_false (by omega)

theorem take_took {k : Nat} {s : St} {q t q2 : Array Item} {r : RB} (h : RP k s q r) (ht : Taken q t q2) (htm : ∀ y ∈ t.toList, y.t < s.mark) (hrm : ∀ y ∈ q2.toList, s.mark ≤ y.t) :
    t.toList = rOut r false ∧ RP (k + 1) s q2 (rTake r false) :=
  have G := take_goes h ht htm hrm
  h.took false ht G.1 G.2 (by simp)
theorem flush_took {k : Nat} {s : St} {q t q2 : Array Item} {r : RB} (h : RP k s q r) (ht : Taken q t q2) (h0 : q2.size = 0) :
    t.toList = rOut r true ∧ RP (k + 1) { s with closed := true } q2 (rTake r true) :=
  h.took true ht (fun y hy => by simp [goes]) (fun y hy => by
    have : q2.toList = [] := List.eq_nil_of_length_eq_zero (by rw [Array.length_toList]; omega)
    rw [this] at hy
    cases hy) (by simp)
theorem took_row {w : World} {o : Value} {l : List Item} {t : Array Item} (ho : w.ownsRow 0 73 5 o l.length (iCells l)) (h : t.toList = l) : w.ownsRow 0 73 5 o t.size (qCells t) := by
  subst h
  have e : t.toList.length = t.size := Array.length_toList
  rw [e] at ho
  exact ho

/-- The invariant of the play. -/
structure PI (w wr : World) (b mb : Nat) (x0 x1 : Int) (k : Nat) (s : St) (q : Array Item) (v : Value) (r : RB) (vw vs vc : Value) : Prop where
  rp : RP k s q r
  lat : r.lat = x0
  room : r.room = x1
  buf : IsBuf wr w.heap.size b v s q
  blk : Blk wr mb 54 (bCells r.lat r.room vw vs vc r.num r.late r.closed)
  mem : RMem wr 0 r vw vs vc
  fr : Fr (fun j => w.heap.size ≤ j) w wr
  own : ∀ j, v.ownBlock = some j → w.heap.size ≤ j
  le : w.heap.size ≤ mb

section
variable {w wr wr' : World} {b mb : Nat} {x0 x1 : Int} {k : Nat} {s : St} {q : Array Item} {v : Value} {r : RB} {vw vs vc : Value}
theorem PI.frF (h : PI w wr b mb x0 x1 k s q v r vw vs vc) (hf : Fr (fun _ => False) wr wr') : PI w wr' b mb x0 x1 k s q v r vw vs vc :=
  ⟨h.rp, h.lat, h.room, h.buf.frF hf, h.blk.fr hf (fun h => h), h.mem.frF hf, h.fr.trans hf (fun _ _ h => h.elim), h.own, h.le⟩
theorem PI.fit (h : PI w wr b mb x0 x1 k s q v r vw vs vc) (h0 : 0 ≤ x0) (h1 : x0 ≤ 1152921504606846976) (h2 : x1 ≤ 1000) (hk : k ≤ 1000) : Fit s :=
  h.rp.fit (by rw [h.lat]; exact h0) (by rw [h.lat]; exact h1) (by rw [h.room]; exact h2) hk

/-- The document's buffer is stored anew. -/
theorem PI.store {r' : RB} {vw' vs' vc' : Value} (h : PI w wr b mb x0 x1 k s q v r vw vs vc) (hm : RMem wr 0 r' vw' vs' vc')
    (hb : Blk wr' mb 54 (bCells r'.lat r'.room vw' vs' vc' r'.num r'.late r'.closed)) (hf : Fr (fun j => j = mb) wr wr') :
    IsBuf wr' w.heap.size b v s q ∧ RMem wr' 0 r' vw' vs' vc' ∧ Fr (fun j => w.heap.size ≤ j) w wr' :=
  ⟨keep_buf h.buf h.blk hf, keep_mem54 h.blk hm hf, h.fr.trans hf (fun i hi e => by have := h.le; omega)⟩

/-- Behind a step of the program's buffer. -/
theorem PI.next {s' : St} {q' : Array Item} {v' : Value} (hb : IsBuf wr w.heap.size b v s q) (hk : Blk wr mb 54 (bCells r.lat r.room vw vs vc r.num r.late r.closed)) (hm : RMem wr 0 r vw vs vc) (hfr : Fr (fun j => w.heap.size ≤ j) w wr)
    (hf : Fr (fun j => j = b ∨ v.ownBlock = some j) wr wr') (hb' : IsBuf wr' w.heap.size b v' s' q') (ho : ∀ j, v.ownBlock = some j → w.heap.size ≤ j) (ho' : ∀ j, v'.ownBlock = some j → w.heap.size ≤ j)
    (hrp : RP k s' q' r) (hl : r.lat = x0) (hr : r.room = x1) (hle : w.heap.size ≤ mb) : PI w wr' b mb x0 x1 k s' q' v' r vw vs vc :=
  ⟨hrp, hl, hr, hb', keep_blk hb hk (by decide) (by decide) hf, keep_mem hb hm hf, hfr.trans hf (fun i hi e => by
    rcases e with e | e
    · rw [e]; exact hb.pq.le
    · exact ho _ e), ho', hle⟩
end

end Go.Proofs.Ytgcmdoinihehcaa
