/- What holds at each round of the law on what rises: the buffer, what was taken, what came; and how each call keeps it. -/
import Derived.Test.YtgcmdoinihehcaaRp
import Derived.Test.YtgcmdoinihehcaaMa
import Derived.Test.YtgcmdoinihehcaaCa
import Derived.Test.YtgcmdoinihehcaaAr
namespace Go.Proofs.Ytgcmdoinihehcaa
set_option linter.unusedVariables false
open Go Go.RowKit

theorem own_own_ne {w : World} {B B' : Nat} {e e' : TypeId} {size size' n n' : Nat} {v v' : Value} {xs xs' : List Value} (h : w.ownsRow B e size v n xs) (h' : w.ownsRow B' e' size' v' n' xs') (hne : e ≠ e') :
    ∀ k, v.ownBlock = some k → v'.ownBlock ≠ some k := by
  intro k hk hk'
  rcases h.2 with ⟨rfl, _⟩ | ⟨g, cap, cur, rfl, _, hh, _⟩
  · cases hk
  · have e1 : g = k := by simpa [Value.ownBlock] using hk
    subst e1
    exact own_blk_ne h' (g := g) (t := e) (cs := cur) hh (Ne.symm hne) hk'

structure RW (n0 b : Nat) (a0 : Int) (w wr : World) (k : Nat) (s : St) (q : Array Item) (v : Value) (came : List Int) (out : Array Item) (ov cv : Value) : Prop where
  bi : BI a0 1000 k s q
  ri : RI came s q out
  buf : IsBuf wr n0 b v s q
  fr : Fr (fun j => n0 ≤ j) w wr
  vown : ∀ j, v.ownBlock = some j → n0 ≤ j
  orow : QRow wr n0 ov out
  crow : wr.ownsRow n0 3 1 cv came.length (came.map (Value.int .i64))
  apart : ∀ j, ov.ownBlock = some j → v.ownBlock ≠ some j
  cl : came.length ≤ k

section
variable {n0 b : Nat} {a0 : Int} {w wr w2 : World} {k : Nat} {s : St} {q : Array Item} {v : Value} {came : List Int} {out : Array Item} {ov cv : Value}

theorem RW.sz (h : RW n0 b a0 w wr k s q v came out ov cv) : out.size + q.size = came.length := by
  have := h.ri.perm.length_eq
  simpa [itemsOf] using this

/-- Nothing of it turns. -/
theorem RW.frF (h : RW n0 b a0 w wr k s q v came out ov cv) (hf : Fr (fun _ => False) wr w2) : RW n0 b a0 w w2 k s q v came out ov cv :=
  ⟨h.bi, h.ri, h.buf.frF hf, h.fr.trans' (hf.mono fun _ _ h => h.elim), h.vown, h.orow.fr hf (fun _ _ h => h), ownsRow_fr h.crow hf (fun _ _ h => h), h.apart, h.cl⟩

theorem RW.tick (h : RW n0 b a0 w wr k s q v came out ov cv) (ha : 0 ≤ a0) {t : Int} (hb : IsBuf w2 n0 b v (tickSt s t) q) (hf : Fr (fun j => j = b) wr w2) : RW n0 b a0 w w2 (k + 1) (tickSt s t) q v came out ov cv :=
  ⟨h.bi.tick ha, h.ri.tick t, hb, h.fr.trans' (hf.mono fun _ _ e => by have := h.buf.pq.le; omega), h.vown,
    h.orow.fr hf (fun j hj e => own_blk_ne h.orow h.buf.pq.blk (by decide) (by rw [hj, e])), ownsRow_fr h.crow hf (fun j hj e => own_blk_ne h.crow h.buf.pq.blk (by decide) (by rw [hj, e])), h.apart, by have := h.cl; omega⟩

/-- What a Push leaves of what was taken and what came. -/
theorem RW.rows (h : RW n0 b a0 w wr k s q v came out ov cv) (hf : Fr (fun j => j = b ∨ v.ownBlock = some j) wr w2) : QRow w2 n0 ov out ∧ w2.ownsRow n0 3 1 cv came.length (came.map (Value.int .i64)) := by
  refine ⟨h.orow.fr hf (fun j hj e => ?_), ownsRow_fr h.crow hf (fun j hj e => ?_)⟩
  · rcases e with e | e
    · exact own_blk_ne h.orow h.buf.pq.blk (by decide) (by rw [hj, e])
    · exact h.apart j hj e
  · rcases e with e | e
    · exact own_blk_ne h.crow h.buf.pq.blk (by decide) (by rw [hj, e])
    · exact own_own_ne h.crow h.buf.pq.row (by decide) j hj e

theorem RW.apart_push (h : RW n0 b a0 w wr k s q v came out ov cv) {v2 : Value} (ho : v2.ownBlock = v.ownBlock ∨ ∃ g, v2.ownBlock = some g ∧ wr.heap.size ≤ g) : ∀ j, ov.ownBlock = some j → v2.ownBlock ≠ some j := by
  intro j hj hj2
  rcases ho with ho | ⟨g, hg, hge⟩
  · exact h.apart j hj (by rw [← ho]; exact hj2)
  · rw [hg] at hj2
    injection hj2 with e
    have := (World.ownsRow.lt h.orow j hj).2
    omega

theorem RW.push (h : RW n0 b a0 w wr k s q v came out ov cv) (ha : 0 ≤ a0) (hn : n0 ≤ wr.heap.size) {t k0 k1 k2 : Int} {v2 : Value} {q2 : Array Item} (hp : Pushed wr w2 n0 b v s q t k0 k1 k2 v2 q2) (hri : RI came (pushSt s q.size t) q2 out) :
    RW n0 b a0 w w2 (k + 1) (pushSt s q.size t) q2 v2 came out ov cv := by
  have F := hp.frame (n := n0) h.buf.pq.le h.vown hn
  have R := h.rows hp.fr
  exact ⟨h.bi.push ha (fun hc => by have := hp.wait; rw [if_neg hc] at this; exact this), hri, hp.buf, h.fr.trans' F.1, F.2, R.1, R.2, h.apart_push hp.own, by have := h.cl; omega⟩

/-- Behind a Push, one that came is put down. -/
theorem RW.pushOk (h : RW n0 b a0 w wr k s q v came out ov cv) (ha : 0 ≤ a0) (hn : n0 ≤ wr.heap.size) {t : Int} {v2 cv' : Value} {q2 : Array Item} {w3 w4 : World} {O : Obj} (hc : pushCode s q.size t = 0) (hp : Pushed wr w2 n0 b v s q t (came.length : Int) 0 0 v2 q2)
    (he : w3 = w2.alloc O) (hown : w4.ownsRow n0 3 1 cv' (came.length + 1) (came.map (Value.int .i64) ++ [.int .i64 t])) (hg : w3.grownBy w4 cv.ownBlock) :
    RW n0 b a0 w w4 (k + 1) (pushSt s q.size t) q2 v2 (came ++ [t]) out ov cv' := by
  subst he
  have F := hp.frame (n := n0) h.buf.pq.le h.vown hn
  have R := h.rows hp.fr
  have hf : Fr (fun j => cv.ownBlock = some j) w2 w4 := ((Fr.refl _ w2).alloc O).trans' (Fr.of_grown hg)
  have hw := hp.wait
  rw [if_pos hc] at hw
  refine ⟨h.bi.push ha (fun hc' => absurd hc hc'), h.ri.pushOk hc hw, hp.buf.fr hf ?_ ?_, (h.fr.trans' F.1).trans hf ?_, F.2, R.1.fr hf ?_, by simpa using hown, h.apart_push hp.own, by have := h.cl; simp; omega⟩
  · exact own_blk_ne R.2 hp.buf.pq.blk (by decide)
  · exact fun j hj e => own_own_ne R.2 hp.buf.pq.row (by decide) j e hj
  · exact fun j hj e => (World.ownsRow.lt R.2 j e).1
  · exact fun j hj e => own_own_ne R.2 R.1 (by decide) j e hj

/-- What a Take (or a Flush) leaves, and the append behind it. -/
theorem RW.taken (h : RW n0 b a0 w wr k s q v came out ov cv) {s2 : St} {v2 ov' : Value} {t r : Array Item} {w3 : World} (hbi : BI a0 1000 (k + 1) s2 r) (hri : RI came s2 r (out ++ t)) (hb : IsBuf w2 n0 b v2 s2 r) (hf : Fr (fun j => j = b ∨ v.ownBlock = some j) wr w2) (hv : v2.ownBlock = v.ownBlock)
    (hown : w3.ownsRow n0 41 5 ov' (out.size + t.size) (qCells out ++ qCells t)) (hg : w2.grownBy w3 ov.ownBlock) (ho : ov'.ownBlock = ov.ownBlock ∨ ov'.ownBlock = some w2.heap.size) :
    RW n0 b a0 w w3 (k + 1) s2 r v2 came (out ++ t) ov' cv := by
  have R := h.rows hf
  have hf3 := Fr.of_grown hg
  have hlt := h.buf.pq.le
  refine ⟨hbi, hri, hb.fr hf3 ?_ ?_, (h.fr.trans hf ?_).trans hf3 ?_, fun j hj => h.vown j (by rw [← hv]; exact hj), ?_, ownsRow_fr R.2 hf3 ?_, ?_, by have := h.cl; omega⟩
  · exact own_blk_ne R.1 hb.pq.blk (by decide)
  · exact fun j hj e => h.apart j e (by rw [← hv]; exact hj)
  · intro j hj e
    rcases e with e | e
    · omega
    · exact h.vown j e
  · exact fun j hj e => (World.ownsRow.lt R.1 j e).1
  · unfold QRow
    have e : qCells (out ++ t) = qCells out ++ qCells t := by simp [qCells]
    rw [e, Array.size_append]
    exact hown
  · exact fun j hj e => own_own_ne R.1 R.2 (by decide) j e hj
  · intro j hj hj2
    rcases ho with ho | ho
    · exact h.apart j (by rw [← ho]; exact hj) (by rw [← hv]; exact hj2)
    · rw [ho] at hj
      injection hj with e
      have := (World.ownsRow.lt hb.pq.row j hj2).2
      omega
end

end Go.Proofs.Ytgcmdoinihehcaa
