/- A law on append, the source a row of the call's own, nil let in. -/
import Derived.Test.YtgcmdoinihehcaaMem
import Derived.Laws.AppendOwnNone
import Derived.Maps.AppendAt
import Derived.OwnWalk
namespace Go.Proofs.Ytgcmdoinihehcaa
set_option linter.unusedVariables false
open Go Go.RowKit

theorem wpList_append_rows {P : Program} {w : World} {ops : Array Oper} {rest : List Oper} {o : Oper} {a : Act} {Q : Exit → Act → World → Prop} (hgd : o.guard = none) (s x : Operand) (t : TypeId)
    (ho : o.op = .call { callee := .builtin .append, args := #[s, x], argTypes := #[t, t] })
    (base : Nat) (e : TypeId) (i : TypeInfo) (z : Value) (size bytes : Nat) (ht : P.underlying t = some (.slice e)) (hi : P.info? e = some i) (hz : i.zero = some z)
    (hsize : i.size = size) (hby : i.bytes = bytes) (hzs : z.cells.size = size) (hsz : 0 < size)
    (v : Value) (n : Nat) (xs : List Value) (hs : a.eval s = v) (hown : w.ownsRow base e size v n xs)
    (bs : Nat) (y : Value) (m : Nat) (news : List Value) (hx : a.eval x = y) (hy : w.ownsRow bs e size y m news) (h1 : ∀ u ∈ news, u.oneCell' = true)
    (h63 : n + m ≤ maxLen) (hbytes : (n + m) * bytes ≤ 140737488355328) (hbase : base ≤ w.heap.size)
    (h : ∀ v' w', w'.ownsRow base e size v' (n + m) (xs ++ news) → w.grownBy w' v.ownBlock → (v'.ownBlock = v.ownBlock ∨ v'.ownBlock = some w.heap.size) → wpList P ops Q rest (a.put o.dst v') w') :
    wpList P ops Q (o :: rest) a w := by
  rcases hy.2 with ⟨hv0, hm0⟩ | ⟨g, cap, cur, hv0, hb, hg, hmc, hcm, hcs, htk⟩
  · subst hm0
    have hn : news = [] := List.eq_nil_of_length_eq_zero (by simpa using hy.1)
    subst hn
    rw [hv0] at hx
    refine wpList_append_own_none hgd s x t ho base e i size ht hi v n xs hs hown hx ?_
    exact h v w (by simpa using hown) ⟨rfl, rfl, rfl, Nat.le_refl _, fun _ _ _ => rfl⟩ (.inl rfl)
  · rw [hv0] at hx
    refine wpList_append_own_at w hgd s x t ho base e i z size bytes ht hi hz hsize hby hzs hsz v n xs hs hown ⟨g, 0, none⟩ m cap news hx hy.1 ?_ h1 h63 hbytes hbase fun v' w' h2 h3 _ h5 => h v' w' h2 h3 h5
    exact hy.cells (by rw [hv0]; rfl)

end Go.Proofs.Ytgcmdoinihehcaa
