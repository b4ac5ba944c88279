/- The terms of a table are those of the document's rows: plain. -/
import Derived.Test.YtflhmieeidnpgaaGreatDoorHz
import Derived.Test.YtflhmieeidnpgaaGreatDoorHx
import Derived.Test.YtflhmieeidnpgaaGreatDoorIb
import Derived.Test.YtflhmieeidnpgaaGreatDoorIc
namespace Go.Proofs.YtflhmieeidnpgaaGreatDoor
set_option linter.unusedVariables false
open Go.RowKit Go

theorem idxT_at : ∀ (ts : List Tm) (t : Tm) (j : Nat), idxT ts t = some j → ts[j]? = some t
  | [], t, j, h => by simp [idxT] at h
  | u :: us, t, j, h => by
    unfold idxT at h
    split at h
    · rename_i e
      obtain rfl : 0 = j := by simpa using h
      rw [e]
      rfl
    · cases hi : idxT us t with
      | none =>
        rw [hi] at h
        cases h
      | some k =>
        rw [hi] at h
        obtain rfl : k + 1 = j := by simpa using h
        exact idxT_at us t k hi
theorem put_at {ts : List Tm} {t : Tm} (hg : t.good = true) (hl : ts.length < 1000) : termN (putL ts t 1000) (putN ts t 1000) = some t := by
  unfold putL putN termN
  rw [if_pos hg, if_pos hg]
  cases hi : idxT ts t with
  | some j =>
    dsimp only
    rw [if_pos (by omega), Int.toNat_natCast]
    exact idxT_at ts t j hi
  | none =>
    dsimp only
    have h10 : ¬ (1000 : Int) ≤ (ts.length : Int) := by omega
    simp only [if_neg h10]
    rw [if_pos (by omega), Int.toNat_natCast]
    simp
theorem put_more (ts : List Tm) (t : Tm) (room : Int) : ∃ r, putL ts t room = ts ++ r := by
  unfold putL
  split
  · split
    · exact ⟨[], by simp⟩
    · split
      · exact ⟨[], by simp⟩
      · exact ⟨[t], rfl⟩
  · exact ⟨[], by simp⟩
theorem termN_more {ts r : List Tm} {n : Int} {t : Tm} (h : termN ts n = some t) : termN (ts ++ r) n = some t := by
  unfold termN at h ⊢
  split at h
  · rename_i h0
    rw [if_pos h0]
    have hlt : n.toNat < ts.length := by
      rcases Nat.lt_or_ge n.toNat ts.length with h1 | h1
      · exact h1
      · rw [List.getElem?_eq_none h1] at h
        cases h
    rw [List.getElem?_append_left hlt]
    exact h
  · cases h
/-- What a place of a row stands for. -/
def plT (x : DT) : Option DT := if dUse x = true then some (plainT x) else none
theorem use_good {x : DT} (h : dUse x = true) : (toTm (plainT x)).good = true := by
  unfold dUse at h
  rw [Bool.and_eq_true] at h
  have hk := kindOf_le x.kind
  refine good_ok _ ?_ ?_ h.2
  · unfold plainT
    split
    · exact (by decide : (0 : Int) ≤ 2)
    · exact hk.1
  · unfold plainT
    split
    · exact Int.le_refl _
    · exact hk.2
theorem ref_plain (x : DT) : (toTm (plainT x)).ref = plainT x := by
  have hk := kindOf_le x.kind
  unfold plainT
  split
  · rfl
  · rename_i h2
    unfold toTm
    dsimp only
    by_cases h0 : kindOf x.kind = 0
    · rw [if_pos h0, h0]
      rfl
    · rw [if_neg h0, if_pos (by omega)]
      have : kindOf x.kind = 1 := by omega
      rw [this]
      rfl
/-- A row, and what it stands for. -/
def RowIs (ts : List Tm) (xs : List Int) (d : D3) (k : Nat) : Prop := ∀ j, j < k → termN ts (xs.getD j 0) = if dUse (d.at j) = true then some (toTm (plainT (d.at j))) else none
theorem RowIs.more {ts r : List Tm} {xs : List Int} {d : D3} {k : Nat} (h : RowIs ts xs d k) (hn : ∀ j, j < k → dUse (d.at j) = false → xs.getD j 0 = -1) : RowIs (ts ++ r) xs d k := fun j hj => by
  have h2 := h j hj
  cases hu : dUse (d.at j) with
  | true =>
    rw [hu, if_pos rfl] at h2
    rw [if_pos rfl]
    exact termN_more h2
  | false =>
    rw [hn j hj hu, if_neg (by decide)]
    rfl
theorem getD_snoc {α : Type} (l : List α) (x z : α) (j : Nat) : (l ++ [x]).getD j z = if j = l.length then x else l.getD j z := by
  by_cases h : j < l.length
  · rw [if_neg (by omega), List.getD_eq_getElem?_getD, List.getElem?_append_left h, ← List.getD_eq_getElem?_getD]
  · by_cases e : j = l.length
    · rw [if_pos e, List.getD_eq_getElem?_getD, List.getElem?_append_right (by omega), e]
      simp
    · rw [if_neg e, List.getD_eq_getElem?_getD, List.getD_eq_getElem?_getD, List.getElem?_eq_none (by simp; omega), List.getElem?_eq_none (by omega)]
theorem bRowTo_is (ts : List Tm) (d : D3) (hl : ts.length + 3 < 1000) : ∀ k, k ≤ 3 → RowIs (bRowTo ts d k).ts (bRowTo ts d k).xs d k ∧ (∀ j, j < k → dUse (d.at j) = false → (bRowTo ts d k).xs.getD j 0 = -1) ∧ ∃ r, (bRowTo ts d k).ts = ts ++ r
  | 0, _ => ⟨fun j hj => absurd hj (Nat.not_lt_zero _), fun j hj => absurd hj (Nat.not_lt_zero _), [], by simp [bRowTo]⟩
  | k + 1, hk => by
    obtain ⟨h1, h2, r, h3⟩ := bRowTo_is ts d hl k (by omega)
    have hx := bRowTo_xs ts d k
    have ht := bRowTo_ts ts d k
    unfold bRowTo bElem
    cases hu : dUse (d.at k) with
    | true =>
      rw [if_pos rfl]
      dsimp only
      obtain ⟨r2, hr2⟩ := put_more (bRowTo ts d k).ts (toTm (plainT (d.at k))) 1000
      refine ⟨fun j hj => ?_, fun j hj hj2 => ?_, r ++ r2, by rw [hr2, h3, List.append_assoc]⟩
      · rw [getD_snoc, hx]
        by_cases e : j = k
        · rw [if_pos e, e, hu, if_pos rfl]
          exact put_at (use_good hu) (by omega)
        · rw [if_neg e, hr2]
          exact h1.more h2 j (by omega)
      · rw [getD_snoc, hx]
        by_cases e : j = k
        · rw [e, hu] at hj2
          cases hj2
        · rw [if_neg e]
          exact h2 j (by omega) hj2
    | false =>
      rw [if_neg (by decide)]
      dsimp only
      refine ⟨fun j hj => ?_, fun j hj hj2 => ?_, r, h3⟩
      · rw [getD_snoc, hx]
        by_cases e : j = k
        · rw [if_pos e, e, hu, if_neg (by decide)]
          rfl
        · rw [if_neg e]
          exact h1 j (by omega)
      · rw [getD_snoc, hx]
        by_cases e : j = k
        · rw [if_pos e]
        · rw [if_neg e]
          exact h2 j (by omega) hj2
theorem bTo_is (zs : List D3) : ∀ n, n ≤ 100 → ∀ i, i < n → RowIs (bTo zs n).ts ((bTo zs n).rows.getD i []) (zs.getD i default) 3 ∧ ∀ j, j < 3 → dUse ((zs.getD i default).at j) = false → ((bTo zs n).rows.getD i []).getD j 0 = -1
  | 0, _, i, hi => absurd hi (Nat.not_lt_zero _)
  | n + 1, hn, i, hi => by
    obtain ⟨hr, _, ht, _⟩ := bTo_len zs n
    obtain ⟨h1, h2, r, h3⟩ := bRowTo_is (bTo zs n).ts (zs.getD n default) (by omega) 3 (Nat.le_refl _)
    unfold bTo
    dsimp only
    rw [getD_snoc, hr]
    by_cases e : i = n
    · rw [if_pos e, e]
      exact ⟨h1, h2⟩
    · rw [if_neg e, h3]
      obtain ⟨g1, g2⟩ := bTo_is zs n (by omega) i (by omega)
      exact ⟨g1.more g2, g2⟩
/-! the document's rows -/
theorem getB_app (bs : List BD) (b : BD) (v : ByteArray) : ∀ i, i ≤ bs.length → getB (bs ++ [b]) v i = getB bs v i
  | 0, _ => rfl
  | i + 1, h => by
    have e : (bs ++ [b]).getD i bd0 = bs.getD i bd0 := by rw [getD_snoc, if_neg (by omega)]
    unfold getB
    rw [getB_app bs b v i (by omega)]
    rw [show (bs ++ [b]).getD i ⟨⟨#[]⟩, ⟨0, ⟨#[]⟩, ⟨#[]⟩, ⟨#[]⟩⟩⟩ = bs.getD i ⟨⟨#[]⟩, ⟨0, ⟨#[]⟩, ⟨#[]⟩, ⟨#[]⟩⟩⟩ from e]
theorem getB_snoc (bs : List BD) (b : BD) (v : ByteArray) : getB (bs ++ [b]) v (bs ++ [b]).length = match getB bs v bs.length with
    | some t => some t
    | none => if (b.var.toList == v.toList) = true then some b.t else none := by
  rw [List.length_append, List.length_singleton, getB, getB_app bs b v _ (Nat.le_refl _)]
  rw [show (bs ++ [b]).getD bs.length ⟨⟨#[]⟩, ⟨0, ⟨#[]⟩, ⟨#[]⟩, ⟨#[]⟩⟩⟩ = b by rw [getD_snoc, if_pos rfl]]
  cases getB bs v bs.length <;> rfl
theorem vName_ne : ∀ j, j < 4 → ∀ k, k < 3 → ((vName k).toList == (vName j).toList) = decide (k = j) := by decide +kernel
theorem bRowTo_get (ts : List Tm) (d : D3) (j : Nat) (hj : j < 4) : ∀ k, k ≤ 3 → getB (bRowTo ts d k).bs (vName j) (bRowTo ts d k).bs.length = if j < k then plT (d.at j) else none
  | 0, _ => rfl
  | k + 1, hk => by
    have ih := bRowTo_get ts d j hj k (by omega)
    unfold bRowTo bElem
    cases hu : dUse (d.at k) with
    | true =>
      rw [if_pos rfl]
      dsimp only
      rw [getB_snoc, ih]
      dsimp only
      rw [vName_ne j hj k (by omega)]
      by_cases h : j < k
      · rw [if_pos h, if_pos (show j < k + 1 by omega)]
        cases hp : plT (d.at j) with
        | some t => rfl
        | none =>
          have e1 : decide (k = j) = false := by simp; omega
          rw [e1]
          rfl
      · rw [if_neg h]
        by_cases e : k = j
        · subst e
          rw [if_pos (show k < k + 1 by omega)]
          unfold plT
          rw [hu, if_pos rfl]
          simp
        · have e1 : decide (k = j) = false := by simp [e]
          rw [e1, if_neg (show ¬ j < k + 1 by omega)]
          rfl
    | false =>
      rw [if_neg (by decide)]
      dsimp only
      rw [ih]
      by_cases e : j = k
      · subst e
        rw [if_neg (by omega), if_pos (by omega)]
        unfold plT
        rw [hu, if_neg (by decide)]
      · by_cases h : j < k
        · rw [if_pos h, if_pos (by omega)]
        · rw [if_neg h, if_neg (by omega)]
theorem bTo_get (zs : List D3) (j : Nat) (hj : j < 4) : ∀ n, ∀ i, i < n → getB ((bTo zs n).refs.getD i []) (vName j) ((bTo zs n).refs.getD i []).length = if j < 3 then plT ((zs.getD i default).at j) else none
  | 0, i, hi => absurd hi (Nat.not_lt_zero _)
  | n + 1, i, hi => by
    obtain ⟨_, hr, _, _⟩ := bTo_len zs n
    unfold bTo
    dsimp only
    rw [getD_snoc, hr]
    by_cases e : i = n
    · rw [if_pos e, e]
      exact bRowTo_get _ _ j hj 3 (Nat.le_refl _)
    · rw [if_neg e]
      exact bTo_get zs j hj n i (by omega)
/-- The terms that a var stands for in the first rows of the document's. -/
def dTerms (refs : List (List BD)) (v : ByteArray) : Nat → List DT
  | 0 => []
  | i + 1 => match getB (refs.getD i []) v (refs.getD i []).length with
    | some t => dTerms refs v i ++ [t]
    | none => dTerms refs v i
theorem dTerms_le (refs : List (List BD)) (v : ByteArray) : ∀ i, (dTerms refs v i).length ≤ i
  | 0 => Nat.le_refl _
  | i + 1 => by
    have := dTerms_le refs v i
    unfold dTerms
    split
    · rw [List.length_append, List.length_singleton]
      omega
    · omega
/-- The program's terms are the document's. -/
theorem terms_ref (zs : List D3) (n j : Nat) (hn : n ≤ 100) (hj : j < 4) : ∀ i, i ≤ n → (termsTo (bTo zs n).ts j (decide (j < 3)) (bTo zs n).rows i).map Tm.ref = dTerms (bTo zs n).refs (vName j) i
  | 0, _ => rfl
  | i + 1, hi => by
    have ih := terms_ref zs n j hn hj i (by omega)
    have h1 := bTo_get zs j hj n i (by omega)
    unfold termsTo dTerms
    rw [h1]
    by_cases h3 : j < 3
    · rw [if_pos h3]
      have h2 := (bTo_is zs n hn i (by omega)).1 j h3
      rw [show valN j (decide (j < 3)) ((bTo zs n).rows.getD i []) = ((bTo zs n).rows.getD i []).getD j 0 by
        unfold valN
        rw [if_pos (by simpa using h3)], h2]
      unfold plT
      cases hu : dUse ((zs.getD i default).at j) with
      | true =>
        rw [if_pos rfl, if_pos rfl]
        dsimp only
        rw [List.map_append, ih, List.map_singleton, ref_plain]
      | false =>
        rw [if_neg (by decide), if_neg (by decide)]
        exact ih
    · rw [if_neg h3]
      rw [show valN j (decide (j < 3)) ((bTo zs n).rows.getD i []) = -1 by
        unfold valN
        rw [if_neg (by simpa using h3)]]
      exact ih
/-- A term's integer, or what is wrong, by the document. -/
def asIntD (x : DT) : Int × Int := if x.kind = 2 ∧ (x.type.toList == xInt.toList) = true then ((vParse x.text.data.toList).1, if (vParse x.text.data.toList).2 = 1 then 3 else (vParse x.text.data.toList).2) else (0, 10)
theorem asInt_ref (t : Tm) : asIntD t.ref = asIntT t := by
  cases t with
  | bla a => rfl
  | iri a => rfl
  | lit a b c =>
    by_cases h : b.toList = xInt.toList
    · by_cases e : (vParse a.data.toList).2 = 1
      · simp [asIntD, asIntT, Tm.ref, Tm.kind, Tm.t0, Tm.t1, h, e]
      · simp [asIntD, asIntT, Tm.ref, Tm.kind, Tm.t0, Tm.t1, h, e]
    · simp [asIntD, asIntT, Tm.ref, Tm.kind, Tm.t0, Tm.t1, h]

end Go.Proofs.YtflhmieeidnpgaaGreatDoor
