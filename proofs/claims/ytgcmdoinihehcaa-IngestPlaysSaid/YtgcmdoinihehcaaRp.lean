/- The plain law of what rises: what was taken, and what waits, are just the items that came. -/
import Derived.Test.YtgcmdoinihehcaaBi
namespace Go.Proofs.Ytgcmdoinihehcaa
set_option linter.unusedVariables false

/-- The items of times that came, each with its place as its number and its key. -/
def itemsOf (came : List Int) : List Item := came.mapIdx fun i t => ⟨t, i, i, 0, 0⟩

theorem itemsOf_snoc (l : List Int) (t : Int) : itemsOf (l ++ [t]) = itemsOf l ++ [⟨t, l.length, l.length, 0, 0⟩] := by
  unfold itemsOf
  rw [List.mapIdx_append]
  simp

theorem mem_itemsOf {l : List Int} {x : Item} (h : x ∈ itemsOf l) : ∃ k, k < l.length ∧ x.k0 = (k : Int) ∧ x.s = (k : Int) ∧ x.t = l.getD k 0 := by
  unfold itemsOf at h
  rw [List.mem_mapIdx] at h
  obtain ⟨k, hk, rfl⟩ := h
  exact ⟨k, hk, rfl, rfl, by simp [List.getD_eq_getElem?_getD, hk]⟩

theorem itemsOf_keys (l : List Int) : ((itemsOf l).map (·.k0)).Nodup := by
  have e : (itemsOf l).map (·.k0) = (List.range l.length).map fun k : Nat => (k : Int) := by
    apply List.ext_getElem?
    intro i
    unfold itemsOf
    simp only [List.getElem?_map, List.getElem?_mapIdx]
    by_cases h : i < l.length
    · simp [h]
    · simp [h]
  rw [e]
  refine List.Pairwise.map _ (fun a b h => ?_) List.nodup_range
  intro h2
  exact h (by omega)

structure RI (came : List Int) (s : St) (q out : Array Item) : Prop where
  num : s.num = (came.length : Int)
  perm : (out.toList ++ q.toList).Perm (itemsOf came)
  sorted : out.toList.Pairwise le
  ahead : ∀ x ∈ out.toList, ∀ y ∈ q.toList, le x y
  below : ∀ x ∈ out.toList, s.marked = true ∧ x.t < s.mark

theorem RI.start (lat room : Int) : RI [] (newSt lat room) #[] #[] := ⟨rfl, by simp [itemsOf], by simp, by simp, by simp⟩

theorem RI.tick {came : List Int} {s : St} {q out : Array Item} (h : RI came s q out) (t : Int) : RI came (tickSt s t) q out := by
  refine ⟨?_, h.perm, h.sorted, h.ahead, fun x hx => ?_⟩
  · rcases tickSt_cases s t with ⟨_, e⟩ | ⟨_, _, _, _, e⟩
    · rw [e]; exact h.num
    · rw [e, seeSt_num]; exact h.num
  · have h1 := h.below x hx
    have h2 := tickSt_mono s t h1.1
    exact ⟨h2.1, by omega⟩

theorem RI.pushOk {came : List Int} {s : St} {q q' out : Array Item} (h : RI came s q out) {t : Int} (hc : pushCode s q.size t = 0) (hp : q'.toList.Perm (⟨t, s.num, (came.length : Int), 0, 0⟩ :: q.toList)) :
    RI (came ++ [t]) (pushSt s q.size t) q' out := by
  rcases pushSt_cases s q.size t with ⟨h0, _⟩ | ⟨h7, _⟩ | ⟨_, _, _, hm, _, e⟩
  · exact absurd hc h0
  · omega
  · refine ⟨?_, ?_, h.sorted, fun x hx y hy => ?_, fun x hx => ?_⟩
    · rw [e, seeSt_num]
      show s.num + 1 = _
      rw [h.num]
      simp
    · rw [itemsOf_snoc]
      rw [h.num] at hp
      refine (List.Perm.append_left _ hp).trans ?_
      refine List.perm_middle.trans ?_
      refine (List.Perm.cons _ h.perm).trans ?_
      exact (List.perm_append_comm (l₁ := [_]) (l₂ := itemsOf came))
    · have hy' := hp.subset hy
      rw [List.mem_cons] at hy'
      rcases hy' with rfl | hy'
      · have h1 := h.below x hx
        have : ¬ t < s.mark := fun hlt => hm ⟨h1.1, hlt⟩
        left
        show x.t < t
        omega
      · exact h.ahead x hx y hy'
    · have h1 := h.below x hx
      have h2 := pushSt_mono s q.size t h1.1
      exact ⟨h2.1, by omega⟩

theorem RI.pushNo {came : List Int} {s : St} {q out : Array Item} (h : RI came s q out) {t : Int} (hc : pushCode s q.size t ≠ 0) : RI came (pushSt s q.size t) q out := by
  rcases pushSt_cases s q.size t with ⟨_, _, e⟩ | ⟨_, _, _, e⟩ | ⟨h0, _⟩
  · rw [e]; exact h
  · rw [e]; exact ⟨h.num, h.perm, h.sorted, h.ahead, h.below⟩
  · exact absurd h0 hc

theorem RI.take {came : List Int} {s : St} {q out t r : Array Item} (h : RI came s q out) (ht : Taken q t r) (hb : ∀ y ∈ t.toList, s.marked = true ∧ y.t < s.mark) : RI came s r (out ++ t) := by
  have hsub : ∀ y ∈ t.toList, y ∈ q.toList := fun y hy => ht.perm.subset (List.mem_append_left _ hy)
  have hsub2 : ∀ y ∈ r.toList, y ∈ q.toList := fun y hy => ht.perm.subset (List.mem_append_right _ hy)
  refine ⟨h.num, ?_, ?_, ?_, ?_⟩
  · rw [Array.toList_append, List.append_assoc]
    exact (List.Perm.append_left _ ht.perm).trans h.perm
  · rw [Array.toList_append, List.pairwise_append]
    exact ⟨h.sorted, ht.sorted, fun x hx y hy => h.ahead x hx y (hsub y hy)⟩
  · intro x hx y hy
    rw [Array.toList_append, List.mem_append] at hx
    rcases hx with hx | hx
    · exact h.ahead x hx y (hsub2 y hy)
    · exact ht.ahead x hx y hy
  · intro x hx
    rw [Array.toList_append, List.mem_append] at hx
    rcases hx with hx | hx
    · exact h.below x hx
    · exact hb x hx

/-- All that was taken, and flushed. -/
structure Risen (came : List Int) (F : Array Item) : Prop where
  perm : F.toList.Perm (itemsOf came)
  sorted : F.toList.Pairwise le

theorem RI.flush {came : List Int} {s : St} {q out t r : Array Item} (h : RI came s q out) (ht : Taken q t r) (hr : r.size = 0) : Risen came (out ++ t) := by
  have hr' : r.toList = [] := List.eq_nil_of_length_eq_zero (by simpa using hr)
  have hp := ht.perm
  rw [hr', List.append_nil] at hp
  refine ⟨?_, ?_⟩
  · rw [Array.toList_append]
    exact (List.Perm.append_left _ hp).trans h.perm
  · rw [Array.toList_append, List.pairwise_append]
    exact ⟨h.sorted, ht.sorted, fun x hx y hy => h.ahead x hx y (hp.subset hy)⟩

theorem Risen.size {came : List Int} {F : Array Item} (h : Risen came F) : F.size = came.length := by
  have := h.perm.length_eq
  simpa [itemsOf] using this

theorem Risen.at_ {came : List Int} {F : Array Item} (h : Risen came F) {j : Nat} (hj : j < F.size) : ∃ k, k < came.length ∧ F[j]!.k0 = (k : Int) ∧ F[j]!.s = (k : Int) ∧ F[j]!.t = came.getD k 0 := by
  have : F[j]! ∈ F.toList := by rw [getElem!_pos F j hj]; simp
  exact mem_itemsOf (h.perm.subset this)

theorem Risen.rises {came : List Int} {F : Array Item} (h : Risen came F) {j : Nat} (hj : j + 1 < F.size) : le F[j]! F[j + 1]! := by
  have h1 := List.pairwise_iff_getElem.1 h.sorted j (j + 1) (by simp; omega) (by simpa using hj) (by omega)
  rw [getElem!_pos F j (by omega), getElem!_pos F (j + 1) hj]
  simpa using h1

/-- Which keys were seen in the first j. -/
def seenL (F : Array Item) (j n : Nat) : List Bool := (List.range n).map fun k : Nat => (F.toList.take j).any fun x => x.k0 == (k : Int)

theorem seenL_len (F : Array Item) (j n : Nat) : (seenL F j n).length = n := by simp [seenL]

theorem Risen.fresh {came : List Int} {F : Array Item} (h : Risen came F) {j k : Nat} (hj : j < F.size) (hk : F[j]!.k0 = (k : Int)) : ((F.toList.take j).any fun x => x.k0 == (k : Int)) = false := by
  rw [Bool.eq_false_iff]
  intro hc
  rw [List.any_eq_true] at hc
  obtain ⟨x, hx, hxk⟩ := hc
  have hnd : (F.toList.map (·.k0)).Nodup := (h.perm.map _).nodup_iff.2 (itemsOf_keys came)
  obtain ⟨i, hi, rfl⟩ := List.mem_iff_getElem.1 hx
  have hi2 : i < j := by simp at hi; omega
  have h1 := List.pairwise_iff_getElem.1 hnd i j (by simp; omega) (by simpa using hj) hi2
  simp only [beq_iff_eq] at hxk
  rw [getElem!_pos F j hj] at hk
  apply h1
  simp only [List.getElem_map, Array.getElem_toList]
  rw [hk]
  simpa using hxk

theorem Risen.seen_get {came : List Int} {F : Array Item} (h : Risen came F) {j k n : Nat} (hj : j < F.size) (hk : F[j]!.k0 = (k : Int)) (hn : k < n) : (seenL F j n)[k]? = some false := by
  unfold seenL
  rw [List.getElem?_map, List.getElem?_range hn]
  simp only [Option.map_some]
  rw [h.fresh hj hk]

theorem seen_set {F : Array Item} {j k n : Nat} (hj : j < F.size) (hk : F[j]!.k0 = (k : Int)) : (seenL F j n).set k true = seenL F (j + 1) n := by
  apply List.ext_getElem?
  intro i
  unfold seenL
  rw [List.getElem?_set, List.getElem?_map, List.getElem?_map, List.length_map, List.length_range]
  have ht : F.toList.take (j + 1) = F.toList.take j ++ [F[j]!] := by
    rw [List.take_succ_eq_append_getElem (by simpa using hj), getElem!_pos F j hj]
    simp
  rw [ht]
  by_cases e : k = i
  · subst e
    by_cases hn : k < n
    · rw [if_pos rfl, if_pos hn, List.getElem?_range hn]
      simp [List.any_append, hk]
    · rw [if_pos rfl, if_neg hn]
      simp [hn]
  · rw [if_neg e]
    by_cases hn : i < n
    · rw [List.getElem?_range hn]
      have e2 : ((k : Int) == (i : Int)) = false := beq_eq_false_iff_ne.2 (by omega)
      simp [List.any_append, hk, e2]
    · rw [List.getElem?_eq_none (by simpa using hn)]
      rfl

end Go.Proofs.Ytgcmdoinihehcaa
