/- Plain laws of a buffer's state: what stays, what never goes back. -/
import Derived.Test.YtgcmdoinihehcaaWi
import Derived.Test.YtgcmdoinihehcaaWj
namespace Go.Proofs.Ytgcmdoinihehcaa
set_option linter.unusedVariables false

theorem seeSt_lat (s : St) (t : Int) : (seeSt s t).lat = s.lat := by unfold seeSt; split <;> rfl
theorem seeSt_room (s : St) (t : Int) : (seeSt s t).room = s.room := by unfold seeSt; split <;> rfl
theorem seeSt_closed (s : St) (t : Int) : (seeSt s t).closed = s.closed := by unfold seeSt; split <;> rfl
theorem seeSt_num (s : St) (t : Int) : (seeSt s t).num = s.num := by unfold seeSt; split <;> rfl
theorem seeSt_late (s : St) (t : Int) : (seeSt s t).late = s.late := by unfold seeSt; split <;> rfl
theorem seeSt_clock (s : St) (t : Int) : (seeSt s t).clock = s.clock := by unfold seeSt; split <;> rfl
theorem seeSt_ticked (s : St) (t : Int) : (seeSt s t).ticked = s.ticked := by unfold seeSt; split <;> rfl
theorem seeSt_marked (s : St) (t : Int) : (seeSt s t).marked = true := by
  unfold seeSt
  split
  · rfl
  · rename_i h
    cases hm : s.marked with
    | true => rfl
    | false => simp [hm] at h
theorem seeSt_mark (s : St) (t : Int) : (seeSt s t).mark = if s.marked = true ∧ t - s.lat ≤ s.mark then s.mark else t - s.lat := by
  unfold seeSt
  by_cases hm : s.marked = true
  · by_cases hl : s.mark < t - s.lat
    · rw [if_pos (by simp [hl]), if_neg (by omega)]
    · rw [if_neg (by simp [hm]; omega), if_pos ⟨hm, by omega⟩]
  · rw [if_pos (by simp [hm]), if_neg (fun h => hm h.1)]

theorem code_cases (s : St) (n : Nat) (t : Int) : pushCode s n t = 14 ∧ s.closed = true ∨ pushCode s n t = 2 ∧ s.closed = false ∧ inst t = false ∨ pushCode s n t = 7 ∧ s.closed = false ∧ s.marked = true ∧ t < s.mark ∨
    pushCode s n t = 6 ∧ s.closed = false ∧ s.room ≤ n ∨ pushCode s n t = 0 ∧ s.closed = false ∧ inst t = true ∧ ¬ (s.marked = true ∧ t < s.mark) ∧ (n : Int) < s.room := by
  unfold pushCode
  by_cases h1 : s.closed = true
  · exact .inl ⟨if_pos h1, h1⟩
  · have h1' : s.closed = false := by simpa using h1
    rw [if_neg h1]
    by_cases h2 : inst t = false
    · exact .inr (.inl ⟨if_pos h2, h1', h2⟩)
    · rw [if_neg h2]
      by_cases h3 : s.marked = true ∧ t < s.mark
      · exact .inr (.inr (.inl ⟨if_pos h3, h1', h3.1, h3.2⟩))
      · rw [if_neg h3]
        by_cases h4 : s.room ≤ (n : Int)
        · exact .inr (.inr (.inr (.inl ⟨if_pos h4, h1', h4⟩)))
        · exact .inr (.inr (.inr (.inr ⟨if_neg h4, h1', by simpa using h2, h3, by omega⟩)))

/-- The three forms of a state behind a Push. -/
theorem pushSt_cases (s : St) (n : Nat) (t : Int) : (pushCode s n t ≠ 0 ∧ pushCode s n t ≠ 7 ∧ pushSt s n t = s) ∨ (pushCode s n t = 7 ∧ s.marked = true ∧ t < s.mark ∧ pushSt s n t = { s with late := s.late + 1 }) ∨
    (pushCode s n t = 0 ∧ s.closed = false ∧ inst t = true ∧ ¬ (s.marked = true ∧ t < s.mark) ∧ (n : Int) < s.room ∧ pushSt s n t = seeSt { s with num := s.num + 1 } t) := by
  rcases code_cases s n t with ⟨h, _⟩ | ⟨h, _⟩ | ⟨h, _, h1, h2⟩ | ⟨h, _⟩ | ⟨h, h0, h1, h2, h3⟩
  · exact .inl ⟨by omega, by omega, by unfold pushSt; rw [if_neg (by omega), if_neg (by omega)]⟩
  · exact .inl ⟨by omega, by omega, by unfold pushSt; rw [if_neg (by omega), if_neg (by omega)]⟩
  · exact .inr (.inl ⟨h, h1, h2, by unfold pushSt; rw [if_pos h]⟩)
  · exact .inl ⟨by omega, by omega, by unfold pushSt; rw [if_neg (by omega), if_neg (by omega)]⟩
  · exact .inr (.inr ⟨h, h0, h1, h2, h3, by unfold pushSt; rw [if_neg (by omega), if_pos h]⟩)

theorem tickSt_cases (s : St) (t : Int) : (tickCode s t ≠ 0 ∧ tickSt s t = s) ∨ (tickCode s t = 0 ∧ s.closed = false ∧ inst t = true ∧ ¬ (s.ticked = true ∧ t < s.clock) ∧ tickSt s t = seeSt { s with clock := t, ticked := true } t) := by
  by_cases h : tickCode s t = 0
  · refine .inr ⟨h, ?_, ?_, ?_, by unfold tickSt; rw [if_pos h]⟩ <;> unfold tickCode at h
    · by_cases h1 : s.closed = true
      · rw [if_pos h1] at h; omega
      · simpa using h1
    · split at h
      · omega
      · split at h
        · omega
        · simp_all
    · split at h
      · omega
      · split at h
        · omega
        · split at h
          · omega
          · assumption
  · exact .inl ⟨h, by unfold tickSt; rw [if_neg h]⟩

/-- What holds of a buffer behind k calls. -/
structure BI (lat room : Int) (k : Nat) (s : St) (q : Array Item) : Prop where
  hlat : s.lat = lat
  hroom : s.room = room
  closed : s.closed = false
  num0 : 0 ≤ s.num
  num1 : s.num ≤ (k : Int)
  late0 : 0 ≤ s.late
  late1 : s.late ≤ (k : Int)
  empty : s.marked = false → q.size = 0 ∧ s.mark = 0
  lo : -1152921504606846976 - lat ≤ s.mark
  hi : s.mark ≤ 1152921504606846976

theorem BI.fit {lat room : Int} {k : Nat} {s : St} {q : Array Item} (h : BI lat room k s q) (h0 : 0 ≤ lat) (h1 : lat ≤ 1152921504606846976) (hr : room ≤ 1000) (hk : k ≤ 1000000) : Fit s := by
  have := h.hlat; have := h.hroom; have := h.num0; have := h.num1; have := h.late0; have := h.late1
  exact ⟨by omega, by omega, by omega, by omega, by omega, by omega, by omega⟩

theorem BI.start {lat room : Int} (h0 : 0 ≤ lat) : BI lat room 0 (newSt lat room) #[] := ⟨rfl, rfl, rfl, Int.le_refl _, Int.le_refl _, Int.le_refl _, Int.le_refl _, fun _ => ⟨rfl, rfl⟩, by show _ ≤ (0 : Int); omega, by show (0 : Int) ≤ _; omega⟩

theorem inst_bd {t : Int} (h : inst t = true) : -1152921504606846976 ≤ t ∧ t ≤ 1152921504606846976 := by simpa [inst] using h

theorem BI.push {lat room : Int} {k : Nat} {s : St} {q : Array Item} (h : BI lat room k s q) (h0 : 0 ≤ lat) {t : Int} {q' : Array Item} (hq : pushCode s q.size t ≠ 0 → q' = q) : BI lat room (k + 1) (pushSt s q.size t) q' := by
  have n0 := h.num0; have n1 := h.num1; have l0 := h.late0; have l1 := h.late1; have lo := h.lo; have hi := h.hi
  rcases pushSt_cases s q.size t with ⟨hc, _, e⟩ | ⟨hc, _, _, e⟩ | ⟨hc, _, hin, hm, _, e⟩
  · rw [e, hq hc]; exact ⟨h.hlat, h.hroom, h.closed, n0, by omega, l0, by omega, h.empty, lo, hi⟩
  · rw [e, hq (by omega)]; exact ⟨h.hlat, h.hroom, h.closed, n0, by show s.num ≤ _; omega, by show 0 ≤ s.late + 1; omega, by show s.late + 1 ≤ _; omega, h.empty, lo, hi⟩
  · have hb := inst_bd hin
    have hl : ({ s with num := s.num + 1 } : St).lat = lat := h.hlat
    rw [e]
    refine ⟨by rw [seeSt_lat]; exact h.hlat, by rw [seeSt_room]; exact h.hroom, by rw [seeSt_closed]; exact h.closed, by rw [seeSt_num]; show 0 ≤ s.num + 1; omega, by rw [seeSt_num]; show s.num + 1 ≤ _; omega, by rw [seeSt_late]; exact l0, by rw [seeSt_late]; show s.late ≤ _; omega, (fun hf => by rw [seeSt_marked] at hf; cases hf), ?_, ?_⟩
    · rw [seeSt_mark, hl]; split
      · exact lo
      · omega
    · rw [seeSt_mark, hl]; split
      · exact hi
      · omega

theorem BI.tick {lat room : Int} {k : Nat} {s : St} {q : Array Item} (h : BI lat room k s q) (h0 : 0 ≤ lat) {t : Int} : BI lat room (k + 1) (tickSt s t) q := by
  have n0 := h.num0; have n1 := h.num1; have l0 := h.late0; have l1 := h.late1; have lo := h.lo; have hi := h.hi
  rcases tickSt_cases s t with ⟨hc, e⟩ | ⟨hc, _, hin, hm, e⟩
  · rw [e]; exact ⟨h.hlat, h.hroom, h.closed, n0, by omega, l0, by omega, h.empty, lo, hi⟩
  · have hb := inst_bd hin
    have hl : ({ s with clock := t, ticked := true } : St).lat = lat := h.hlat
    rw [e]
    refine ⟨by rw [seeSt_lat]; exact h.hlat, by rw [seeSt_room]; exact h.hroom, by rw [seeSt_closed]; exact h.closed, by rw [seeSt_num]; exact n0, by rw [seeSt_num]; show s.num ≤ _; omega, by rw [seeSt_late]; exact l0, by rw [seeSt_late]; show s.late ≤ _; omega, (fun hf => by rw [seeSt_marked] at hf; cases hf), ?_, ?_⟩
    · rw [seeSt_mark, hl]; split
      · exact lo
      · omega
    · rw [seeSt_mark, hl]; split
      · exact hi
      · omega

theorem BI.take {lat room : Int} {k : Nat} {s : St} {q t r : Array Item} (h : BI lat room k s q) (ht : Taken q t r) : BI lat room k s r :=
  ⟨h.hlat, h.hroom, h.closed, h.num0, h.num1, h.late0, h.late1, fun hm => ⟨by have := (h.empty hm).1; have := ht.size; omega, (h.empty hm).2⟩, h.lo, h.hi⟩

/-- The mark never goes back. -/
theorem pushSt_mono (s : St) (n : Nat) (t : Int) (hm : s.marked = true) : (pushSt s n t).marked = true ∧ s.mark ≤ (pushSt s n t).mark := by
  rcases pushSt_cases s n t with ⟨_, _, e⟩ | ⟨_, _, _, e⟩ | ⟨_, _, _, _, _, e⟩
  · rw [e]; exact ⟨hm, Int.le_refl _⟩
  · rw [e]; exact ⟨hm, Int.le_refl _⟩
  · rw [e]
    refine ⟨seeSt_marked _ _, ?_⟩
    rw [seeSt_mark]
    show s.mark ≤ if s.marked = true ∧ t - s.lat ≤ s.mark then s.mark else t - s.lat
    split
    · exact Int.le_refl _
    · rename_i h; simp only [hm, true_and] at h; omega

theorem tickSt_mono (s : St) (t : Int) (hm : s.marked = true) : (tickSt s t).marked = true ∧ s.mark ≤ (tickSt s t).mark := by
  rcases tickSt_cases s t with ⟨_, e⟩ | ⟨_, _, _, _, e⟩
  · rw [e]; exact ⟨hm, Int.le_refl _⟩
  · rw [e]
    refine ⟨seeSt_marked _ _, ?_⟩
    rw [seeSt_mark]
    show s.mark ≤ if s.marked = true ∧ t - s.lat ≤ s.mark then s.mark else t - s.lat
    split
    · exact Int.le_refl _
    · rename_i h; simp only [hm, true_and] at h; omega

end Go.Proofs.Ytgcmdoinihehcaa
