/- The plain law of two orders: the same items by their times and keys. -/
import Derived.Test.YtgcmdoinihehcaaBi
namespace Go.Proofs.Ytgcmdoinihehcaa
set_option linter.unusedVariables false

/-- A buffer of lateness 1000 to which the first k of a row of items came, none of them late. -/
structure Fill (f : Nat → Item) (k : Nat) (s : St) (q : Array Item) : Prop where
  lat : s.lat = 1000
  room : s.room = 1000
  closed : s.closed = false
  num : s.num = (k : Int)
  late : s.late = 0
  mark : s.marked = true → s.mark ≤ -745
  perm : q.toList.Perm ((List.range k).map f)

theorem Fill.start (f : Nat → Item) : Fill f 0 (newSt 1000 1000) #[] := ⟨rfl, rfl, rfl, rfl, rfl, (fun h => by cases h), by simp⟩

theorem Fill.size {f : Nat → Item} {k : Nat} {s : St} {q : Array Item} (h : Fill f k s q) : q.size = k := by
  have := h.perm.length_eq
  simpa using this

theorem Fill.fit {f : Nat → Item} {k : Nat} {s : St} {q : Array Item} (h : Fill f k s q) (hk : k ≤ 1000) : Fit s := by
  have := h.lat; have := h.room; have := h.num; have := h.late
  exact ⟨by omega, by omega, by omega, by omega, by omega, by omega, by omega⟩

theorem Fill.code {f : Nat → Item} {k : Nat} {s : St} {q : Array Item} (h : Fill f k s q) (hk : k ≤ 100) {t : Int} (h0 : 0 ≤ t) (h1 : t ≤ 255) : pushCode s q.size t = 0 := by
  have hs := h.size
  rcases code_cases s q.size t with ⟨_, hc⟩ | ⟨_, _, hc⟩ | ⟨_, _, hm, hc⟩ | ⟨_, _, hc⟩ | ⟨hc, _⟩
  · rw [h.closed] at hc; cases hc
  · have : inst t = true := by simp [inst]; omega
    rw [this] at hc; cases hc
  · have := h.mark hm; omega
  · rw [h.room] at hc; omega
  · exact hc

theorem Fill.push {f : Nat → Item} {k : Nat} {s : St} {q q' : Array Item} (h : Fill f k s q) (hk : k ≤ 100) {t k0 : Int} (h0 : 0 ≤ t) (h1 : t ≤ 255) (hf : f k = ⟨t, (k : Int), k0, 0, 0⟩)
    (hp : q'.toList.Perm (⟨t, s.num, k0, 0, 0⟩ :: q.toList)) : Fill f (k + 1) (pushSt s q.size t) q' := by
  have hc := h.code hk h0 h1
  have e : pushSt s q.size t = seeSt { s with num := s.num + 1 } t := by
    unfold pushSt
    rw [if_neg (by omega), if_pos hc]
  rw [e]
  refine ⟨by rw [seeSt_lat]; exact h.lat, by rw [seeSt_room]; exact h.room, by rw [seeSt_closed]; exact h.closed, by rw [seeSt_num]; show s.num + 1 = _; rw [h.num]; rfl, by rw [seeSt_late]; exact h.late, fun _ => ?_, ?_⟩
  · rw [seeSt_mark]
    show (if s.marked = true ∧ t - s.lat ≤ s.mark then s.mark else t - s.lat) ≤ -745
    split
    · rename_i hm; exact h.mark hm.1
    · rw [h.lat]; omega
  · rw [List.range_succ, List.map_append, List.map_singleton, hf]
    rw [h.num] at hp
    exact hp.trans ((List.Perm.cons _ h.perm).trans (List.perm_append_comm (l₁ := [_])))

/-- What a flush gives of such a buffer. -/
structure Flat (f : Nat → Item) (n : Nat) (X : Array Item) : Prop where
  perm : X.toList.Perm ((List.range n).map f)
  sorted : X.toList.Pairwise le

theorem Fill.flush {f : Nat → Item} {k : Nat} {s : St} {q t r : Array Item} (h : Fill f k s q) (ht : Taken q t r) (hr : r.size = 0) : Flat f k t := by
  have hr' : r.toList = [] := List.eq_nil_of_length_eq_zero (by simpa using hr)
  have hp := ht.perm
  rw [hr', List.append_nil] at hp
  exact ⟨hp.trans h.perm, ht.sorted⟩

theorem Flat.size {f : Nat → Item} {n : Nat} {X : Array Item} (h : Flat f n X) : X.size = n := by
  have := h.perm.length_eq
  simpa using this

theorem Flat.at_ {f : Nat → Item} {n : Nat} {X : Array Item} (h : Flat f n X) {i : Nat} (hi : i < n) : ∃ j, j < n ∧ X[i]! = f j := by
  have hs := h.size
  have : X[i]! ∈ X.toList := by rw [getElem!_pos X i (by omega)]; simp
  obtain ⟨j, hj, e⟩ := List.mem_map.1 (h.perm.subset this)
  exact ⟨j, by simpa using hj, e.symm⟩

theorem Flat.rises {f : Nat → Item} {n : Nat} {X : Array Item} (h : Flat f n X) {i : Nat} (hi : i + 1 < n) : le X[i]! X[i + 1]! := by
  have hs := h.size
  have h1 := List.pairwise_iff_getElem.1 h.sorted i (i + 1) (by simp; omega) (by simp; omega) (by omega)
  rw [getElem!_pos X i (by omega), getElem!_pos X (i + 1) (by omega)]
  simpa using h1

/-- Numbers that are their places are never alike. -/
theorem Flat.seq_ne {f : Nat → Item} {n : Nat} {X : Array Item} (h : Flat f n X) (hf : ∀ j, (f j).s = (j : Int)) {i : Nat} (hi : i + 1 < n) : X[i]!.s ≠ X[i + 1]!.s := by
  have hs := h.size
  have hnd : (X.toList.map (·.s)).Nodup := by
    refine (h.perm.map _).nodup_iff.2 ?_
    rw [List.map_map]
    refine List.Pairwise.map _ (fun a b hab => ?_) List.nodup_range
    intro h2
    simp only [Function.comp_def, hf] at h2
    exact hab (by omega)
  have h1 := List.pairwise_iff_getElem.1 hnd i (i + 1) (by simp; omega) (by simp; omega) (by omega)
  rw [getElem!_pos X i (by omega), getElem!_pos X (i + 1) (by omega)]
  simpa using h1

/-- A turn of places. -/
theorem rot_perm (n tr : Nat) (hn : 0 < n) : ((List.range n).map fun i => (i + tr) % n).Perm (List.range n) := by
  have hlt := Nat.mod_lt tr hn
  have e : ((List.range n).map fun i => (i + tr) % n) = (List.range n).drop (tr % n) ++ (List.range n).take (tr % n) := by
    apply List.ext_getElem
    · simp; omega
    · intro i h1 h2
      simp only [List.length_map, List.length_range] at h1
      rw [List.getElem_map, List.getElem_range, List.getElem_append]
      rw [Nat.add_mod, Nat.mod_eq_of_lt h1]
      split
      · rename_i h3
        simp only [List.length_drop, List.length_range] at h3
        rw [List.getElem_drop, List.getElem_range, Nat.mod_eq_of_lt (by omega)]
        omega
      · rename_i h3
        simp only [List.length_drop, List.length_range] at h3
        rw [List.getElem_take, List.getElem_range]
        simp only [List.length_drop, List.length_range]
        rw [Nat.mod_eq_sub_mod (by omega), Nat.mod_eq_of_lt (by omega)]
        omega
  rw [e]
  exact List.perm_append_comm.trans (by rw [List.take_append_drop])

theorem times_eq {f g : Nat → Item} {n : Nat} {X Y : Array Item} (hx : Flat f n X) (hy : Flat g n Y) (h : ((List.range n).map fun i => (f i).t).Perm ((List.range n).map fun i => (g i).t)) {i : Nat} (hi : i < n) : X[i]!.t = Y[i]!.t := by
  have px : (X.toList.map (·.t)).Perm ((List.range n).map fun i => (f i).t) := by
    have := hx.perm.map (·.t)
    rwa [List.map_map] at this
  have py : (Y.toList.map (·.t)).Perm ((List.range n).map fun i => (g i).t) := by
    have := hy.perm.map (·.t)
    rwa [List.map_map] at this
  have sx : (X.toList.map (·.t)).Pairwise (· ≤ ·) := List.Pairwise.map _ (fun a b h => by unfold le at h; omega) hx.sorted
  have sy : (Y.toList.map (·.t)).Pairwise (· ≤ ·) := List.Pairwise.map _ (fun a b h => by unfold le at h; omega) hy.sorted
  have e := List.Perm.eq_of_pairwise (fun a b _ _ h1 h2 => Int.le_antisymm h1 h2) sx sy (px.trans (h.trans py.symm))
  have h1 : (X.toList.map (·.t))[i]? = (Y.toList.map (·.t))[i]? := by rw [e]
  have hxs := hx.size
  have hys := hy.size
  rw [getElem!_pos X i (by omega), getElem!_pos Y i (by omega)]
  simp only [List.getElem?_map, Array.getElem?_toList, Array.getElem?_eq_getElem (show i < X.size by omega), Array.getElem?_eq_getElem (show i < Y.size by omega), Option.map_some, Option.some.injEq] at h1
  exact h1

/-- The keys are all the places. -/
def Keys (n : Nat) (X : Array Item) : Prop := (X.toList.map (·.k0)).Perm ((List.range n).map fun i : Nat => (i : Int))

theorem Flat.keys {f : Nat → Item} {n : Nat} {X : Array Item} (h : Flat f n X) {r : Nat → Nat} (hr : ((List.range n).map r).Perm (List.range n)) (hf : ∀ i, (f i).k0 = (r i : Int)) : Keys n X := by
  unfold Keys
  refine (h.perm.map _).trans ?_
  rw [List.map_map]
  have : ((fun x : Item => x.k0) ∘ f) = (fun i : Nat => (i : Int)) ∘ r := funext fun i => hf i
  rw [this, ← List.map_map]
  exact hr.map _

def cnt (X : Array Item) (i c : Nat) : Nat := (X.toList.take i).countP fun x => x.k0 == (c : Int)

theorem cnt_succ {X : Array Item} {i c : Nat} (hi : i < X.size) : cnt X (i + 1) c = cnt X i c + if X[i]!.k0 = (c : Int) then 1 else 0 := by
  unfold cnt
  rw [List.take_succ_eq_append_getElem (by simpa using hi), List.countP_append, getElem!_pos X i hi]
  simp [List.countP_singleton]

theorem cnt_le (X : Array Item) (i c : Nat) : cnt X i c ≤ i := by
  unfold cnt
  exact Nat.le_trans List.countP_le_length (by simp; omega)

theorem Keys.one {n : Nat} {X : Array Item} (h : Keys n X) (hs : X.size = n) {c : Nat} (hc : c < n) : cnt X n c = 1 := by
  unfold cnt
  rw [List.take_of_length_le (by simp; omega)]
  have e : (X.toList.countP fun x => x.k0 == (c : Int)) = (X.toList.map (·.k0)).count (c : Int) := by
    rw [List.count_eq_countP, List.countP_map]
    rfl
  rw [e, h.count_eq]
  have hnd : ((List.range n).map fun i : Nat => (i : Int)).Nodup := List.Pairwise.map _ (fun a b h h2 => h (by omega)) List.nodup_range
  rw [hnd.count, if_pos (List.mem_map.2 ⟨c, by simpa using hc, rfl⟩)]

/-- How often each place was met in the first i of both. -/
def cntL (X Y : Array Item) (i n : Nat) : List Int := (List.range n).map fun c => ((cnt X i c + cnt Y i c : Nat) : Int)

theorem cntL_len (X Y : Array Item) (i n : Nat) : (cntL X Y i n).length = n := by simp [cntL]

theorem cntL_get (X Y : Array Item) {i n c : Nat} (hc : c < n) : (cntL X Y i n)[c]? = some ((cnt X i c + cnt Y i c : Nat) : Int) := by
  unfold cntL
  rw [List.getElem?_map, List.getElem?_range hc]
  rfl

/-- One more at a place. -/
def bump (l : List Int) (k : Nat) : List Int := l.set k (l.getD k 0 + 1)

theorem cntL_step {X Y : Array Item} {i n k m : Nat} (hx : i < X.size) (hy : i < Y.size) (hk : X[i]!.k0 = (k : Int)) (hm : Y[i]!.k0 = (m : Int)) (hkn : k < n) (hmn : m < n) :
    bump (bump (cntL X Y i n) k) m = cntL X Y (i + 1) n := by
  apply List.ext_getElem?
  intro c
  by_cases hc : c < n
  · rw [cntL_get _ _ hc, cnt_succ hx, cnt_succ hy, hk, hm]
    unfold bump
    have g : ∀ c, c < n → (cntL X Y i n)[c]? = some ((cnt X i c + cnt Y i c : Nat) : Int) := fun c h => cntL_get X Y h
    have hl := cntL_len X Y i n
    simp only [List.getElem?_set, List.length_set, hl, List.getD_eq_getElem?_getD, hkn, hmn, if_true]
    by_cases e1 : m = c
    · subst e1
      by_cases e2 : k = m
      · subst e2
        simp [g k hkn]; omega
      · have e3 : ¬ ((k : Int) = (m : Int)) := by omega
        simp [e2, g m hmn, e3]; omega
    · by_cases e2 : k = c
      · subst e2
        have e3 : ¬ ((m : Int) = (k : Int)) := by omega
        simp [e1, g k hkn, e3]; omega
      · have e3 : ¬ ((m : Int) = (c : Int)) := by omega
        have e4 : ¬ ((k : Int) = (c : Int)) := by omega
        simp [e1, e2, g c hc, e3, e4]
  · rw [List.getElem?_eq_none (by simp [bump, cntL_len]; omega), List.getElem?_eq_none (by rw [cntL_len]; omega)]

theorem cntL_zero (X Y : Array Item) (n : Nat) : cntL X Y 0 n = List.replicate n 0 := by
  unfold cntL
  apply List.ext_getElem
  · simp
  · intro i h1 h2
    simp [cnt]

theorem cntL_all {n : Nat} {X Y : Array Item} (hx : Keys n X) (hy : Keys n Y) (sx : X.size = n) (sy : Y.size = n) : cntL X Y n n = List.replicate n 2 := by
  unfold cntL
  apply List.ext_getElem
  · simp
  · intro i h1 h2
    have hi : i < n := by simpa using h2
    simp [hx.one sx hi, hy.one sy hi]

end Go.Proofs.Ytgcmdoinihehcaa
