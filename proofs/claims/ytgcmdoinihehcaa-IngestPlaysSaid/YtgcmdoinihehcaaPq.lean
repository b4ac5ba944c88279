/- The plain law of what the document's buffer answers, and the buffer by a heap. -/
import Derived.Test.YtgcmdoinihehcaaBi
namespace Go.Proofs.Ytgcmdoinihehcaa
set_option linter.unusedVariables false

/-- The document's buffer. -/
structure RB where
  lat : Int
  room : Int
  wait : List Item
  seen : List Int
  shown : List Int
  num : Int
  late : Int
  closed : Bool

def markStep (lat : Int) (p : Int × Bool) (x : Int) : Int × Bool := if p.2 = false ∨ p.1 < x - lat then (x - lat, true) else p
def markL (lat : Int) (l : List Int) : Int × Bool := l.foldl (markStep lat) (0, false)
def RB.mark (r : RB) : Int × Bool := markL r.lat (r.seen ++ r.shown)

structure IsMark (lat : Int) (l : List Int) (p : Int × Bool) : Prop where
  no : p.2 = false → l = [] ∧ p.1 = 0
  yes : p.2 = true → (∃ x ∈ l, p.1 = x - lat) ∧ ∀ x ∈ l, x - lat ≤ p.1

theorem IsMark.start (lat : Int) : IsMark lat [] (0, false) := ⟨fun _ => ⟨rfl, rfl⟩, fun h => by cases h⟩

theorem IsMark.step {lat : Int} {l l' : List Int} {p : Int × Bool} (h : IsMark lat l p) (t : Int) (hl : ∀ x, x ∈ l' ↔ x ∈ l ∨ x = t) : IsMark lat l' (markStep lat p t) := by
  unfold markStep
  by_cases hc : p.2 = false ∨ p.1 < t - lat
  · rw [if_pos hc]
    refine ⟨(fun h => by cases h), fun _ => ⟨⟨t, (hl t).2 (.inr rfl), rfl⟩, fun x hx => ?_⟩⟩
    rcases (hl x).1 hx with hx | rfl
    · cases hp : p.2 with
      | false => rw [(h.no hp).1] at hx; cases hx
      | true =>
        have h1 := (h.yes hp).2 x hx
        rcases hc with hc | hc
        · rw [hp] at hc; cases hc
        · show x - lat ≤ t - lat
          omega
    · exact Int.le_refl _
  · rw [if_neg hc]
    have hp : p.2 = true := by cases hp : p.2 with
      | true => rfl
      | false => exact absurd (.inl hp) hc
    have hge : ¬ p.1 < t - lat := fun h => hc (.inr h)
    refine ⟨(fun h => by rw [hp] at h; cases h), fun _ => ?_⟩
    obtain ⟨⟨x, hx, hm⟩, ha⟩ := h.yes hp
    refine ⟨⟨x, (hl x).2 (.inl hx), hm⟩, fun y hy => ?_⟩
    rcases (hl y).1 hy with hy | rfl
    · exact ha y hy
    · omega

theorem IsMark.unique {lat : Int} {l l' : List Int} {p q : Int × Bool} (h : IsMark lat l p) (k : IsMark lat l' q) (hl : ∀ x, x ∈ l ↔ x ∈ l') : p = q := by
  obtain ⟨m, a⟩ := p
  obtain ⟨n, b⟩ := q
  cases a with
  | false =>
    obtain ⟨h1, h2⟩ := h.no rfl
    cases b with
    | false =>
      obtain ⟨_, k2⟩ := k.no rfl
      simp only at h2 k2
      rw [h2, k2]
    | true =>
      obtain ⟨⟨x, hx, _⟩, _⟩ := k.yes rfl
      have := (hl x).2 hx
      rw [h1] at this
      cases this
  | true =>
    obtain ⟨⟨x, hx, hm⟩, ha⟩ := h.yes rfl
    cases b with
    | false =>
      obtain ⟨k1, _⟩ := k.no rfl
      have := (hl x).1 hx
      rw [k1] at this
      cases this
    | true =>
      obtain ⟨⟨y, hy, hn⟩, hb⟩ := k.yes rfl
      have h1 := ha y ((hl y).2 hy)
      have h2 := hb x ((hl x).1 hx)
      simp only at hm hn h1 h2
      rw [show m = n by omega]

theorem markL_snoc (lat : Int) (l : List Int) (x : Int) : markL lat (l ++ [x]) = markStep lat (markL lat l) x := by
  unfold markL
  rw [List.foldl_append]
  rfl

theorem markL_from (lat : Int) : ∀ (l l0 : List Int) (p : Int × Bool), IsMark lat l0 p → IsMark lat (l0 ++ l) (l.foldl (markStep lat) p)
  | [], l0, p, h => by rw [List.append_nil]; exact h
  | x :: l, l0, p, h => by
    have := markL_from lat l (l0 ++ [x]) (markStep lat p x) (h.step x (by simp))
    rw [List.append_assoc] at this
    exact this

theorem markL_is (lat : Int) (l : List Int) : IsMark lat l (markL lat l) := by
  have := markL_from lat l [] (0, false) (IsMark.start lat)
  exact this

def rCode (r : RB) (t : Int) : Int :=
  if r.closed = true then 14 else if inst t = false then 2 else if r.mark.2 = true ∧ t < r.mark.1 then 7 else if r.room ≤ (r.wait.length : Int) then 6 else 0
def rPush (r : RB) (t k0 k1 k2 : Int) : RB :=
  if rCode r t = 7 then { r with late := r.late + 1 } else if rCode r t = 0 then { r with wait := r.wait ++ [⟨t, r.num, k0, k1, k2⟩], seen := r.seen ++ [t], num := r.num + 1 } else r
def rtCode (r : RB) (t : Int) : Int :=
  if r.closed = true then 14 else if inst t = false then 2 else if ∃ x ∈ r.shown, t < x then 8 else 0
def rTick (r : RB) (t : Int) : RB := if rtCode r t = 0 then { r with shown := r.shown ++ [t] } else r

def lt' (x y : Item) : Bool := decide (y.t < x.t) || (decide (y.t = x.t) && decide (y.s < x.s))
/-- An item into its place. -/
def insL (x : Item) (l : List Item) : List Item := l.takeWhile (lt' x) ++ x :: l.dropWhile (lt' x)
/-- Is it taken? -/
def goes (p : Int × Bool) (all : Bool) (x : Item) : Bool := all || (p.2 && decide (x.t < p.1))
def outL (p : Int × Bool) (all : Bool) (l : List Item) : List Item := (l.filter (goes p all)).foldl (fun o x => insL x o) []
def leftL (p : Int × Bool) (all : Bool) (l : List Item) : List Item := l.filter (fun x => !goes p all x)
def rTake (r : RB) (all : Bool) : RB := { r with wait := leftL r.mark all r.wait, closed := r.closed || all }
def rOut (r : RB) (all : Bool) : List Item := outL r.mark all r.wait

theorem insL_perm (x : Item) (l : List Item) : (insL x l).Perm (x :: l) := by
  unfold insL
  refine List.perm_middle.trans (List.Perm.cons _ ?_)
  rw [List.takeWhile_append_dropWhile]

theorem insL_sorted (x : Item) (l : List Item) (h : l.Pairwise le) : (insL x l).Pairwise le := by
  induction l with
  | nil => simp [insL]
  | cons y l ih =>
    rw [List.pairwise_cons] at h
    by_cases hy : lt' x y = true
    · have e : insL x (y :: l) = y :: insL x l := by unfold insL; simp [hy]
      rw [e, List.pairwise_cons]
      refine ⟨fun z hz => ?_, ih h.2⟩
      have := (insL_perm x l).subset hz
      rw [List.mem_cons] at this
      rcases this with rfl | hz
      · simp [lt'] at hy
        unfold le
        omega
      · exact h.1 z hz
    · have e : insL x (y :: l) = x :: y :: l := by unfold insL; simp [hy]
      rw [e, List.pairwise_cons, List.pairwise_cons]
      have hxy : le x y := by
        simp [lt'] at hy
        unfold le
        omega
      refine ⟨fun z hz => ?_, h⟩
      rw [List.mem_cons] at hz
      rcases hz with rfl | hz
      · exact hxy
      · exact le_trans hxy (h.1 z hz)

theorem insAll_perm : ∀ (l o : List Item), (l.foldl (fun o x => insL x o) o).Perm (o ++ l)
  | [], o => by simp
  | x :: l, o => by
    rw [List.foldl_cons]
    refine (insAll_perm l (insL x o)).trans ?_
    refine (List.Perm.append_right l (insL_perm x o)).trans ?_
    exact (List.perm_middle (l₁ := o) (l₂ := l) (a := x)).symm

theorem insAll_sorted : ∀ (l o : List Item), o.Pairwise le → (l.foldl (fun o x => insL x o) o).Pairwise le
  | [], o, h => h
  | x :: l, o, h => by rw [List.foldl_cons]; exact insAll_sorted l _ (insL_sorted x o h)

theorem outL_perm (p : Int × Bool) (all : Bool) (l : List Item) : (outL p all l).Perm (l.filter (goes p all)) := by
  have := insAll_perm (l.filter (goes p all)) []
  rw [List.nil_append] at this
  exact this
theorem outL_sorted (p : Int × Bool) (all : Bool) (l : List Item) : (outL p all l).Pairwise le := insAll_sorted _ [] (by simp)

theorem eq_of_nodup {l : List Item} (h : (l.map (·.s)).Nodup) {a b : Item} (ha : a ∈ l) (hb : b ∈ l) (he : a.s = b.s) : a = b := by
  induction l with
  | nil => cases ha
  | cons x l ih =>
    rw [List.map_cons, List.nodup_cons] at h
    rw [List.mem_cons] at ha hb
    rcases ha with rfl | ha <;> rcases hb with rfl | hb
    · rfl
    · exact absurd (List.mem_map.2 ⟨b, hb, he.symm⟩) h.1
    · exact absurd (List.mem_map.2 ⟨a, ha, he⟩) h.1
    · exact ih h.2 ha hb

structure RP (k : Nat) (s : St) (q : Array Item) (r : RB) : Prop where
  lat : s.lat = r.lat
  room : s.room = r.room
  num : s.num = r.num
  late : s.late = r.late
  closed : s.closed = r.closed
  mark : IsMark r.lat (r.seen ++ r.shown) (s.mark, s.marked)
  perm : q.toList.Perm r.wait
  seqs : (r.wait.map (·.s)).Nodup
  below : ∀ x ∈ r.wait, x.s < r.num
  tick0 : s.ticked = false → r.shown = []
  tick1 : s.ticked = true → s.clock ∈ r.shown ∧ ∀ x ∈ r.shown, x ≤ s.clock
  empty : r.seen = [] → r.wait = []
  times : ∀ x ∈ r.seen ++ r.shown, inst x = true
  num0 : 0 ≤ r.num
  num1 : r.num ≤ (k : Int)
  late0 : 0 ≤ r.late
  late1 : r.late ≤ (k : Int)
  wlen : r.wait.length ≤ k
  slen : r.seen.length ≤ k
  clen : r.shown.length ≤ k

theorem RP.start (x y : Int) : RP 0 (newSt x y) #[] ⟨x, y, [], [], [], 0, 0, false⟩ :=
  ⟨rfl, rfl, rfl, rfl, rfl, IsMark.start x, by simp, by simp, by simp, fun _ => rfl, (fun h => by cases h), fun _ => rfl, by simp, by simp, by simp, by simp, by simp, by simp, by simp, by simp⟩

theorem RP.size {k : Nat} {s : St} {q : Array Item} {r : RB} (h : RP k s q r) : q.size = r.wait.length := by
  have := h.perm.length_eq
  simpa using this

theorem RP.markEq {k : Nat} {s : St} {q : Array Item} {r : RB} (h : RP k s q r) : r.mark = (s.mark, s.marked) := (markL_is r.lat (r.seen ++ r.shown)).unique h.mark (fun _ => Iff.rfl)

theorem RP.code {k : Nat} {s : St} {q : Array Item} {r : RB} (h : RP k s q r) (t : Int) : pushCode s q.size t = rCode r t := by
  unfold pushCode rCode
  rw [h.closed, h.markEq, h.room, h.size]

theorem RP.tcode {k : Nat} {s : St} {q : Array Item} {r : RB} (h : RP k s q r) (t : Int) : tickCode s t = rtCode r t := by
  unfold tickCode rtCode
  rw [h.closed]
  have e : (s.ticked = true ∧ t < s.clock) ↔ ∃ x ∈ r.shown, t < x := by
    constructor
    · rintro ⟨h1, h2⟩
      exact ⟨_, (h.tick1 h1).1, h2⟩
    · rintro ⟨x, hx, hlt⟩
      cases ht : s.ticked with
      | false => rw [h.tick0 ht] at hx; cases hx
      | true =>
        have := (h.tick1 ht).2 x hx
        exact ⟨rfl, by omega⟩
  simp only [e]

theorem seeSt_step (s : St) (t : Int) : ((seeSt s t).mark, (seeSt s t).marked) = markStep s.lat (s.mark, s.marked) t := by
  unfold seeSt markStep
  by_cases h : s.marked = false ∨ s.mark < t - s.lat
  · rw [if_pos (by rcases h with h | h <;> simp [h]), if_pos h]
  · rw [if_neg (by intro h2; apply h; simpa using h2), if_neg h]

theorem RP.more {k : Nat} {s : St} {q : Array Item} {r : RB} (h : RP k s q r) : RP (k + 1) s q r :=
  ⟨h.lat, h.room, h.num, h.late, h.closed, h.mark, h.perm, h.seqs, h.below, h.tick0, h.tick1, h.empty, h.times, h.num0, by have := h.num1; omega, h.late0, by have := h.late1; omega, by have := h.wlen; omega, by have := h.slen; omega, by have := h.clen; omega⟩

theorem RP.push {k : Nat} {s : St} {q q' : Array Item} {r : RB} (h : RP k s q r) {t k0 k1 k2 : Int} (hw : if pushCode s q.size t = 0 then q'.toList.Perm (⟨t, s.num, k0, k1, k2⟩ :: q.toList) else q' = q) :
    RP (k + 1) (pushSt s q.size t) q' (rPush r t k0 k1 k2) := by
  have hc := h.code t
  unfold rPush
  rw [← hc]
  rcases pushSt_cases s q.size t with ⟨c0, c7, e⟩ | ⟨c7, _, _, e⟩ | ⟨c0, _, hin, _, _, e⟩
  · rw [if_neg c0] at hw
    rw [e, if_neg c7, if_neg c0, hw]
    exact h.more
  · rw [if_neg (by omega)] at hw
    rw [e, if_pos c7, hw]
    refine ⟨h.lat, h.room, h.num, ?_, h.closed, h.mark, h.perm, h.seqs, h.below, h.tick0, h.tick1, h.empty, h.times, h.num0, ?_, ?_, ?_, ?_, ?_, ?_⟩
    · show s.late + 1 = r.late + 1
      rw [h.late]
    · have := h.num1; show r.num ≤ _; omega
    · have := h.late0; show 0 ≤ r.late + 1; omega
    · have := h.late1; show r.late + 1 ≤ _; omega
    · have := h.wlen; show r.wait.length ≤ _; omega
    · have := h.slen; show r.seen.length ≤ _; omega
    · have := h.clen; show r.shown.length ≤ _; omega
  · rw [if_pos c0] at hw
    rw [e, if_neg (by omega), if_pos c0]
    have hn := h.num
    refine ⟨?_, ?_, ?_, ?_, ?_, ?_, ?_, ?_, ?_, ?_, ?_, ?_, ?_, ?_, ?_, ?_, ?_, ?_, ?_, ?_⟩
    · rw [seeSt_lat]; exact h.lat
    · rw [seeSt_room]; exact h.room
    · rw [seeSt_num]; show s.num + 1 = r.num + 1; rw [hn]
    · rw [seeSt_late]; exact h.late
    · rw [seeSt_closed]; exact h.closed
    · rw [seeSt_step]
      show IsMark r.lat (r.seen ++ [t] ++ r.shown) (markStep s.lat (s.mark, s.marked) t)
      rw [h.lat]
      refine h.mark.step t (fun x => ?_)
      simp only [List.mem_append, List.mem_singleton]
      constructor
      · rintro ((h | h) | h)
        · exact .inl (.inl h)
        · exact .inr h
        · exact .inl (.inr h)
      · rintro ((h | h) | h)
        · exact .inl (.inl h)
        · exact .inr h
        · exact .inl (.inr h)
    · show q'.toList.Perm (r.wait ++ [⟨t, r.num, k0, k1, k2⟩])
      rw [hn] at hw
      refine hw.trans ((List.Perm.cons _ h.perm).trans ?_)
      exact List.perm_append_comm (l₁ := [_]) (l₂ := r.wait)
    · show ((r.wait ++ [(⟨t, r.num, k0, k1, k2⟩ : Item)]).map (·.s)).Nodup
      rw [List.map_append, List.nodup_append]
      refine ⟨h.seqs, by simp, fun a ha b hb e => ?_⟩
      rw [List.mem_map] at ha
      obtain ⟨x, hx, rfl⟩ := ha
      have := h.below x hx
      simp at hb
      omega
    · show ∀ x ∈ r.wait ++ [(⟨t, r.num, k0, k1, k2⟩ : Item)], x.s < r.num + 1
      intro x hx
      rw [List.mem_append, List.mem_singleton] at hx
      rcases hx with hx | rfl
      · have := h.below x hx; omega
      · show r.num < r.num + 1; omega
    · rw [seeSt_ticked]; exact h.tick0
    · rw [seeSt_ticked, seeSt_clock]; exact h.tick1
    · intro he
      have he : r.seen ++ [t] = [] := he
      simp at he
    · show ∀ x ∈ r.seen ++ [t] ++ r.shown, inst x = true
      intro x hx
      rw [List.mem_append, List.mem_append, List.mem_singleton] at hx
      rcases hx with (hx | rfl) | hx
      · exact h.times x (List.mem_append_left _ hx)
      · exact hin
      · exact h.times x (List.mem_append_right _ hx)
    · have := h.num0; show 0 ≤ r.num + 1; omega
    · have := h.num1; show r.num + 1 ≤ _; omega
    · exact h.late0
    · have := h.late1; show r.late ≤ _; omega
    · have := h.wlen; show (r.wait ++ [_]).length ≤ _; simp; omega
    · have := h.slen; show (r.seen ++ [t]).length ≤ _; simp; omega
    · have := h.clen; show r.shown.length ≤ _; omega

theorem RP.tick {k : Nat} {s : St} {q : Array Item} {r : RB} (h : RP k s q r) (t : Int) : RP (k + 1) (tickSt s t) q (rTick r t) := by
  have hc := h.tcode t
  unfold rTick
  rw [← hc]
  rcases tickSt_cases s t with ⟨c0, e⟩ | ⟨c0, _, hin, hnc, e⟩
  · rw [e, if_neg c0]
    exact h.more
  · rw [e, if_pos c0]
    refine ⟨?_, ?_, ?_, ?_, ?_, ?_, h.perm, h.seqs, h.below, ?_, ?_, h.empty, ?_, h.num0, ?_, h.late0, ?_, ?_, ?_, ?_⟩
    · rw [seeSt_lat]; exact h.lat
    · rw [seeSt_room]; exact h.room
    · rw [seeSt_num]; exact h.num
    · rw [seeSt_late]; exact h.late
    · rw [seeSt_closed]; exact h.closed
    · rw [seeSt_step]
      show IsMark r.lat (r.seen ++ (r.shown ++ [t])) (markStep s.lat (s.mark, s.marked) t)
      rw [h.lat]
      refine h.mark.step t (fun x => ?_)
      simp only [List.mem_append, List.mem_singleton]
      exact or_assoc.symm
    · rw [seeSt_ticked]
      intro h; cases h
    · rw [seeSt_ticked, seeSt_clock]
      intro _
      show t ∈ r.shown ++ [t] ∧ ∀ x ∈ r.shown ++ [t], x ≤ t
      refine ⟨by simp, fun x hx => ?_⟩
      rw [List.mem_append, List.mem_singleton] at hx
      rcases hx with hx | rfl
      · cases ht : s.ticked with
        | false => rw [h.tick0 ht] at hx; cases hx
        | true =>
          have h1 := (h.tick1 ht).2 x hx
          have : ¬ t < s.clock := fun hlt => hnc ⟨ht, hlt⟩
          omega
      · exact Int.le_refl _
    · show ∀ x ∈ r.seen ++ (r.shown ++ [t]), inst x = true
      intro x hx
      rw [List.mem_append, List.mem_append, List.mem_singleton] at hx
      rcases hx with hx | hx | rfl
      · exact h.times x (List.mem_append_left _ hx)
      · exact h.times x (List.mem_append_right _ hx)
      · exact hin
    · have := h.num1; show r.num ≤ _; omega
    · have := h.late1; show r.late ≤ _; omega
    · have := h.wlen; show r.wait.length ≤ _; omega
    · have := h.slen; show r.seen.length ≤ _; omega
    · have := h.clen; show (r.shown ++ [t]).length ≤ _; simp; omega

/-- What the heap gives, and what the document's list gives, are the same; what is left has the same items. -/
theorem RP.took {k : Nat} {s s' : St} {q t r' : Array Item} {r : RB} (h : RP k s q r) (all : Bool) (ht : Taken q t r') (h1 : ∀ y ∈ t.toList, goes r.mark all y = true) (h2 : ∀ y ∈ r'.toList, goes r.mark all y = false)
    (hs : s' = { s with closed := s.closed || all }) : t.toList = rOut r all ∧ RP (k + 1) s' r' (rTake r all) := by
  have hp : (t.toList ++ r'.toList).Perm r.wait := ht.perm.trans h.perm
  have hf := hp.filter (goes r.mark all)
  rw [List.filter_append, List.filter_eq_self.2 h1, List.filter_eq_nil_iff.2 (fun y hy => by rw [h2 y hy]; simp), List.append_nil] at hf
  have hf2 := hp.filter (fun x => !goes r.mark all x)
  rw [List.filter_append, List.filter_eq_nil_iff.2 (fun y hy => by rw [h1 y hy]; simp), List.filter_eq_self.2 (fun y hy => by rw [h2 y hy]; rfl), List.nil_append] at hf2
  have hsub : ∀ x ∈ leftL r.mark all r.wait, x ∈ r.wait := fun x hx => (List.mem_filter.1 hx).1
  refine ⟨?_, ?_⟩
  · have hpo : t.toList.Perm (rOut r all) := hf.trans (outL_perm _ _ _).symm
    refine List.Perm.eq_of_pairwise (le := le) (fun a b ha hb h1 h2 => ?_) ht.sorted (outL_sorted _ _ _) hpo
    have ha' : a ∈ r.wait := (List.mem_filter.1 (hf.subset ha)).1
    have hb' : b ∈ r.wait := (List.mem_filter.1 ((outL_perm _ _ _).subset hb)).1
    exact eq_of_nodup h.seqs ha' hb' (by unfold le at h1 h2; omega)
  · subst hs
    have hw : (leftL r.mark all r.wait).length ≤ r.wait.length := List.length_filter_le _ _
    refine ⟨h.lat, h.room, h.num, h.late, ?_, h.mark, hf2, ?_, ?_, h.tick0, h.tick1, ?_, h.times, h.num0, ?_, h.late0, ?_, ?_, ?_, ?_⟩
    · show (s.closed || all) = (r.closed || all)
      rw [h.closed]
    · exact h.seqs.sublist (List.Sublist.map _ (List.filter_sublist))
    · exact fun x hx => h.below x (hsub x hx)
    · intro he
      show leftL r.mark all r.wait = []
      rw [h.empty he]
      rfl
    · have := h.num1; show r.num ≤ _; omega
    · have := h.late1; show r.late ≤ _; omega
    · have := h.wlen; show (leftL r.mark all r.wait).length ≤ _; omega
    · have := h.slen; show r.seen.length ≤ _; omega
    · have := h.clen; show r.shown.length ≤ _; omega

theorem RP.fit {k : Nat} {s : St} {q : Array Item} {r : RB} (h : RP k s q r) (h0 : 0 ≤ r.lat) (h1 : r.lat ≤ 1152921504606846976) (hr : r.room ≤ 1000) (hk : k ≤ 1000) : Fit s := by
  have := h.lat; have := h.room; have := h.num; have := h.late; have := h.num0; have := h.num1; have := h.late0; have := h.late1
  exact ⟨by omega, by omega, by omega, by omega, by omega, by omega, by omega⟩

theorem RP.noneIn {k : Nat} {s : St} {q : Array Item} {r : RB} (h : RP k s q r) (hm : s.marked = false) : q.size = 0 := by
  have := (h.mark.no hm).1
  rw [List.append_eq_nil_iff] at this
  rw [h.size, h.empty this.1]
  rfl

end Go.Proofs.Ytgcmdoinihehcaa
