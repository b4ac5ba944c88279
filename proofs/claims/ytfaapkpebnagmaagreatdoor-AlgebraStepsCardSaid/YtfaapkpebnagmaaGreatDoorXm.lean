/- Texts of the proof, one behind the other: Ma, Td, Te, Tf, Tg, Th, Ti, Tj, Tk, Tl, Tm, Tn, Tp. -/
import Derived.Test.YtfaapkpebnagmaaGreatDoorXl
import Derived.Test.YtfaapkpebnagmaaGreatDoorXb
import Derived.Laws.IdiomRangeMap
import Derived.WideKeyRuns
import Derived.RangeFuncNested
import Derived.RangeFuncBound
import Derived.RangeFuncCalls
import Derived.RangeFuncLeaves
import Derived.RangeFuncBox
import Derived.Shelf.Abstract
import Derived.Shelf.RegionOpen
import Derived.OwnWalkIn
import Derived.TacticsInMore
import Derived.LoopNIn
import Derived.LoopIn
namespace Go.Proofs.YtfaapkpebnagmaaGreatDoor
open _root_.Go.Proofs.Tryz
open Go.RowKit Go
set_option linter.unusedVariables false
set_option maxRecDepth 100000
set_option maxHeartbeats 400000000
variable {w w' W : World} {kt e : TypeId} {P : Program} {B sb X t ri bm c i : Nat} {v : Value} {S : Nat → Prop} {l : List Edge} {r : Nat → Value} {ls : Nat → List Edge} {room : Int} {cs : Array Value} {a b : Edge}
section
structure Ent (α : Type) where
 k : α
 v : Value
 b : Nat
def Ent.me {α : Type} (K : α → Value) (e : Ent α) : MapEntry := { key := K e.k,val := e.v,born := e.b }
section
variable {α : Type} [DecidableEq α]
def bc : List (Ent α) → α → Option Value
 | [],_ => none
 | e :: l,x => if x = e.k then some e.v else bc l x
def b5 : List (Ent α) → α → Bool
 | [],_ => false
 | e :: l,x => decide (x = e.k) || b5 l x
def ep (l : List (Ent α)) (x : α) (v : Value) (c : Nat) : List (Ent α) :=
 if b5 l x then l.map (fun e => if x = e.k then { e with v := v } else e) else l ++ [⟨x,v,c⟩]
theorem cH (x : α) : ∀ l : List (Ent α),b5 l x = true ↔ x ∈ l.map (·.k)
 | [] => by simp [b5]
 | e :: l => by
  have ih := cH x l;simp only [b5,Bool.or_eq_true,decide_eq_true_eq,List.map_cons,List.mem_cons,ih]
theorem bV (x : α) : ∀ l : List (Ent α),bc l x = none ↔ b5 l x = false
 | [] => by simp [b5,bc]
 | e :: l => by
  have ih := bV x l;unfold bc b5;by_cases h : x = e.k
  · simp [h]
  · simp [h,ih]
theorem gX {l : List (Ent α)} (hn : (l.map (·.k)).Nodup) {e : Ent α} (he : e ∈ l) : bc l e.k = some e.v := by
 induction l with
 | nil => cases he
 | cons a l ih =>
  have h := List.nodup_cons.1 hn;unfold bc;rcases List.mem_cons.1 he with rfl | h1
  · rw [if_pos rfl]
  · rw [if_neg (fun (h2 : e.k = a.k) => h.1 (List.mem_map.2 ⟨e,h1,h2⟩))];exact ih h.2 h1
theorem fi {l : List (Ent α)} {x : α} (h : bc l x = some v) : ∃ e ∈ l,e.k = x ∧ e.v = v := by
 induction l with
 | nil => cases h
 | cons a l ih =>
  unfold bc at h;by_cases hx : x = a.k
  · rw [if_pos hx] at h;exact ⟨a,List.mem_cons_self ..,hx.symm,Option.some.inj h⟩
  · rw [if_neg hx] at h;obtain ⟨e,h1,h2⟩ := ih h;exact ⟨e,List.mem_cons_of_mem _ h1,h2⟩
theorem kA (l m : List (Ent α)) (x : α) : bc (l ++ m) x = (bc l x).or (bc m x) := by
 induction l with
 | nil => simp [bc]
 | cons a l ih =>
  have e1 : ∀ t : List (Ent α),bc (a :: t) x = if x = a.k then some a.v else bc t x := fun _ => rfl;rw [List.cons_append,e1,e1,ih];split <;> simp
theorem qD (x y : α) (v : Value) : ∀ l : List (Ent α),b5 l x = true → bc (l.map (fun e => if x = e.k then { e with v := v } else e)) y = if y = x then some v else bc l y
 | [],h => by cases h
 | e :: l,h => by
  by_cases hx : x = e.k
  · simp only [List.map_cons,if_pos hx];unfold bc;simp only;by_cases hy : y = x
    · rw [if_pos (hy.trans hx),if_pos hy]
    · rw [if_neg (fun h2 => hy (h2.trans hx.symm)),if_neg hy,if_neg (fun h2 => hy (h2.trans hx.symm))];clear h
      induction l with
      | nil => rfl
      | cons a l ih =>
       simp only [List.map_cons];unfold bc;by_cases hxa : x = a.k
       · rw [if_pos hxa];simp only;rw [if_neg (fun h2 => hy (h2.trans hxa.symm)),if_neg (fun h2 => hy (h2.trans hxa.symm))];exact ih
       · rw [if_neg hxa,ih]
  · have h2 : b5 l x = true := by
     unfold b5 at h
     rwa [decide_eq_false hx,Bool.false_or] at h
    have ih := qD x y v l h2;simp only [List.map_cons,if_neg hx];unfold bc;by_cases hy : y = e.k
    · rw [if_pos hy,if_neg (fun h3 => hx (h3.symm.trans hy)),if_pos hy]
    · rw [if_neg hy,if_neg hy,ih]
theorem xC (l : List (Ent α)) (x y : α) (v : Value) (c : Nat) : bc (ep l x v c) y = if y = x then some v else bc l y := by
 unfold ep;by_cases h : b5 l x = true
 · rw [if_pos h,qD x y v l h]
 · rw [if_neg h,kA];have h1 : bc l x = none := (bV x l).2 (by simpa using h);by_cases hy : y = x
   · subst hy;rw [if_pos rfl,h1];simp [bc]
   · rw [if_neg hy];simp [bc,hy]
theorem j6 (l : List (Ent α)) (x : α) (v : Value) (c : Nat) : (ep l x v c).map (·.k) = if b5 l x then l.map (·.k) else l.map (·.k) ++ [x] := by
 unfold ep;split
 · rw [List.map_map];apply List.map_congr_left;intro e _;simp only [Function.comp];split <;> rfl
 · simp
theorem nK (l : List (Ent α)) (x : α) (v : Value) (c : Nat) : (ep l x v c).map (·.b) = if b5 l x then l.map (·.b) else l.map (·.b) ++ [c] := by
 unfold ep;split
 · rw [List.map_map];apply List.map_congr_left;intro e _;simp only [Function.comp];split <;> rfl
 · simp
end
def be {α : Type} (K : α → Value) (w : World) (r : Nat) (l : List (Ent α)) (c : Nat) : Prop :=
 w.heap[r]? = some (.map (l.map (Ent.me K)).toArray c) ∧ (l.map (·.k)).Nodup ∧ (l.map (·.b)).Nodup ∧ ∀ e ∈ l,e.b < c
section
variable {α : Type} {K : α → Value} {w w' : World} {r c : Nat} {l : List (Ent α)}
theorem be.lt (h : be K w r l c) : r < w.heap.size := (Array.getElem?_eq_some_iff.1 h.1).1
theorem be.fr (h : be K w r l c) (hf : Fr S w w') (hn : ¬ S r) : be K w' r l c := ⟨(hf.block r h.lt hn).trans h.1,h.2⟩
theorem be.new (K : α → Value) (w : World) : be K (w.alloc (.map #[] 0)) w.heap.size [] 0 := ⟨heap_alloc_new w _,List.nodup_nil,List.nodup_nil,fun e he => by cases he⟩
theorem be.ne_blk {g : Nat} {t : TypeId} (h : be K w r l c) (hb : Blk w g t cs) : r ≠ g := by
 rintro rfl;have hb2 : w.heap[r]? = some (.cells cs t (0,0)) := hb;rw [h.1] at hb2;cases hb2
variable [DecidableEq α]
structure KeyLaw (P : Program) (K : α → Value) (kt : TypeId) : Prop where
 inj : ∀ a b,K a = K b → a = b
 chk : ∀ em x w,(Instr.checkKey em 10000 kt (K x)).run P w = .ok () w
 stays : ∀ x w,(Instr.keyThatStays (K x) (K x)).run P w = .ok (K x) w
 find : ∀ (x : α) (l : List (Ent α)) (w : World),(Instr.findKey kt (K x) (l.map (Ent.me K))).run P w = .ok (((l.findIdx? (fun e => decide (x = e.k))).bind fun i => (bc l x).map fun v => (i,v))) w
theorem fj (heq : ∀ a b w,(Op.equal kt (K a) (K b)).run P w = .ok (decide (a = b)) w) (x : α) (w : World) : ∀ (l : List (Ent α)) (i : Nat),(Instr.findAsking kt (K x) (l.map (Ent.me K)) i).run P w = .ok (((l.findIdx? (fun e => decide (x = e.k))).bind fun j => (bc l x).map fun v => (i + j,v))) w
 | [],i => rfl
 | e :: l,i => by
  have ih := fj heq x w l (i + 1);rw [List.map_cons];unfold Instr.findAsking bc;rw [List.findIdx?_cons];have he : (Ent.me K e).key = K e.k := rfl;simp only [Sem.run_bind,he,heq,Result.andThen_ok];by_cases hx : x = e.k
  · rw [decide_eq_true hx,if_pos hx];rfl
  · rw [decide_eq_false hx,if_neg hx];simp only [Bool.false_eq_true,if_false,ih];cases l.findIdx? (fun e => decide (x = e.k)) with
    | none => rfl
    | some j => simp [Nat.add_assoc,Nat.add_comm 1 j]
theorem jC {ik : IntKind} (hu : P.underlying kt = some (.int ik)) (hK : ∃ f : α → Int,(∀ x,K x = .int ik (f x)) ∧ ∀ a b,f a = f b → a = b) (x : α) (w : World) : ∀ (l : List (Ent α)) (i : Nat),Instr.findNow (.int ik) (K x) (l.map (Ent.me K)) i = some (((l.findIdx? (fun e => decide (x = e.k))).bind fun j => (bc l x).map fun v => (i + j,v)))
 | [],i => rfl
 | e :: l,i => by
  have ih := jC hu hK x w l (i + 1);obtain ⟨f,hf,hj⟩ := hK;rw [List.map_cons];unfold Instr.findNow bc;rw [List.findIdx?_cons];have he : (Ent.me K e).key = K e.k := rfl;rw [he,hf x,hf e.k];simp only [Instr.sameNow,if_true];rw [hf x] at ih;by_cases hx : x = e.k
  · have : (f x == f e.k) = true := by rw [hx]; simp
    rw [this,decide_eq_true hx,if_pos hx];rfl
  · have : (f x == f e.k) = false := by
     rw [beq_eq_false_iff_ne];exact fun h => hx (hj _ _ h)
    rw [this,decide_eq_false hx,if_neg hx];simp only [Bool.false_eq_true,if_false,ih];cases l.findIdx? (fun e => decide (x = e.k)) with
    | none => rfl
    | some j => simp [Nat.add_assoc,Nat.add_comm 1 j]
theorem ee (x : α) : ∀ l : List (Ent α),(b5 l x = false → l.findIdx? (fun e => decide (x = e.k)) = none) ∧ (b5 l x = true → ∃ j e,l.findIdx? (fun e => decide (x = e.k)) = some j ∧ l[j]? = some e ∧ e.k = x ∧ bc l x = some e.v ∧ l.map (fun e => if x = e.k then { e with v := e.v } else e) = l)
 | [] => ⟨fun _ => rfl,fun h => by cases h⟩
 | e :: l => by
  obtain ⟨h1,h2⟩ := ee x l;rw [List.findIdx?_cons];unfold b5;by_cases hx : x = e.k
  · refine ⟨fun h => ?_,fun _ => ⟨0,e,by rw [decide_eq_true hx]; rfl,rfl,hx.symm,by unfold bc; rw [if_pos hx],by simp⟩⟩;rw [decide_eq_true hx] at h;cases h
  · rw [decide_eq_false hx,Bool.false_or];refine ⟨fun h => by rw [h1 h]; rfl,fun h => ?_⟩;obtain ⟨j,e2,h3,h4,h5,h6,h7⟩ := h2 h;exact ⟨j + 1,e2,by rw [h3]; rfl,h4,h5,by unfold bc; rw [if_neg hx]; exact h6,by simp⟩
theorem bM (L : KeyLaw P K kt) (h : be K w r l c) (T e : TypeId) (hu : P.underlying T = some (.map kt e)) (z : Value) (hz : (zeroValue e).run P w = .ok z w) (x : α) (ok : Bool) :
    (Instr.lookup T (.map (some r)) (K x) ok).run P w = .ok (if ok then .tuple #[(bc l x).getD z,.bool (bc l x).isSome] else (bc l x).getD z) w := by
 have hget : (getObj r).run P w = .ok (.map (l.map (Ent.me K)).toArray c) w := by simp [getObj,Sem.run,h.1]
 have hfind := L.find x l w;simp only [Instr.lookup,Sem.run_bind,run_underlying hu,Result.andThen_ok,hget,Sem.run_pure,L.chk,hfind];cases hg : b5 l x with
 | false =>
  rw [(ee x l).1 hg,(bV x l).2 hg];cases ok <;> simp [hz]
 | true =>
  obtain ⟨j,e2,h3,h4,h5,h6,_⟩ := (ee x l).2 hg;rw [h3,h6];cases ok <;> simp
end
def fS (w : World) (r : Nat) (o : Obj) : World := { w with heap := w.heap.setIfInBounds r o }
section
variable {α : Type} {K : α → Value} {w w' : World} {r c : Nat} {l : List (Ent α)} [DecidableEq α]
theorem xD (x : α) (v : Value) : ∀ (l : List (Ent α)) (j : Nat),(l.map (·.k)).Nodup → l.findIdx? (fun e => decide (x = e.k)) = some j → (l.map (Ent.me K)).modify j (fun e => { e with key := K x,val := v }) = (l.map (fun e => if x = e.k then { e with v := v } else e)).map (Ent.me K)
 | [],j,_,h => by cases h
 | e :: l,j,hn,h => by
  have hn' := List.nodup_cons.1 hn;rw [List.findIdx?_cons] at h;by_cases hx : x = e.k
  · rw [decide_eq_true hx] at h;have hj : j = 0 := (Option.some.inj h).symm;subst hj;have hrest : l.map (fun e => if x = e.k then { e with v := v } else e) = l := by
     conv => rhs; rw [← List.map_id l]
     apply List.map_congr_left;intro a ha;rw [if_neg (fun h2 => hn'.1 (List.mem_map.2 ⟨a,ha,h2.symm.trans hx⟩))];rfl
    simp only [List.map_cons,if_pos hx,hrest];show { Ent.me K e with key := K x,val := v } :: _ = _;rw [hx];rfl
  · rw [decide_eq_false hx] at h;cases h2 : l.findIdx? (fun e => decide (x = e.k)) with
    | none => rw [h2] at h; cases h
    | some i =>
     rw [h2] at h;have hj : j = i + 1 := (Option.some.inj h).symm;subst hj;have ih := xD x v l i hn'.2 h2;simp only [List.map_cons,if_neg hx];rw [← ih];rfl
theorem sA {l : List (Ent α)} (h : (l.map (·.k)).Nodup ∧ (l.map (·.b)).Nodup ∧ ∀ e ∈ l,e.b < c) (x : α) (v : Value) :
    ((ep l x v c).map (·.k)).Nodup ∧ ((ep l x v c).map (·.b)).Nodup ∧ ∀ e ∈ ep l x v c,e.b < (if b5 l x then c else c + 1) := by
 have hb : ∀ y ∈ (ep l x v c).map (·.b),y < (if b5 l x then c else c + 1) := by
  intro y hy;rw [nK] at hy;split at hy
  · rename_i hx;rw [if_pos hx];obtain ⟨e,he,rfl⟩ := List.mem_map.1 hy;exact h.2.2 e he
  · rename_i hx;rw [if_neg hx];rcases List.mem_append.1 hy with h1 | h1
    · obtain ⟨e,he,rfl⟩ := List.mem_map.1 h1;have := h.2.2 e he;omega
    · rw [List.mem_singleton] at h1;omega
 refine ⟨?_,?_,fun e he => hb _ (List.mem_map.2 ⟨e,he,rfl⟩)⟩
 · rw [j6];split
   · exact h.1
   · rename_i hx;refine List.nodup_append.2 ⟨h.1,by simp,fun a ha b hb => ?_⟩;rw [List.mem_singleton] at hb;rintro rfl;subst hb;exact hx ((cH a l).2 ha)
 · rw [nK];split
   · exact h.2.1
   · refine List.nodup_append.2 ⟨h.2.1,by simp,fun a ha b hb => ?_⟩;rw [List.mem_singleton] at hb;obtain ⟨e,he,rfl⟩ := List.mem_map.1 ha;have := h.2.2 e he;omega
theorem bK (L : KeyLaw P K kt) (h : be K w r l c) (T e : TypeId) (hu : P.underlying T = some (.map kt e)) (x : α) (v : Value) :
    (Instr.mapUpdate T (.map (some r)) (K x) v).run P w = .ok () (fS w r (.map ((ep l x v c).map (Ent.me K)).toArray (if b5 l x then c else c + 1))) ∧ be K (fS w r (.map ((ep l x v c).map (Ent.me K)).toArray (if b5 l x then c else c + 1))) r (ep l x v c) (if b5 l x then c else c + 1) := by
 have hlt := h.lt;have hget : (getObj r).run P w = .ok (.map (l.map (Ent.me K)).toArray c) w := by simp [getObj,Sem.run,h.1]
 have hg2 : w.heap[r] = Obj.map (l.map (Ent.me K)).toArray c := by
  have := h.1;rw [Array.getElem?_eq_getElem hlt] at this;exact Option.some.inj this
 have hset : ∀ o : Obj,(setObj r o).run P w = .ok () (fS w r o) := fun o => by
  simp [setObj,Sem.run,hlt,fS,hg2]
 have hfind := L.find x l w;refine ⟨?_,⟨by simp [fS,hlt],sA h.2 x v⟩⟩;simp only [Instr.mapUpdate,Sem.run_bind,run_underlying hu,Result.andThen_ok,hget,L.chk,hfind];cases hg : b5 l x with
 | false =>
  rw [(ee x l).1 hg];simp only [Option.bind_none,hset,if_neg Bool.false_ne_true];congr 2;unfold ep;rw [if_neg (by rw [hg]; exact Bool.false_ne_true)];simp [Ent.me]
 | true =>
  obtain ⟨j,e2,h3,h4,h5,h6,_⟩ := (ee x l).2 hg;rw [h3,h6];have h7 : (l.map (Ent.me K)).toArray[j]? = some (Ent.me K e2) := by simp [h4]
  have h8 : (Ent.me K e2).key = K x := by rw [← h5]; rfl
  simp only [Option.map_some,Option.bind_some,h7,Option.getD_some,h8,Sem.run_bind,L.stays,Result.andThen_ok,hset,if_true];congr 3;apply Array.toList_inj.1;rw [Array.toList_modify];unfold ep;rw [if_pos hg];exact xD x v l j h.2.1 h3
theorem be.set_fr (w : World) (r : Nat) (o : Obj) : Fr (fun j => j = r) w (fS w r o) := ⟨rfl,rfl,rfl,by simp [fS],fun k hk hne => by
 show (w.heap.setIfInBounds r _)[k]? = _;rw [Array.getElem?_setIfInBounds_ne (fun e => hne e.symm)]⟩
end
/-! A loop over a map: the iterator's block anywhere. -/
theorem pp {α : Type} {e e2 : Ent α} : ∀ (m : List (Ent α)),(m.map (·.b)).Nodup → e2 ∈ m → e ∈ m → e2.b = e.b → e2 = e
 | [],_,h,_,_ => by cases h
 | a :: m,hn,h4,h5,h6 => by
  have hn' := List.nodup_cons.1 hn;rcases List.mem_cons.1 h4 with rfl | h4' <;> rcases List.mem_cons.1 h5 with rfl | h5'
  · rfl
  · exact absurd (List.mem_map.2 ⟨e,h5',h6.symm⟩) hn'.1
  · exact absurd (List.mem_map.2 ⟨e2,h4',h6⟩) hn'.1
  · exact pp m hn'.2 h4' h5' h6
theorem nL {α : Type} [DecidableEq α] : ∀ (s l : List α),s.Nodup → (∀ x ∈ s,x ∈ l) → s.length ≤ l.length
 | [],_,_,_ => Nat.zero_le _
 | x :: s,l,hn,hs => by
  have hn' := List.nodup_cons.1 hn;have hx := hs x (List.mem_cons_self ..);have h := nL s (l.erase x) hn'.2 (fun y hy => (List.mem_erase_of_ne (fun (e : y = x) => hn'.1 (by rw [← e]; exact hy))).2 (hs y (List.mem_cons_of_mem _ hy)));rw [List.length_erase_of_mem hx] at h;have := List.length_pos_of_mem hx;simp only [List.length_cons];omega
def bp {α : Type} (w : World) (ri bm : Nat) (c : Nat) (seen : List (Ent α)) : Prop := w.heap[ri]? = some (.mapIter (some bm) c (seen.map (·.b)).toArray c)
theorem bp.lt {α : Type} {seen : List (Ent α)} (h : bp w ri bm c seen) : ri < w.heap.size := by
 exact (Array.getElem?_eq_some_iff.1 h).1
theorem bp.fr {α : Type} {seen : List (Ent α)} (h : bp w ri bm c seen) (hf : Fr S w w') (hn : ¬ S ri) : bp w' ri bm c seen := by
 exact (hf.block ri h.lt hn).trans h
section
variable {α : Type} {K : α → Value} {w : World} {bm ri c : Nat} {l : List (Ent α)}
theorem ef (h : be K w bm l c) (T k e : TypeId) (hu : P.underlying T = some (.map k e)) :
    (Instr.range T (.map (some bm))).run P w = .ok (.pointer (some ⟨w.heap.size,0,none⟩)) (w.alloc (.mapIter (some bm) c #[] c)) ∧ bp (α := α) (w.alloc (.mapIter (some bm) c #[] c)) w.heap.size bm c [] :=
 ⟨run_range_map w T k e bm _ c hu h.1,heap_alloc_new w _⟩
theorem dV {seen : List (Ent α)} (h : be K w bm l c) (hi : bp w ri bm c seen) (hs : ∀ e ∈ seen,e ∈ l) (ty : TypeId) :
    ((∀ e ∈ l,e ∈ seen) ∧ (Instr.next (.pointer (some ⟨ri,0,none⟩)) false ty).run P w = .ok (.tuple #[.bool false]) w) ∨
    ∃ e ∈ l,e ∉ seen ∧ ∃ w',(Instr.next (.pointer (some ⟨ri,0,none⟩)) false ty).run P w = .ok (.tuple #[.bool true,K e.k,e.v]) w' ∧ bp w' ri bm c (seen ++ [e]) ∧ be K w' bm l c ∧ Fr (fun j => j = ri) w w' := by
 have hlt := hi.lt;have hr : w.heap[ri]? = some (.mapIter (some bm) c (seen.map (·.b)).toArray c) := hi;have hb := h.1;have hold : ∀ x ∈ (l.map (Ent.me K)).toArray.toList,x.born < c := by
  intro x hx;obtain ⟨e,he,rfl⟩ := List.mem_map.1 hx;exact h.2.2.2 e he
 have hne : ri ≠ bm := by
  rintro rfl;rw [hr] at hb;cases hb
 have hleft : ∀ x,x ∈ (leftOf (l.map (Ent.me K)).toArray (seen.map (·.b)).toArray).toList → ∃ e ∈ l,e ∉ seen ∧ x = Ent.me K e := by
  intro x hx;have h1 := mem_left hx;obtain ⟨e,he,rfl⟩ := List.mem_map.1 h1.1;refine ⟨e,he,fun h2 => ?_,rfl⟩;have : (seen.map (·.b)).toArray.contains (Ent.me K e).born = true := by
   simp only [List.contains_toArray,List.contains_iff_mem];exact List.mem_map.2 ⟨e,h2,rfl⟩
  rw [this] at h1;exact absurd h1.2 de
 have hfull : (leftOf (l.map (Ent.me K)).toArray (seen.map (·.b)).toArray).size = 0 → ∀ e ∈ l,e ∈ seen := by
  intro h0 e he;have h1 := all_seen _ _ h0 (Ent.me K e) (List.mem_map.2 ⟨e,he,rfl⟩);simp only [List.contains_toArray,List.contains_iff_mem] at h1;obtain ⟨e2,h2,h3⟩ := List.mem_map.1 h1;have hbn := h.2.2.1;have : e2 = e := pp l hbn (hs _ h2) he h3;exact this ▸ h2
 simp only [Instr.next,getObj,Sem.run_bind,Sem.run,hr,hb,Result.andThen,next_test_false _ _ c c hold (Nat.le_refl _),Bool.false_eq_true,if_false];have hdef : ∀ es : Array MapEntry,∀ sn : Array Nat,es.filter (fun e => !sn.contains e.born) = leftOf es sn := fun _ _ => rfl;rw [hdef];have hmem : ∀ x ∈ (leftOf (l.map (Ent.me K)).toArray (seen.map (·.b)).toArray).toList,x.born < c := fun x hx => hold x (mem_left hx).1;generalize leftOf (l.map (Ent.me K)).toArray (seen.map (·.b)).toArray = L at hleft hfull hmem ⊢;have e1 : L.filter (fun x => decide (x.born < c)) = L := Array.filter_eq_self.2 (fun x hx => by simpa using hmem x (by simpa using hx));have e2 : L.filter (fun x => decide (x.born ≥ c)) = #[] := by
  rw [Array.filter_eq_empty_iff];intro x hx;have := hmem x (by simpa using hx);simp;omega
 simp only [e1,e2,Array.append_empty];by_cases h0 : L.size = 0
 · left;refine ⟨hfull h0,?_⟩;have : L = #[] := Array.eq_empty_of_size_eq_zero h0;subst this;simp [choose,Sem.run,Question.forced]
 · right;have hne2 : L.isEmpty = false := by simp [Array.isEmpty,h0]
   simp only [hne2,Bool.false_eq_true,if_false,Array.empty_append,Array.size_map];have hch : ∃ (j : Nat) (w1 : World),j < L.size ∧ Fr (fun j => j = ri) w w1 ∧ w1.heap = w.heap ∧ (choose (Question.mapNext L.size)).run P w = .ok j w1 := by
    by_cases hf : L.size ≤ 1
    · exact ⟨0,w,by omega,Fr.refl _ _,rfl,by simp [choose,Sem.run,Question.forced,hf]⟩
    · exact ⟨_,w.drew,Nat.mod_lt _ jj,(Fr.refl _ _).drew,rfl,by
       simp only [choose,Sem.run,Question.forced,decide_eq_true_eq,hf,if_false,Question.cut];rfl⟩
   obtain ⟨j,w1,hj,hfr1,hh1,hrun⟩ := hch;obtain ⟨e,he,hes,hx⟩ := hleft L[j] (by simp);refine ⟨e,he,hes,fS w1 ri (.mapIter (some bm) c ((seen.map (·.b)).toArray.push e.b) c),?_,?_,⟨?_,h.2⟩,hfr1.trans' (be.set_fr w1 ri _)⟩
   · have hset : ∀ o : Obj,(setObj ri o).run P w1 = .ok () (fS w1 ri o) := fun o => by
      have h1 : ri < w1.heap.size := by rw [hh1]; exact hlt
      have h2 : w1.heap[ri]? = some (.mapIter (some bm) c (seen.map (·.b)).toArray c) := by rw [hh1]; exact hr
      simp only [setObj,Sem.run,h2];rfl
     simp only [hrun,Array.getElem?_map,Array.getElem?_eq_getElem hj,Option.map_some,Sem.run_bind,hx,hset,Result.andThen];rfl
   · show (w1.heap.setIfInBounds ri _)[ri]? = _;rw [hh1,Array.getElem?_setIfInBounds_self_of_lt hlt];simp
   · show (w1.heap.setIfInBounds ri _)[bm]? = _;rw [hh1,Array.getElem?_setIfInBounds_ne hne];exact hb
theorem dt {seen : List (Ent α)} {e : Ent α} (h : be K w bm l c) (hi : bp w ri bm c (seen ++ [e])) (he : e ∈ l) :
    (Instr.entry (.pointer (some ⟨ri,0,none⟩))).run P w = .ok (.tuple #[K e.k,e.v]) w := by
 have hr : w.heap[ri]? = some (.mapIter (some bm) c ((seen ++ [e]).map (·.b)).toArray c) := hi;have hn : ((l.map (Ent.me K)).map (·.born)).Nodup := by
  have : (l.map (Ent.me K)).map (·.born) = l.map (·.b) := by rw [List.map_map]; rfl
  rw [this];exact h.2.2.1
 have hf : (l.map (Ent.me K)).toArray.find? (·.born == e.b) = some (Ent.me K e) := by
  rw [← Array.find?_toList];exact find_born (Ent.me K e) _ hn (List.mem_map.2 ⟨e,he,rfl⟩)
 have hb : ((seen ++ [e]).map (·.b)).toArray.back? = some e.b := by simp
 simp only [Instr.entry,getObj,Sem.run_bind,Sem.run,hr,h.1,Result.andThen,hb,bne_self_eq_false,Bool.false_eq_true,if_false,hf];rfl
theorem eE (hn : (l.map (·.b)).Nodup) {seen : List (Ent α)} {e : Ent α} (hs : ∀ x ∈ seen,x ∈ l) (hd : (seen.map (·.b)).Nodup) (he : e ∈ l) (hne : e ∉ seen) : ((seen ++ [e]).map (·.b)).Nodup ∧ seen.length < l.length := by
 have h1 : e.b ∉ seen.map (·.b) := fun h => by
  obtain ⟨e2,h2,h3⟩ := List.mem_map.1 h;exact hne (pp l hn (hs _ h2) he h3 ▸ h2)
 have h2 : ((seen ++ [e]).map (·.b)).Nodup := by
  rw [List.map_append];exact List.nodup_append.2 ⟨hd,by simp,fun a ha b hb => by
   rw [List.map_cons,List.map_nil,List.mem_singleton] at hb;subst hb;exact fun h => h1 (h ▸ ha)⟩
 have h3 := nL _ (l.map (·.b)) h2 (fun y hy => by
  obtain ⟨x,hx,rfl⟩ := List.mem_map.1 hy;rcases List.mem_append.1 hx with hx | hx
  · exact List.mem_map.2 ⟨x,hs x hx,rfl⟩
  · rw [List.mem_singleton] at hx;exact List.mem_map.2 ⟨x,hx ▸ he,rfl⟩)
 refine ⟨h2,?_⟩;simp at h3;omega
theorem bp.seen {seen : List (Ent α)} (h : bp w ri bm c seen) : (w.iterSeen ri).size = seen.length := by
 unfold World.iterSeen;rw [show w.heap[ri]? = some (.mapIter (some bm) c (seen.map (·.b)).toArray c) from h];simp
end
/-! Keys that are an array of three numbers, or a struct of numbers. -/
def k3 (x : Int × Int × Int) : Value := .agg #[.int .i64 x.1,.int .i64 x.2.1,.int .i64 x.2.2]
def k2 (x : Int × Int) : Value := .agg #[.int .i64 x.1,.int .i64 x.2]
def k1 (x : Int) : Value := .int .i64 x
section
variable {P : Program}
theorem aP (he : P.underlying e = some (.int .i64)) : P.plainKey e = true := by
 unfold Program.plainKey;rw [he]
theorem dH (he : P.underlying e = some (.int .i64)) (d : Nat) (a b : Int) (w : World) : (Op.equalIn (d + 1) e (.int .i64 a) (.int .i64 b)).run P w = .ok (a == b) w := by
 simp only [Op.equalIn,Sem.run_bind,run_underlying he,Result.andThen_ok,if_true,Sem.run_pure]
theorem gr (he : P.underlying e = some (.int .i64)) (em : Bool) (d : Nat) (a : Int) (w : World) : (Instr.checkKey em (d + 1) e (.int .i64 a)).run P w = .ok () w := by
 simp [Instr.checkKey,run_underlying he]
theorem jD (v : Value) (h : Instr.sameBits 10000 v v = true) (w : World) : (Instr.keyThatStays v v).run P w = .ok v w := by
 simp [Instr.keyThatStays,h]
theorem KeyLaw.one (he : P.underlying kt = some (.int .i64)) : KeyLaw P k1 kt where
 inj := fun a b h => by
  unfold k1 at h;injection h
 chk := fun em x w => gr he em 9999 x w
 stays := fun x w => jD _ (by simp [k1,Instr.sameBits]) w
 find := fun x l w => by
  have h := jC (K := k1) he ⟨id,fun _ => rfl,fun _ _ h => h⟩ x w l 0;simp only [Instr.findKey,Sem.run_bind,run_underlying he,Result.andThen_ok,h];simp
theorem KeyLaw.arr (hu : P.underlying kt = some (.array 3 e)) (he : P.underlying e = some (.int .i64)) (hc : P.cellsOf e = 1) : KeyLaw P k3 kt where
 inj := fun a b h => by
  unfold k3 at h;obtain ⟨a1,a2,a3⟩ := a;obtain ⟨b1,b2,b3⟩ := b;simpa using h
 chk := fun em x w => by
  obtain ⟨i,hi⟩ := info_of_underlying he;have hp := aP he;show (Instr.checkKey em (9998 + 1 + 1) kt (k3 x)).run P w = _;unfold k3;rw [Instr.checkKey.eq_def];simp only [Sem.run_bind,run_underlying hu,Result.andThen_ok];simp [Std.Legacy.Range.forIn_eq_forIn_range',Std.Legacy.Range.size,List.range',run_sizeOf w hi,hc,run_part_plain w hp,gr he]
 stays := fun x w => jD _ (by simp [k3,Instr.sameBits]) w
 find := fun x l w => by
  rw [run_findKey_eq w (by rw [hu])];have h := fj (K := k3) (P := P) (kt := kt) (fun a b w => by
   obtain ⟨i,hi⟩ := info_of_underlying he;have hp := aP he;show (Op.equalIn (9998 + 1 + 1) kt (k3 a) (k3 b)).run P w = _;unfold k3;rw [run_equalIn_array w (9998 + 1) _ _ hu hi,hc];simp only [show List.range 3 = [0,1,2] from rfl,Op.eqItems];obtain ⟨a1,a2,a3⟩ := a;obtain ⟨b1,b2,b3⟩ := b;by_cases h1 : a1 = b1
   · by_cases h2 : a2 = b2
     · by_cases h3 : a3 = b3 <;> simp [run_part_plain w hp,dH he,h1,h2,h3]
     · simp [run_part_plain w hp,dH he,h1,h2]
   · simp [run_part_plain w hp,dH he,h1]) x w l 0
  simpa using h
theorem KeyLaw.str3 {f1 f2 f3 : Field} (hu : P.underlying kt = some (.struct #[f1,f2,f3])) (hh : P.stoodInHeld kt = false) (hn : f1.name ≠ "_" ∧ f2.name ≠ "_" ∧ f3.name ≠ "_") (ho : f1.offset = 0 ∧ f2.offset = 1 ∧ f3.offset = 2)
    (he : P.underlying f1.type = some (.int .i64) ∧ P.underlying f2.type = some (.int .i64) ∧ P.underlying f3.type = some (.int .i64)) : KeyLaw P k3 kt where
 inj := fun a b h => by
  unfold k3 at h;obtain ⟨a1,a2,a3⟩ := a;obtain ⟨b1,b2,b3⟩ := b;simpa using h
 chk := fun em x w => by
  show (Instr.checkKey em (9998 + 1 + 1) kt (k3 x)).run P w = _;unfold k3;rw [Instr.checkKey.eq_def];simp only [Sem.run_bind,run_underlying hu,Result.andThen_ok];simp [← Array.forIn_toList,hn.1,hn.2.1,hn.2.2,ho.1,ho.2.1,ho.2.2,run_part_plain w (aP he.1),run_part_plain w (aP he.2.1),run_part_plain w (aP he.2.2),gr he.1,gr he.2.1,gr he.2.2]
 stays := fun x w => jD _ (by simp [k3,Instr.sameBits]) w
 find := fun x l w => by
  rw [run_findKey_eq w (by rw [hu])];have hfs : P.fieldsOf kt = #[f1,f2,f3] := by unfold Program.fieldsOf; rw [hu]
  have h := fj (K := k3) (P := P) (kt := kt) (fun a b w => by
   show (Op.equalIn (9998 + 1 + 1) kt (k3 a) (k3 b)).run P w = _;unfold k3;rw [run_equalIn_struct w (9998 + 1) kt _ _ (by rw [hfs]; exact hu) hh,hfs];simp only [Op.eqFields,if_pos hn.1,if_pos hn.2.1,if_pos hn.2.2,ho.1,ho.2.1,ho.2.2];obtain ⟨a1,a2,a3⟩ := a;obtain ⟨b1,b2,b3⟩ := b;by_cases h1 : a1 = b1
   · by_cases h2 : a2 = b2
     · by_cases h3 : a3 = b3 <;> simp [run_part_plain w (aP he.1),run_part_plain w (aP he.2.1),run_part_plain w (aP he.2.2),dH he.1,dH he.2.1,dH he.2.2,h1,h2,h3]
     · simp [run_part_plain w (aP he.1),run_part_plain w (aP he.2.1),dH he.1,dH he.2.1,h1,h2]
   · simp [run_part_plain w (aP he.1),dH he.1,h1]) x w l 0
  simpa using h
theorem KeyLaw.str2 {f1 f2 : Field} (hu : P.underlying kt = some (.struct #[f1,f2])) (hh : P.stoodInHeld kt = false) (hn : f1.name ≠ "_" ∧ f2.name ≠ "_") (ho : f1.offset = 0 ∧ f2.offset = 1)
    (he : P.underlying f1.type = some (.int .i64) ∧ P.underlying f2.type = some (.int .i64)) : KeyLaw P k2 kt where
 inj := fun a b h => by
  unfold k2 at h;obtain ⟨a1,a2⟩ := a;obtain ⟨b1,b2⟩ := b;simpa using h
 chk := fun em x w => by
  show (Instr.checkKey em (9998 + 1 + 1) kt (k2 x)).run P w = _;unfold k2;rw [Instr.checkKey.eq_def];simp only [Sem.run_bind,run_underlying hu,Result.andThen_ok];simp [← Array.forIn_toList,hn.1,hn.2,ho.1,ho.2,run_part_plain w (aP he.1),run_part_plain w (aP he.2),gr he.1,gr he.2]
 stays := fun x w => jD _ (by simp [k2,Instr.sameBits]) w
 find := fun x l w => by
  rw [run_findKey_eq w (by rw [hu])];have hfs : P.fieldsOf kt = #[f1,f2] := by unfold Program.fieldsOf; rw [hu]
  have h := fj (K := k2) (P := P) (kt := kt) (fun a b w => by
   show (Op.equalIn (9998 + 1 + 1) kt (k2 a) (k2 b)).run P w = _;unfold k2;rw [run_equalIn_struct w (9998 + 1) kt _ _ (by rw [hfs]; exact hu) hh,hfs];simp only [Op.eqFields,if_pos hn.1,if_pos hn.2,ho.1,ho.2];obtain ⟨a1,a2⟩ := a;obtain ⟨b1,b2⟩ := b;by_cases h1 : a1 = b1
   · by_cases h2 : a2 = b2 <;> simp [run_part_plain w (aP he.1),run_part_plain w (aP he.2),dH he.1,dH he.2,h1,h2]
   · simp [run_part_plain w (aP he.1),dH he.1,h1]) x w l 0
  simpa using h
end
theorem qE : KeyLaw prog k1 3 := KeyLaw.one underlying3
theorem qF : KeyLaw prog k3 71 := KeyLaw.arr underlying71 underlying3 kr
theorem ud : KeyLaw prog k3 432 := KeyLaw.str3 underlying432 kr de ⟨rfl,rfl,rfl⟩ ⟨underlying3,underlying3,underlying3⟩
end
def Pl (w : World) : Prop := Blk w 1 310 #[.int .i64 0,.int .i64 1,.int .i64 2,.int .i64 1,.int .i64 2,.int .i64 0,.int .i64 2,.int .i64 0,.int .i64 1]
def Ch (w : World) : Prop := Blk w 0 286 #[.int .i64 0,.int .i64 0,.int .i64 1,.int .i64 0,.int .i64 2,.int .i64 2,.int .i64 1,.int .i64 0]
theorem Pl.fr (h : Pl w) (hf : Fr S w w') (hs : ¬ S 1) : Pl w' := Blk.fr h hf hs
theorem Ch.fr (h : Ch w) (hf : Fr S w w') (hs : ¬ S 0) : Ch w' := Blk.fr h hf hs
theorem eh (k : Edge) : k3 k = .agg #[.int .i64 k.1,.int .i64 k.2.1,.int .i64 k.2.2] := rfl
theorem nM (o : Nat) (ho : o < 3) (k : Edge) (w : World) (hP : Pl w) :
    Calls prog 156 #[.int .i64 o,k3 k] w fun e w' => e = .returned (k3 (fh o k)) ∧ Fr (fun _ => False) w w' := by
 obtain ⟨a,b,c⟩ := k;have x0 : ∀ o1 o2,((w.alloc o1).alloc o2).cell? ⟨1,0,none⟩ = some (.int .i64 0) := fun o1 o2 => ((hP.alloc o1).alloc o2).cell 0;have x1 : ∀ o1 o2,((w.alloc o1).alloc o2).cell? ⟨1,1,none⟩ = some (.int .i64 1) := fun o1 o2 => ((hP.alloc o1).alloc o2).cell 1;have x2 : ∀ o1 o2,((w.alloc o1).alloc o2).cell? ⟨1,2,none⟩ = some (.int .i64 2) := fun o1 o2 => ((hP.alloc o1).alloc o2).cell 2;have x3 : ∀ o1 o2,((w.alloc o1).alloc o2).cell? ⟨1,3,none⟩ = some (.int .i64 1) := fun o1 o2 => ((hP.alloc o1).alloc o2).cell 3;have x4 : ∀ o1 o2,((w.alloc o1).alloc o2).cell? ⟨1,4,none⟩ = some (.int .i64 2) := fun o1 o2 => ((hP.alloc o1).alloc o2).cell 4;have x5 : ∀ o1 o2,((w.alloc o1).alloc o2).cell? ⟨1,5,none⟩ = some (.int .i64 0) := fun o1 o2 => ((hP.alloc o1).alloc o2).cell 5;have x6 : ∀ o1 o2,((w.alloc o1).alloc o2).cell? ⟨1,6,none⟩ = some (.int .i64 2) := fun o1 o2 => ((hP.alloc o1).alloc o2).cell 6;have x7 : ∀ o1 o2,((w.alloc o1).alloc o2).cell? ⟨1,7,none⟩ = some (.int .i64 0) := fun o1 o2 => ((hP.alloc o1).alloc o2).cell 7;have x8 : ∀ o1 o2,((w.alloc o1).alloc o2).cell? ⟨1,8,none⟩ = some (.int .i64 1) := fun o1 o2 => ((hP.alloc o1).alloc o2).cell 8;clear hP;simp only [eh];have hb1 : ∀ o1 o2,Blk (((w.alloc (.cells #[.int .i64 a,.int .i64 b,.int .i64 c] 70)).alloc o1).alloc o2) w.heap.size 70 #[.int .i64 a,.int .i64 b,.int .i64 c] := fun o1 o2 => ((Blk.new w 70 #[.int .i64 a,.int .i64 b,.int .i64 c]).alloc o1).alloc o2;have hb2 : ∀ o1 c2 o3,Blk (((w.alloc o1).alloc (.cells c2 70)).alloc o3) (w.heap.size + 1) 70 c2 := fun o1 c2 o3 => by
  have h := (Blk.new (w.alloc o1) 70 c2).alloc o3;simpa using h
 have hb3 : ∀ o1 o2 c3,Blk (((w.alloc o1).alloc o2).alloc (.cells c3 70)) (w.heap.size + 1 + 1) 70 c3 := fun o1 o2 c3 => by
  have h := Blk.new ((w.alloc o1).alloc o2) 70 c3;simpa using h
 have hf0 : ∀ o1 o2 o3,Fr (fun _ => False) w (((w.alloc o1).alloc o2).alloc o3) := fun o1 o2 o3 => (((Fr.refl _ w).alloc o1).alloc o2).alloc o3;have HB1 := Hd hb1;have HB2 := Hd hb2;have HB3 := Hd hb3;have HF0 := Hd hf0;clear hb1 hb2 hb3 hf0;obtain rfl | rfl | rfl : o = 0 ∨ o = 1 ∨ o = 2 := jj
 · go_enter func156,ntmps156;go_wp2_with fail;clear x0 x1 x2 x3 x4 x5 x6 x7 x8;have b1 := HB1 (.cells #[.int .i64 0,.int .i64 0,.int .i64 0] 70) (.cells #[.int .i64 0,.int .i64 1,.int .i64 2] 70);have b2 := HB2 (.cells #[.int .i64 a,.int .i64 b,.int .i64 c] 70) #[.int .i64 0,.int .i64 0,.int .i64 0] (.cells #[.int .i64 0,.int .i64 1,.int .i64 2] 70);have b3 := HB3 (.cells #[.int .i64 a,.int .i64 b,.int .i64 c] 70) (.cells #[.int .i64 0,.int .i64 0,.int .i64 0] 70) #[.int .i64 0,.int .i64 1,.int .i64 2];have hf := HF0 (.cells #[.int .i64 a,.int .i64 b,.int .i64 c] 70) (.cells #[.int .i64 0,.int .i64 0,.int .i64 0] 70) (.cells #[.int .i64 0,.int .i64 1,.int .i64 2] 70);generalize (((w.alloc (.cells #[.int .i64 a,.int .i64 b,.int .i64 c] 70)).alloc (.cells #[.int .i64 0,.int .i64 0,.int .i64 0] 70)).alloc (.cells #[.int .i64 0,.int .i64 1,.int .i64 2] 70)) = W3 at *;have HS := Hd (show ∀ wy,Fr (fun k => k = w.heap.size + 1) W3 wy → wy.cell? ⟨w.heap.size,0,none⟩ = some (.int .i64 a) ∧ wy.cell? ⟨w.heap.size,1,none⟩ = some (.int .i64 b) ∧ wy.cell? ⟨w.heap.size,2,none⟩ = some (.int .i64 c) ∧ wy.cell? ⟨w.heap.size + 1 + 1,0,none⟩ = some (.int .i64 0) ∧ wy.cell? ⟨w.heap.size + 1 + 1,1,none⟩ = some (.int .i64 1) ∧ wy.cell? ⟨w.heap.size + 1 + 1,2,none⟩ = some (.int .i64 2) from fun wy hf => by
    have c1 := b1.fr hf jj;have c3 := b3.fr hf jj;exact ⟨c1.cell 0,c1.cell 1,c1.cell 2,c3.cell 0,c3.cell 1,c3.cell 2⟩)
   have HB := Hd b2;have HF := Hd hf;have y0 := b2.c0;have y1 := b2.c1;have y2 := b2.c2;have z0 := b2.frozen 0;have z1 := b2.frozen 1;have z2 := b2.frozen 2;clear b1 b2 b3 hf HB1 HB2 HB3 HF0
   go_region_held3 (fun wy => wy.cell? ⟨w.heap.size,0,none⟩ = some (.int .i64 a) ∧ wy.cell? ⟨w.heap.size,1,none⟩ = some (.int .i64 b) ∧ wy.cell? ⟨w.heap.size,2,none⟩ = some (.int .i64 c) ∧ wy.cell? ⟨w.heap.size + 1 + 1,0,none⟩ = some (.int .i64 0) ∧ wy.cell? ⟨w.heap.size + 1 + 1,1,none⟩ = some (.int .i64 1) ∧ wy.cell? ⟨w.heap.size + 1 + 1,2,none⟩ = some (.int .i64 2)) (exact HS _ (by repeat' (first | exact Fr.refl _ _ | refine Fr.drew ?_ | exact (fun _ => rfl) | refine Fr.setCell ?_ _ ?_ _))) (fail)
   go_wp2_with fail
   all_goals
    have hB3 := ((HB.set_ 0 (.int .i64 a)).set_ 1 (.int .i64 b)).set_ 2 (.int .i64 c);exact bodyPost_ret (v := .agg #[.int .i64 a,.int .i64 b,.int .i64 c]) (results_cell_row rfl _ _ (w.heap.size + 1) 70 _ (0,0) _ rfl hB3 underlying70 rfl kr) rfl ⟨rfl,((((HF.setCell _ (fun h => absurd h (by simp)) _).setCell _ (fun h => absurd h (by simp)) _).setCell _ (fun h => absurd h (by simp)) _).drew)⟩
 · go_enter func156,ntmps156;go_wp2_with fail;clear x0 x1 x2 x3 x4 x5 x6 x7 x8;have b1 := HB1 (.cells #[.int .i64 0,.int .i64 0,.int .i64 0] 70) (.cells #[.int .i64 1,.int .i64 2,.int .i64 0] 70);have b2 := HB2 (.cells #[.int .i64 a,.int .i64 b,.int .i64 c] 70) #[.int .i64 0,.int .i64 0,.int .i64 0] (.cells #[.int .i64 1,.int .i64 2,.int .i64 0] 70);have b3 := HB3 (.cells #[.int .i64 a,.int .i64 b,.int .i64 c] 70) (.cells #[.int .i64 0,.int .i64 0,.int .i64 0] 70) #[.int .i64 1,.int .i64 2,.int .i64 0];have hf := HF0 (.cells #[.int .i64 a,.int .i64 b,.int .i64 c] 70) (.cells #[.int .i64 0,.int .i64 0,.int .i64 0] 70) (.cells #[.int .i64 1,.int .i64 2,.int .i64 0] 70);generalize (((w.alloc (.cells #[.int .i64 a,.int .i64 b,.int .i64 c] 70)).alloc (.cells #[.int .i64 0,.int .i64 0,.int .i64 0] 70)).alloc (.cells #[.int .i64 1,.int .i64 2,.int .i64 0] 70)) = W3 at *;have HS := Hd (show ∀ wy,Fr (fun k => k = w.heap.size + 1) W3 wy → wy.cell? ⟨w.heap.size,0,none⟩ = some (.int .i64 a) ∧ wy.cell? ⟨w.heap.size,1,none⟩ = some (.int .i64 b) ∧ wy.cell? ⟨w.heap.size,2,none⟩ = some (.int .i64 c) ∧ wy.cell? ⟨w.heap.size + 1 + 1,0,none⟩ = some (.int .i64 1) ∧ wy.cell? ⟨w.heap.size + 1 + 1,1,none⟩ = some (.int .i64 2) ∧ wy.cell? ⟨w.heap.size + 1 + 1,2,none⟩ = some (.int .i64 0) from fun wy hf => by
    have c1 := b1.fr hf jj;have c3 := b3.fr hf jj;exact ⟨c1.cell 0,c1.cell 1,c1.cell 2,c3.cell 0,c3.cell 1,c3.cell 2⟩)
   have HB := Hd b2;have HF := Hd hf;have y0 := b2.c0;have y1 := b2.c1;have y2 := b2.c2;have z0 := b2.frozen 0;have z1 := b2.frozen 1;have z2 := b2.frozen 2;clear b1 b2 b3 hf HB1 HB2 HB3 HF0
   go_region_held3 (fun wy => wy.cell? ⟨w.heap.size,0,none⟩ = some (.int .i64 a) ∧ wy.cell? ⟨w.heap.size,1,none⟩ = some (.int .i64 b) ∧ wy.cell? ⟨w.heap.size,2,none⟩ = some (.int .i64 c) ∧ wy.cell? ⟨w.heap.size + 1 + 1,0,none⟩ = some (.int .i64 1) ∧ wy.cell? ⟨w.heap.size + 1 + 1,1,none⟩ = some (.int .i64 2) ∧ wy.cell? ⟨w.heap.size + 1 + 1,2,none⟩ = some (.int .i64 0)) (exact HS _ (by repeat' (first | exact Fr.refl _ _ | refine Fr.drew ?_ | exact (fun _ => rfl) | refine Fr.setCell ?_ _ ?_ _))) (fail)
   go_wp2_with fail
   all_goals
    have hB3 := ((HB.set_ 0 (.int .i64 b)).set_ 1 (.int .i64 c)).set_ 2 (.int .i64 a);exact bodyPost_ret (v := .agg #[.int .i64 b,.int .i64 c,.int .i64 a]) (results_cell_row rfl _ _ (w.heap.size + 1) 70 _ (0,0) _ rfl hB3 underlying70 rfl kr) rfl ⟨rfl,((((HF.setCell _ (fun h => absurd h (by simp)) _).setCell _ (fun h => absurd h (by simp)) _).setCell _ (fun h => absurd h (by simp)) _).drew)⟩
 · go_enter func156,ntmps156;go_wp2_with fail;clear x0 x1 x2 x3 x4 x5 x6 x7 x8;have b1 := HB1 (.cells #[.int .i64 0,.int .i64 0,.int .i64 0] 70) (.cells #[.int .i64 2,.int .i64 0,.int .i64 1] 70);have b2 := HB2 (.cells #[.int .i64 a,.int .i64 b,.int .i64 c] 70) #[.int .i64 0,.int .i64 0,.int .i64 0] (.cells #[.int .i64 2,.int .i64 0,.int .i64 1] 70);have b3 := HB3 (.cells #[.int .i64 a,.int .i64 b,.int .i64 c] 70) (.cells #[.int .i64 0,.int .i64 0,.int .i64 0] 70) #[.int .i64 2,.int .i64 0,.int .i64 1];have hf := HF0 (.cells #[.int .i64 a,.int .i64 b,.int .i64 c] 70) (.cells #[.int .i64 0,.int .i64 0,.int .i64 0] 70) (.cells #[.int .i64 2,.int .i64 0,.int .i64 1] 70);generalize (((w.alloc (.cells #[.int .i64 a,.int .i64 b,.int .i64 c] 70)).alloc (.cells #[.int .i64 0,.int .i64 0,.int .i64 0] 70)).alloc (.cells #[.int .i64 2,.int .i64 0,.int .i64 1] 70)) = W3 at *;have HS := Hd (show ∀ wy,Fr (fun k => k = w.heap.size + 1) W3 wy → wy.cell? ⟨w.heap.size,0,none⟩ = some (.int .i64 a) ∧ wy.cell? ⟨w.heap.size,1,none⟩ = some (.int .i64 b) ∧ wy.cell? ⟨w.heap.size,2,none⟩ = some (.int .i64 c) ∧ wy.cell? ⟨w.heap.size + 1 + 1,0,none⟩ = some (.int .i64 2) ∧ wy.cell? ⟨w.heap.size + 1 + 1,1,none⟩ = some (.int .i64 0) ∧ wy.cell? ⟨w.heap.size + 1 + 1,2,none⟩ = some (.int .i64 1) from fun wy hf => by
    have c1 := b1.fr hf jj;have c3 := b3.fr hf jj;exact ⟨c1.cell 0,c1.cell 1,c1.cell 2,c3.cell 0,c3.cell 1,c3.cell 2⟩)
   have HB := Hd b2;have HF := Hd hf;have y0 := b2.c0;have y1 := b2.c1;have y2 := b2.c2;have z0 := b2.frozen 0;have z1 := b2.frozen 1;have z2 := b2.frozen 2;clear b1 b2 b3 hf HB1 HB2 HB3 HF0
   go_region_held3 (fun wy => wy.cell? ⟨w.heap.size,0,none⟩ = some (.int .i64 a) ∧ wy.cell? ⟨w.heap.size,1,none⟩ = some (.int .i64 b) ∧ wy.cell? ⟨w.heap.size,2,none⟩ = some (.int .i64 c) ∧ wy.cell? ⟨w.heap.size + 1 + 1,0,none⟩ = some (.int .i64 2) ∧ wy.cell? ⟨w.heap.size + 1 + 1,1,none⟩ = some (.int .i64 0) ∧ wy.cell? ⟨w.heap.size + 1 + 1,2,none⟩ = some (.int .i64 1)) (exact HS _ (by repeat' (first | exact Fr.refl _ _ | refine Fr.drew ?_ | exact (fun _ => rfl) | refine Fr.setCell ?_ _ ?_ _))) (fail)
   go_wp2_with fail
   all_goals
    have hB3 := ((HB.set_ 0 (.int .i64 c)).set_ 1 (.int .i64 a)).set_ 2 (.int .i64 b);exact bodyPost_ret (v := .agg #[.int .i64 c,.int .i64 a,.int .i64 b]) (results_cell_row rfl _ _ (w.heap.size + 1) 70 _ (0,0) _ rfl hB3 underlying70 rfl kr) rfl ⟨rfl,((((HF.setCell _ (fun h => absurd h (by simp)) _).setCell _ (fun h => absurd h (by simp)) _).setCell _ (fun h => absurd h (by simp)) _).drew)⟩
theorem xE (x : Int) (w : World) : Calls prog 158 #[.int .i64 x] w fun e w' => e = .returned (.bool false) ∧ w = w' := by
 go_enter func158,ntmps158;go_wp2_with fail;go_ret;exact ⟨by simp,rfl⟩
theorem C5 (x y : Int) (w : World) : Calls prog 113 #[.int .i64 x,.int .i64 y] w fun e w' => e = .returned (.int .i64 (if x < y then -1 else if y < x then 1 else 0)) ∧ w = w' := by
 have HX := Hd (xE x w);have HY := Hd (xE y w);go_enter func113,ntmps113;go_wp2_with fail;refine HX.mono ?_;rintro e1 w1 ⟨rfl,rfl⟩;go_wp2_with fail;refine HY.mono ?_;rintro e1 w1 ⟨rfl,rfl⟩;by_cases h1 : x < y
 · go_wp2_with fail;go_ret;exact ⟨rfl,rfl⟩
 · by_cases h2 : y < x
   · go_wp2_with fail;go_ret;exact ⟨rfl,rfl⟩
   · go_wp2_with fail;go_ret;exact ⟨rfl,rfl⟩
theorem C6 {x y : Int} (h : x = y) : (if x < y then (-1 : Int) else if y < x then 1 else 0) = 0 := by rw [if_neg jj,if_neg jj]
def fT (k : Edge) (i : Nat) : Int := if i = 0 then k.1 else if i = 1 then k.2.1 else k.2.2
theorem Ax (hi : i < 3) (h0 : ∀ j,j < i → fT a j = fT b j) (h : fT a i ≠ fT b i) : fR a b = if fT a i < fT b i then -1 else if fT b i < fT a i then 1 else 0 := by
 obtain ⟨a1,a2,a3⟩ := a;obtain ⟨b1,b2,b3⟩ := b;have e0 := h0 0;have e1 := h0 1;obtain rfl | rfl | rfl : i = 0 ∨ i = 1 ∨ i = 2 := jj
 all_goals
  simp [fT] at e0 e1 h;simp only [fR,fT];simp
  repeat' split
  all_goals first | rfl | omega
theorem xF (h0 : ∀ j,j < 3 → fT a j = fT b j) : fR a b = 0 := by
 obtain ⟨a1,a2,a3⟩ := a;obtain ⟨b1,b2,b3⟩ := b;have e0 := h0 0 de;have e1 := h0 1 de;have e2 := h0 2 de;simp [fT] at e0 e1 e2;rw [e0,e1,e2];exact kN.2 rfl
theorem ES (a b : Edge) (b1 b2 : Nat) (w : World) (h1 : ∀ i,i < 3 → w.cell? ⟨b1,i,none⟩ = some (.int .i64 (fT a i))) (h2 : ∀ i,i < 3 → w.cell? ⟨b2,i,none⟩ = some (.int .i64 (fT b i))) :
    Calls prog 68 #[.slice (some ⟨b1,0,none⟩) 3 3,.slice (some ⟨b2,0,none⟩) 3 3] w fun e w' => e = .returned (.int .i64 (fR a b)) ∧ w = w' := by
 have H1 := Hd h1;have H2 := Hd h2;clear h1 h2;go_enter func68,ntmps68;go_wp2_with fail
 go_loopw [11] (fun iv wr => ∃ i : Nat,iv = .int .i64 (i : Int) ∧ i ≤ 3 ∧ (∀ j,j < i → fT a j = fT b j) ∧ w = wr) (fun iv _ => 3 - (intOf iv).toNat)
 case atStart => exact ⟨0,rfl,by decide,(fun j h => by omega),rfl⟩
 case round =>
  obtain ⟨i,rfl,hi,hall,rfl⟩ := hrel;have HALL := Hd hall;by_cases h3 : i < 3
  · have c1 := H1.out i h3;have c2 := H2.out i h3;have hb : (i : Int) < 3 := jj;generalize hx : fT a i = x at *;generalize hy : fT b i = y at *;obtain ⟨v,hv⟩ : ∃ v,v = (if x < y then (-1 : Int) else if y < x then 1 else 0) := ⟨_,rfl⟩;have hc := C5 x y w;rw [← hv] at hc;have HC := Hd hc;have HX := Hd hx;have HY := Hd hy;have HV := Hd hv;by_cases hxy : x = y
    · have hv0 : v = 0 := by rw [hv]; exact C6 hxy
      have HXY := Hd hxy;clear hall hx hy hc hv hxy;go_wp2_with (go_at_call 113; refine HC.mono ?_; rintro e1 w1 ⟨rfl,rfl⟩);go_roundw
      case rel =>
       refine ⟨i + 1,by simp,by omega,fun j hj => ?_,by trivial⟩;rcases Nat.lt_succ_iff_lt_or_eq.1 hj with h | h
       · exact HALL.out j h
       · rw [h,HX.out,HY.out,HXY.out]
      case measure =>
       simp [intOf];omega
    · have hv0 : v ≠ 0 := by
       rw [hv];split
       · decide
       · split
         · decide
         · omega
      have HE := Hd (Ax h3 hall (by rw [hx,hy]; exact hxy));clear hall hx hy hc hv hxy;go_wp2_with (go_at_call 113; refine HC.mono ?_; rintro e1 w1 ⟨rfl,rfl⟩);go_ret;refine ⟨?_,rfl⟩;rw [HE.out,HX.out,HY.out,← HV.out];rfl
  · have h4 : i = 3 := jj;subst h4;go_wp2_with fail;go_ret;refine ⟨?_,rfl⟩;rw [xF HALL.out];rfl
theorem ue {a : World} (h : Fr S a W) (hX : a.heap.size ≤ X) (u v x : Value) : Fr S a (((W.setCell ⟨X,0,none⟩ u).setCell ⟨X,1,none⟩ v).setCell ⟨X,2,none⟩ x) :=
 ((h.setCell _ (fun hl => absurd hl (Nat.not_lt.2 hX)) u).setCell _ (fun hl => absurd hl (Nat.not_lt.2 hX)) v).setCell _ (fun hl => absurd hl (Nat.not_lt.2 hX)) x
theorem qG {a b c : Value} (h : Blk W X t #[a,b,c]) (u v x : Value) : Blk (((W.setCell ⟨X,0,none⟩ u).setCell ⟨X,1,none⟩ v).setCell ⟨X,2,none⟩ x) X t #[u,v,x] := ((h.set_ 0 u).set_ 1 v).set_ 2 x
theorem qH {Y : Nat} (h : Blk W Y t cs) (hne : ¬ Y = X) (u v x : Value) : Blk (((W.setCell ⟨X,0,none⟩ u).setCell ⟨X,1,none⟩ v).setCell ⟨X,2,none⟩ x) Y t cs := ((h.far hne u).far hne v).far hne x
theorem Ay {G : Prop} {T : World → Nat → Nat → Prop} {z : Array Value} (h1 : (∀ W X Y,Blk W X t z → Blk W Y t z → Fr (fun _ => False) w W → w.heap.size ≤ X → w.heap.size ≤ Y → ¬ Y = X → T W X Y) → G)
    (h2 : ∀ W X Y,Blk W X t z → Blk W Y t z → Fr (fun _ => False) w W → w.heap.size ≤ X → w.heap.size ≤ Y → ¬ Y = X → T W X Y) : G := h1 h2
theorem Blk.new2 (w : World) (o : Obj) (t : Nat) (z : Array Value) : Blk ((w.alloc o).alloc (.cells z t)) (w.heap.size + 1) t z := by simpa using Blk.new (w.alloc o) t z
theorem sB (o : Nat) (ho : o < 3) (a b : Edge) (w : World) (hP : Pl w) :
    Calls prog 108 #[.int .i64 o,k3 a,k3 b] w fun e w' => e = .returned (.int .i64 (eZ o a b)) ∧ Fr (fun _ => False) w w' := by
 obtain ⟨a1,a2,a3⟩ := a;obtain ⟨b1,b2,b3⟩ := b;have hf0 := Fr.a2 w (.cells #[.int .i64 a1,.int .i64 a2,.int .i64 a3] 71) (.cells #[.int .i64 b1,.int .i64 b2,.int .i64 b3] 71);have hB1 : Blk ((w.alloc (.cells #[.int .i64 a1,.int .i64 a2,.int .i64 a3] 71)).alloc (.cells #[.int .i64 b1,.int .i64 b2,.int .i64 b3] 71)) w.heap.size 71 #[.int .i64 a1,.int .i64 a2,.int .i64 a3] := (Blk.new w 71 _).alloc _;have hB2 : Blk ((w.alloc (.cells #[.int .i64 a1,.int .i64 a2,.int .i64 a3] 71)).alloc (.cells #[.int .i64 b1,.int .i64 b2,.int .i64 b3] 71)) (w.heap.size + 1) 71 #[.int .i64 b1,.int .i64 b2,.int .i64 b3] := by
  have h := Blk.new (w.alloc (.cells #[.int .i64 a1,.int .i64 a2,.int .i64 a3] 71)) 71 #[.int .i64 b1,.int .i64 b2,.int .i64 b3];simpa using h
 simp only [eh];have HP := Hd hP;have HF0 := Hd hf0;have HB1 := Hd hB1;have HB2 := Hd hB2;have hta := fun W (h : Pl W) => nM o ho (a1,a2,a3) W h;have htb := fun W (h : Pl W) => nM o ho (b1,b2,b3) W h;have hce : eZ o (a1,a2,a3) (b1,b2,b3) = fR (fh o (a1,a2,a3)) (fh o (b1,b2,b3)) := rfl;rw [hce];generalize fh o (a1,a2,a3) = ta at *;generalize fh o (b1,b2,b3) = tb at *;simp only [eh] at hta htb;have HTA := Hd hta;have HTB := Hd htb;clear hP hf0 hB1 hB2 hta htb hce;go_enter func108,ntmps108;go_wp2_with fail;obtain ⟨W2,hW2⟩ : ∃ W2,W2 = ((w.alloc (.cells #[.int .i64 a1,.int .i64 a2,.int .i64 a3] 71)).alloc (.cells #[.int .i64 b1,.int .i64 b2,.int .i64 b3] 71)) := ⟨_,rfl⟩;rw [← hW2] at HF0 HB1 HB2 ⊢;clear hW2;have HSX := Hd (show ∀ wy,Fr (fun _ => False) W2 wy → Fr (fun _ => False) W2 wy ∧ wy.cell? ⟨w.heap.size,0,none⟩ = some (.int .i64 a1) ∧ wy.cell? ⟨w.heap.size,1,none⟩ = some (.int .i64 a2) ∧ wy.cell? ⟨w.heap.size,2,none⟩ = some (.int .i64 a3) ∧ wy.cell? ⟨w.heap.size + 1,0,none⟩ = some (.int .i64 b1) ∧ wy.cell? ⟨w.heap.size + 1,1,none⟩ = some (.int .i64 b2) ∧ wy.cell? ⟨w.heap.size + 1,2,none⟩ = some (.int .i64 b3) from fun wy hf => by
  have c1 := HB1.out.fr hf id;have c2 := HB2.out.fr hf id;exact ⟨hf,c1.cell 0,c1.cell 1,c1.cell 2,c2.cell 0,c2.cell 1,c2.cell 2⟩)
 go_cut [7,8] from 7 to 14 (fun c7 c8 wx => ∃ X Y : Nat,c7 = .pointer (some ⟨X,0,none⟩) ∧ c8 = .pointer (some ⟨Y,0,none⟩) ∧ Blk wx X 70 #[.int .i64 ta.1,.int .i64 ta.2.1,.int .i64 ta.2.2] ∧ Blk wx Y 70 #[.int .i64 tb.1,.int .i64 tb.2.1,.int .i64 tb.2.2] ∧ Fr (fun _ => False) W2 wx)
 case first =>
  refine wp_region_noPanic ?_;refine wp_region_held_drew (S := (fun wy => wy.cell? ⟨w.heap.size,0,none⟩ = some (.int .i64 a1) ∧ wy.cell? ⟨w.heap.size,1,none⟩ = some (.int .i64 a2) ∧ wy.cell? ⟨w.heap.size,2,none⟩ = some (.int .i64 a3) ∧ wy.cell? ⟨w.heap.size + 1,0,none⟩ = some (.int .i64 b1) ∧ wy.cell? ⟨w.heap.size + 1,1,none⟩ = some (.int .i64 b2) ∧ wy.cell? ⟨w.heap.size + 1,2,none⟩ = some (.int .i64 b3))) kr ?_ (fun hHeld => ?_)
  · try dsimp only
    exact (HSX.out _ (Fr.refl _ W2).drew).2
  refine oT 0 ?_;refine oT 1 ?_;refine oT 3 ?_;refine oT 4 ?_;apply Ay (w := W2) (t := 70) (z := #[.int .i64 0,.int .i64 0,.int .i64 0])
  · intro LEAF
    iterate 4 ((first | refine oS [2,6,7] ?_ | refine oS [5,6,7] ?_ | refine oS [6,7] ?_ | refine oS [7] ?_); refine oC (fun K hK => ?_) ?_; go_simp; (first | (go_at_call 156; first | with_reducible refine Calls.mono (HTA.out _ ?_) ?_ | with_reducible refine Calls.mono (HTB.out _ ?_) ?_); (exact HP.out.fr (HF0.out.trans' fz) id); (rintro e v ⟨rfl,hf⟩); have q := hf.size; (try simp at q) | skip); refine oK hK ?_ fun hHeld => ?_; ((try dsimp only); exact (HSX.out _ fz).2); clear hK K)
    · generalize hW : (v.alloc (.cells #[.int .i64 0,.int .i64 0,.int .i64 0] 70)).alloc (.cells #[.int .i64 0,.int .i64 0,.int .i64 0] 70) = W8;have X7 := (Blk.new v 70 #[.int .i64 0,.int .i64 0,.int .i64 0]).alloc (.cells #[.int .i64 0,.int .i64 0,.int .i64 0] 70);have X8 := Blk.new2 v (.cells #[.int .i64 0,.int .i64 0,.int .i64 0] 70) 70 #[.int .i64 0,.int .i64 0,.int .i64 0];have F8 : Fr (fun _ => False) W2 ((v.alloc (.cells #[.int .i64 0,.int .i64 0,.int .i64 0] 70)).alloc (.cells #[.int .i64 0,.int .i64 0,.int .i64 0] 70)) := fz;have G7 : W2.heap.size ≤ v.heap.size := jj;have G8 : W2.heap.size ≤ v.heap.size + 1 := jj;have N : ¬ v.heap.size + 1 = v.heap.size := jj;rw [hW] at X7 X8 F8;generalize v.heap.size + 1 = Y at *;generalize v.heap.size = X at *;exact LEAF W8 X Y X7 X8 F8 G7 G8 N
    all_goals repeat' (first
     | exact .nil
     | refine oC (fun K hK => ?_) ?_
     | refine oS [2,6] ?_ | refine oS [2,7] ?_ | refine oS [5,6] ?_ | refine oS [5,7] ?_ | refine oS [2] ?_ | refine oS [5] ?_ | refine oS [6] ?_ | refine oS [7] ?_
     | (refine LEAF _ _ _ ?_ ?_ ?_ ?_ ?_ ?_
        iterate 2 (· repeat' (first | exact Blk.new _ _ _ | exact Blk.new2 _ _ _ _ | refine Blk.alloc ?_ _ | refine Blk.fr ?_ (by assumption) id))
        · exact fz
        all_goals first | omega | (simp; done) | (simp; omega))
     | (go_simp; (first | (go_at_call 156; first | with_reducible refine Calls.mono (HTA.out _ ?_) ?_ | with_reducible refine Calls.mono (HTB.out _ ?_) ?_); (exact HP.out.fr (HF0.out.trans' fz) id); (rintro e v ⟨rfl,hf⟩); have q := hf.size; (try simp at q) | skip); refine oK hK ?_ fun hHeld => ?_; ((try dsimp only); exact (HSX.out _ fz).2); clear hK K))
  · intro W8 X Y X7 X8 F_0 G7 G8 N;refine oR [8] ?_;refine oC (fun K hK => ?_) ?_
    · have f7 := X7.frozen 0;have f7' := X7.frozen 1;have f7'' := X7.frozen 2;have x7 := X7.cell 0;have x7' := X7.cell 1;have x7'' := X7.cell 2;have F_8 := ue F_0 G7 (.int .i64 ta.1) (.int .i64 ta.2.1) (.int .i64 ta.2.2);have Y7 := qG X7 (.int .i64 ta.1) (.int .i64 ta.2.1) (.int .i64 ta.2.2);have Y8 := qH X8 N (.int .i64 ta.1) (.int .i64 ta.2.1) (.int .i64 ta.2.2);go_simp;refine oK hK ?_ fun hHeld => ?_
      · try dsimp only
        exact (HSX.out _ F_8).2
      clear hK K;refine oR [9] ?_;refine oC (fun K hK => ?_) ?_
      · have g8 := Y8.frozen 0;have g8' := Y8.frozen 1;have g8'' := Y8.frozen 2;have y8 := Y8.cell 0;have y8' := Y8.cell 1;have y8'' := Y8.cell 2;have F_9 := ue F_8 G8 (.int .i64 tb.1) (.int .i64 tb.2.1) (.int .i64 tb.2.2);have Z8 := qG Y8 (.int .i64 tb.1) (.int .i64 tb.2.1) (.int .i64 tb.2.2);have Z7 := qH Y7 (fun h => N h.symm) (.int .i64 tb.1) (.int .i64 tb.2.1) (.int .i64 tb.2.2);go_simp;refine oK hK ?_ fun hHeld => ?_
        · try dsimp only
          exact (HSX.out _ F_9).2
        clear hK K;refine oD (NoPanic.normal ?_);go_wp2_with fail;go_meet;exact ⟨_,_,rfl,rfl,Z7,Z8,F_9⟩
      exact .nil
    exact .nil
 case rest =>
  obtain ⟨X,Y,rfl,rfl,hX,hY,hf⟩ := hcut;have HCM := Hd (fun W (h1 : Blk W X 70 #[.int .i64 ta.1,.int .i64 ta.2.1,.int .i64 ta.2.2]) (h2 : Blk W Y 70 #[.int .i64 tb.1,.int .i64 tb.2.1,.int .i64 tb.2.2]) => ES ta tb X Y W (fun i hi => by
   rw [h1.cell];obtain rfl | rfl | rfl : i = 0 ∨ i = 1 ∨ i = 2 := jj
   all_goals rfl) (fun i hi => by
   rw [h2.cell];obtain rfl | rfl | rfl : i = 0 ∨ i = 1 ∨ i = 2 := jj
   all_goals rfl))
  have HX := Hd hX;have HY := Hd hY;have HF := Hd (HF0.out.trans' hf);clear hX hY hf HTA HTB HSX HB1 HB2;go_wp2_with fail
  go_region_held3 (fun wy => Fr (fun _ => False) wc wy) (exact (Fr.refl _ _).drew) (first | (go_at_call 68; refine (HCM.out _ (HX.out.fr (S := fun _ => False) fz id) (HY.out.fr (S := fun _ => False) fz id)).mono ?_; rintro e9 w9 ⟨rfl,rfl⟩))
  go_wp2_with fail
  all_goals
   go_ret;exact ⟨rfl,HF.out.drew⟩
def bW (l : List Edge) : List Value := l.flatMap fun k => [.int .i64 k.1,.int .i64 k.2.1,.int .i64 k.2.2]
theorem nN : ∀ (l : List Edge) (i : Nat) (k : Edge) (j : Nat),l[i]? = some k → j < 3 → (bW l)[i * 3 + j]? = some (.int .i64 (fT k j))
 | [],_,_,_,h,_ => by simp at h
 | a :: l,0,k,j,h,hj => by
  simp at h;subst h;obtain rfl | rfl | rfl : j = 0 ∨ j = 1 ∨ j = 2 := jj
  all_goals rfl
 | a :: l,i + 1,k,j,h,hj => by
  have ih := nN l i k j (by simpa using h) hj;have e : (i + 1) * 3 + j = (i * 3 + j) + 3 := jj;rw [e];exact ih
theorem lP (l m : List Edge) : bW (l ++ m) = bW l ++ bW m := by simp [bW]
theorem lQ {u : Value} (h : u ∈ bW l) : u.oneCell' = true := by
 simp only [bW,List.mem_flatMap,List.mem_cons,List.not_mem_nil,or_false] at h;obtain ⟨k,_,rfl | rfl | rfl⟩ := h <;> rfl
theorem gY : ∀ (l : List Edge) (i : Nat),(bW l).take (i * 3) = bW (l.take i)
 | [],i => by simp [bW]
 | a :: l,0 => by simp [bW]
 | a :: l,i + 1 => by
  have e : (i + 1) * 3 = i * 3 + 1 + 1 + 1 := jj;rw [e];show Value.int .i64 a.1 :: .int .i64 a.2.1 :: .int .i64 a.2.2 :: (bW l).take (i * 3) = _;rw [gY l i];rfl
theorem gZ : ∀ (l : List Edge) (i : Nat),(bW l).drop (i * 3) = bW (l.drop i)
 | [],i => by simp [bW]
 | a :: l,0 => by simp [bW]
 | a :: l,i + 1 => by
  have e : (i + 1) * 3 = i * 3 + 1 + 1 + 1 := jj;rw [e];show (bW l).drop (i * 3) = _;rw [gZ l i];rfl
def gt (w : World) (B : Nat) (v : Value) (l : List Edge) : Prop := w.ownsRow B 71 3 v l.length (bW l)
theorem gt.fr (h : gt w B v l) (hf : Fr S w w') (hs : ∀ k,v.ownBlock = some k → ¬ S k) : gt w' B v l := aa h hf hs
theorem C8 (o : Nat) (ho : o < 3) (a b : Edge) (ob : Nat) (w : World) (hP : Pl w) (hc : w.cell? ⟨ob,0,none⟩ = some (.int .i64 o)) :
    Calls prog 107 #[k3 a,k3 b,.pointer (some ⟨ob,0,none⟩)] w fun e w' => e = .returned (.int .i64 (eZ o a b)) ∧ Fr (fun _ => False) w w' := by
 have hf0 := Fr.a2 w (.cells #[.int .i64 a.1,.int .i64 a.2.1,.int .i64 a.2.2] 71) (.cells #[.int .i64 b.1,.int .i64 b.2.1,.int .i64 b.2.2] 71);have HC := Hd (sB o ho a b _ (hP.fr hf0 id));have c1 := aG hf0 hc;have HF0 := Hd hf0;simp only [eh];clear hf0 hP;go_enter func107,ntmps107;go_wp2_with fail;refine HC.mono ?_;rintro e1 w1 ⟨rfl,hf1⟩;go_wp2_with fail;go_ret;exact ⟨rfl,HF0.trans' hf1⟩
theorem gt.at (h : gt w B v l) {i : Nat} {k : Edge} (hk : l[i]? = some k) :
    ∃ g c,v = .slice (some ⟨g,0,none⟩) l.length c ∧ g < w.heap.size ∧ w.cell? ⟨g,i * 3,none⟩ = some (.int .i64 k.1) ∧ w.cell? ⟨g,i * 3 + 1,none⟩ = some (.int .i64 k.2.1) ∧ w.cell? ⟨g,i * 3 + 2,none⟩ = some (.int .i64 k.2.2) := by
 have hi : i < l.length := by
  rcases Nat.lt_or_ge i l.length with h | h
  · exact h
  · rw [List.getElem?_eq_none h] at hk; cases hk
 obtain ⟨g,c,hv,hb,hg⟩ := World.ownsRow.form h jj;subst hv;have hc := fun j (hj : j < 3) => (World.ownsRow.cellAt h (i * 3 + j) jj).trans (nN l i k j hk hj);exact ⟨g,c,rfl,hg,hc 0 de,hc 1 de,hc 2 de⟩
theorem gt.len (h : gt w B v l) : ∃ a c,v = .slice a l.length c := by
 rcases h.2 with ⟨rfl,h0⟩ | ⟨g,cap,cur,rfl,_⟩
 · exact ⟨none,0,by rw [h0]⟩
 · exact ⟨_,_,rfl⟩
theorem vD (o : Nat) (ho : o < 3) (l : List Edge) (k : Edge) (ob B : Nat) (v : Value) (w : World) (hP : Pl w) (hc : w.cell? ⟨ob,0,none⟩ = some (.int .i64 o)) (hK : gt w B v l) (hS : gV o l) (hn : l.length ≤ 4096) :
    Calls prog 106 #[v,k3 k,.func (.func 107) #[] #[.pointer (some ⟨ob,0,none⟩)]] w fun e w' => e = .returned (.tuple #[.int .i64 (bP o l k),.bool (decide (k ∈ l))]) ∧ Fr (fun _ => False) w w' := by
 obtain ⟨a0,c0,rfl⟩ := hK.len;have hf0 := Fr.a1 w (.cells #[.int .i64 k.1,.int .i64 k.2.1,.int .i64 k.2.2] 71);have hx := Blk.new w 71 #[.int .i64 k.1,.int .i64 k.2.1,.int .i64 k.2.2];have HX := Hd hx;have HF0 := Hd hf0;have HK := Hd hK;have hpl := kO o l k;have hlt0 : ∀ i x,i < bP o l k → l[i]? = some x → eZ o x k < 0 := fun i x h1 h2 => jx h1 h2;have hge0 : ∀ i x,bP o l k ≤ i → l[i]? = some x → ¬ eZ o x k < 0 := fun i x h1 h2 => jy hS h1 h2;have hth : l[bP o l k]? = some k ↔ k ∈ l := sr hS;have HLT := Hd hlt0;have HGE := Hd hge0;have HTH := Hd hth;generalize hfd : decide (k ∈ l) = fnd at *;have HFD := Hd hfd;have HCA := Hd (fun W (h : Fr (fun _ => False) w W) x => C8 o ho x k ob W (hP.fr h id) (aG h hc));generalize hp : bP o l k = p at *;generalize hlen : l.length = n at *;have HLEN := Hd hlen;simp only [eh] at HCA ⊢;clear hlt0 hge0 hth hP hc hK hx hf0 hp hlen hfd;go_enter func106,ntmps106;go_wp2_with fail;generalize (w.alloc (.cells #[.int .i64 k.1,.int .i64 k.2.1,.int .i64 k.2.2] 71)) = W0 at *
 go_loopw [9,10] (fun iv jv wr => ∃ i j : Nat,iv = .int .i64 (i : Int) ∧ jv = .int .i64 (j : Int) ∧ i ≤ p ∧ p ≤ j ∧ j ≤ n ∧ Fr (fun _ => False) W0 wr) (fun iv jv _ => (intOf jv).toNat - (intOf iv).toNat)
 case atStart => exact ⟨0,n,rfl,rfl,by omega,by omega,by omega,Fr.refl _ _⟩
 case round =>
  obtain ⟨i,j,rfl,rfl,hi,hj,hj3,hfr⟩ := hrel;have HFR := Hd hfr;have hxr := HX.fr hfr id;have y0 := hxr.c0;have y1 := hxr.c1;have y2 := hxr.c2;have hfw := HF0.trans' hfr;have HFW := Hd hfw;by_cases hlt : i < j
  · have hlt' : decide (i < j) = true := by simpa using hlt
    obtain ⟨x,hx⟩ : ∃ x,l[(i + j) / 2]? = some x := ⟨_,List.getElem?_eq_getElem (by rw [HLEN.out]; omega)⟩;obtain ⟨g,c,he,hg,c0,c1,c2⟩ := (HK.fr hfw ii).at hx;simp only [Value.slice.injEq] at he;obtain ⟨rfl,hz,rfl⟩ := he;clear hz;have HSX := Hd (show ∀ wy,Fr (fun _ => False) wr wy → wy.cell? ⟨g,(i + j) / 2 * 3,none⟩ = some (.int .i64 x.1) ∧ wy.cell? ⟨g,(i + j) / 2 * 3 + 1,none⟩ = some (.int .i64 x.2.1) ∧ wy.cell? ⟨g,(i + j) / 2 * 3 + 2,none⟩ = some (.int .i64 x.2.2) ∧ wy.cell? ⟨w.heap.size,0,none⟩ = some (.int .i64 k.1) ∧ wy.cell? ⟨w.heap.size,1,none⟩ = some (.int .i64 k.2.1) ∧ wy.cell? ⟨w.heap.size,2,none⟩ = some (.int .i64 k.2.2) from fun wy hf => ⟨aG hf c0,aG hf c1,aG hf c2,aG hf y0,aG hf y1,aG hf y2⟩);have HCX := Hd (fun W (hf : Fr (fun _ => False) wr W) => HCA.out W (HFW.trans' hf) x);have htn : (((i : Int) + j) / 2).toNat = (i + j) / 2 := jj;have hb1 : (0 : Int) ≤ ((i : Int) + j) / 2 := jj;have hb2 : ((i : Int) + j) / 2 < (n : Int) := jj;by_cases hm : (i + j) / 2 < p
    · have hneg := HLT _ x hm hx;clear hfw hfr hxr hx y0 y1 y2 c0 c1 c2;go_wp2_with fail
      go_region_held3 (fun wy => wy.cell? ⟨g,(i + j) / 2 * 3,none⟩ = some (.int .i64 x.1) ∧ wy.cell? ⟨g,(i + j) / 2 * 3 + 1,none⟩ = some (.int .i64 x.2.1) ∧ wy.cell? ⟨g,(i + j) / 2 * 3 + 2,none⟩ = some (.int .i64 x.2.2) ∧ wy.cell? ⟨w.heap.size,0,none⟩ = some (.int .i64 k.1) ∧ wy.cell? ⟨w.heap.size,1,none⟩ = some (.int .i64 k.2.1) ∧ wy.cell? ⟨w.heap.size,2,none⟩ = some (.int .i64 k.2.2)) (exact HSX _ fz) (first | (go_at_call 107; refine (HCX _ fz).mono ?_; rintro e9 w9 ⟨rfl,hf9⟩))
      all_goals
       have HF9 := Hd (show Fr (fun _ => False) W0 _ from HFR.trans' (Fr.trans' (S := fun _ => False) (Fr.refl _ _).drew hf9));clear hf9;go_wp2_with fail;go_roundw

       case rel => exact ⟨(i + j) / 2 + 1,j,by rw [show (((i + j) / 2 + 1 : Nat) : Int) = ((i : Int) + j) / 2 + 1 by omega],rfl,by omega,by omega,by omega,HF9⟩
       case measure => simp [intOf]; omega
    · have hneg := HGE _ x jj hx;clear hfw hfr hxr hx y0 y1 y2 c0 c1 c2;go_wp2_with fail
      go_region_held3 (fun wy => wy.cell? ⟨g,(i + j) / 2 * 3,none⟩ = some (.int .i64 x.1) ∧ wy.cell? ⟨g,(i + j) / 2 * 3 + 1,none⟩ = some (.int .i64 x.2.1) ∧ wy.cell? ⟨g,(i + j) / 2 * 3 + 2,none⟩ = some (.int .i64 x.2.2) ∧ wy.cell? ⟨w.heap.size,0,none⟩ = some (.int .i64 k.1) ∧ wy.cell? ⟨w.heap.size,1,none⟩ = some (.int .i64 k.2.1) ∧ wy.cell? ⟨w.heap.size,2,none⟩ = some (.int .i64 k.2.2)) (exact HSX _ fz) (first | (go_at_call 107; refine (HCX _ fz).mono ?_; rintro e9 w9 ⟨rfl,hf9⟩))
      all_goals
       have HF9 := Hd (show Fr (fun _ => False) W0 _ from HFR.trans' (Fr.trans' (S := fun _ => False) (Fr.refl _ _).drew hf9));clear hf9;go_wp2_with fail;go_roundw
       case rel => exact ⟨i,(i + j) / 2,rfl,by rw [show (((i + j) / 2 : Nat) : Int) = ((i : Int) + j) / 2 by omega],by omega,by omega,by omega,HF9⟩
       case measure => simp [intOf]; omega
  · have hij : i = p := jj;have hji : j = i := jj;subst hji;subst hij;have hlt' : decide (j < j) = false := by simp
    by_cases h3 : j < n
    · have h3' : decide (j < n) = true := by simp [h3]
      obtain ⟨x,hx⟩ : ∃ x,l[j]? = some x := ⟨_,List.getElem?_eq_getElem (by rw [HLEN.out]; omega)⟩;obtain ⟨g,c,he,hg,c0,c1,c2⟩ := (HK.fr hfw ii).at hx;simp only [Value.slice.injEq] at he;obtain ⟨rfl,hz,rfl⟩ := he;clear hz;have HSX := Hd (show ∀ wy,Fr (fun _ => False) wr wy → wy.cell? ⟨g,j * 3,none⟩ = some (.int .i64 x.1) ∧ wy.cell? ⟨g,j * 3 + 1,none⟩ = some (.int .i64 x.2.1) ∧ wy.cell? ⟨g,j * 3 + 2,none⟩ = some (.int .i64 x.2.2) ∧ wy.cell? ⟨w.heap.size,0,none⟩ = some (.int .i64 k.1) ∧ wy.cell? ⟨w.heap.size,1,none⟩ = some (.int .i64 k.2.1) ∧ wy.cell? ⟨w.heap.size,2,none⟩ = some (.int .i64 k.2.2) from fun wy hf => ⟨aG hf c0,aG hf c1,aG hf c2,aG hf y0,aG hf y1,aG hf y2⟩);have HCX := Hd (fun W (hf : Fr (fun _ => False) wr W) => HCA.out W (HFW.trans' hf) x);have hxk : fnd = decide (eZ o x k = 0) := by
       rw [← HFD.out];have := HTH.out;rw [hx] at this;rw [decide_eq_decide,← this,o7];simp
      clear hfw hfr hxr hx y0 y1 y2 c0 c1 c2;subst hxk;have hj4 : (j : Int) < (n : Int) := jj;go_wp2_with fail
      go_region_held3 (fun wy => wy.cell? ⟨g,j * 3,none⟩ = some (.int .i64 x.1) ∧ wy.cell? ⟨g,j * 3 + 1,none⟩ = some (.int .i64 x.2.1) ∧ wy.cell? ⟨g,j * 3 + 2,none⟩ = some (.int .i64 x.2.2) ∧ wy.cell? ⟨w.heap.size,0,none⟩ = some (.int .i64 k.1) ∧ wy.cell? ⟨w.heap.size,1,none⟩ = some (.int .i64 k.2.1) ∧ wy.cell? ⟨w.heap.size,2,none⟩ = some (.int .i64 k.2.2)) (exact HSX _ fz) (first | (go_at_call 107; refine (HCX _ fz).mono ?_; rintro e9 w9 ⟨rfl,hf9⟩))
      all_goals
       have HF9 := Hd (show Fr (fun _ => False) w _ from HFW.trans' (Fr.trans' (S := fun _ => False) (Fr.refl _ _).drew hf9));clear hf9;go_wp2_with fail;go_ret2;refine ⟨?_,HF9⟩
       first | rfl | simp
    · have h3' : decide (j < n) = false := by simp; omega
      have hxk : fnd = false := by
       rw [← HFD.out];have := HTH.out;rw [List.getElem?_eq_none (by rw [HLEN.out]; omega)] at this;simp at this;simp [this]
      clear hfw hfr hxr y0 y1 y2;subst hxk;go_wp2_with fail
      go_quiet (fail);go_wp2_with fail;go_ret2;exact ⟨rfl,HFW.drewN _⟩
structure br (w : World) (sb B : Nat) (r : Nat → Value) (ls : Nat → List Edge) (room : Int) : Prop where
 blk : Blk w sb 118 #[r 0,r 1,r 2,.int .i64 room]
 row : ∀ o,o < 3 → gt w B (r o) (ls o)
 srt : ∀ o,o < 3 → gV o (ls o)
 few : ∀ o,o < 3 → (ls o).length ≤ 4096
 far : ∀ o p k,o < 3 → p < 3 → o ≠ p → (r o).ownBlock = some k → (r p).ownBlock ≠ some k
theorem br.fr (h : br w sb B r ls room) (hf : Fr (fun _ => False) w w') : br w' sb B r ls room :=
 ⟨h.blk.fr hf id,fun o ho => (h.row o ho).fr hf ii,h.srt,h.few,h.far⟩
theorem br.cell (h : br w sb B r ls room) {o : Nat} (ho : o < 3) : w.cell? ⟨sb,o,none⟩ = some (r o) := by
 rw [h.blk.cell];obtain rfl | rfl | rfl : o = 0 ∨ o = 1 ∨ o = 2 := jj
 all_goals rfl
theorem pq (o : Nat) (ho : o < 3) (k : Edge) (sb B : Nat) (r : Nat → Value) (ls : Nat → List Edge) (room : Int) (w : World) (hP : Pl w) (hS : br w sb B r ls room) :
    Calls prog 60 #[.pointer (some ⟨sb,0,none⟩),.int .i64 o,k3 k] w fun e w' => e = .returned (.tuple #[.int .i64 (bP o (ls o) k),.bool (decide (k ∈ ls o))]) ∧ Fr (fun _ => False) w w' := by
 have hf0 := Fr.a2 w (.cells #[.int .i64 o] 3) (.cells #[.int .i64 k.1,.int .i64 k.2.1,.int .i64 k.2.2] 71);have hx : Blk ((w.alloc (.cells #[.int .i64 o] 3)).alloc (.cells #[.int .i64 k.1,.int .i64 k.2.1,.int .i64 k.2.2] 71)) w.heap.size 3 #[.int .i64 o] := (Blk.new w 3 _).alloc _;have hy : Blk ((w.alloc (.cells #[.int .i64 o] 3)).alloc (.cells #[.int .i64 k.1,.int .i64 k.2.1,.int .i64 k.2.2] 71)) (w.heap.size + 1) 71 #[.int .i64 k.1,.int .i64 k.2.1,.int .i64 k.2.2] := by
  have h := Blk.new (w.alloc (.cells #[.int .i64 o] 3)) 71 #[.int .i64 k.1,.int .i64 k.2.1,.int .i64 k.2.2];simpa using h
 obtain ⟨W1,hW1⟩ : ∃ W1,W1 = (w.alloc (.cells #[.int .i64 o] 3)).alloc (.cells #[.int .i64 k.1,.int .i64 k.2.1,.int .i64 k.2.2] 71) := ⟨_,rfl⟩;rw [← hW1] at hf0 hx hy;have hS1 := hS.fr hf0;have hP1 := hP.fr hf0 id;have HSX := Hd (show ∀ wy,Fr (fun _ => False) W1 wy → wy.cell? ⟨sb,o,none⟩ = some (r o) ∧ wy.cell? ⟨w.heap.size,0,none⟩ = some (.int .i64 o) ∧ wy.cell? ⟨w.heap.size + 1,0,none⟩ = some (.int .i64 k.1) ∧ wy.cell? ⟨w.heap.size + 1,1,none⟩ = some (.int .i64 k.2.1) ∧ wy.cell? ⟨w.heap.size + 1,2,none⟩ = some (.int .i64 k.2.2) from fun wy hf => ⟨(hS1.fr hf).cell ho,(hx.fr hf id).cell 0,(hy.fr hf id).cell 0,(hy.fr hf id).cell 1,(hy.fr hf id).cell 2⟩);have HC := Hd (fun W (hf : Fr (fun _ => False) W1 W) => vD o ho (ls o) k w.heap.size B (r o) W (hP1.fr hf id) (aG hf (hx.cell 0)) ((hS1.fr hf).row o ho) (hS1.srt o ho) (hS1.few o ho));have ho3 : (o : Int) < 3 := jj;have HF0 := Hd hf0;simp only [eh] at HC ⊢;generalize bP o (ls o) k = p at *;generalize decide (k ∈ ls o) = fnd at *;clear hx hy hS hP hS1 hP1 hf0;go_enter func60,ntmps60;go_wp2_with fail;rw [← hW1];clear hW1
 go_region_held3 (fun wy => wy.cell? ⟨sb,o,none⟩ = some (r o) ∧ wy.cell? ⟨w.heap.size,0,none⟩ = some (.int .i64 o) ∧ wy.cell? ⟨w.heap.size + 1,0,none⟩ = some (.int .i64 k.1) ∧ wy.cell? ⟨w.heap.size + 1,1,none⟩ = some (.int .i64 k.2.1) ∧ wy.cell? ⟨w.heap.size + 1,2,none⟩ = some (.int .i64 k.2.2)) (exact HSX _ fz) (first | (go_at_call 106; refine (HC _ fz).mono ?_; rintro e9 w9 ⟨rfl,hf9⟩))
 all_goals
  have HF9 := Hd (show Fr (fun _ => False) w _ from HF0.trans' (Fr.trans' (S := fun _ => False) (Fr.refl _ _).drew hf9));clear hf9;go_wp2_with fail;go_ret2;exact ⟨rfl,HF9⟩
theorem Cr (k : Edge) (sb B : Nat) (r : Nat → Value) (ls : Nat → List Edge) (room : Int) (w : World) (hP : Pl w) (hS : br w sb B r ls room) :
    Calls prog 58 #[.pointer (some ⟨sb,0,none⟩),k3 k] w fun e w' => e = .returned (.bool (decide (k ∈ ls 0))) ∧ Fr (fun _ => False) w w' := by
 have hf0 := Fr.a1 w (.cells #[.int .i64 k.1,.int .i64 k.2.1,.int .i64 k.2.2] 71);have HC := Hd (pq 0 de k sb B r ls room _ (hP.fr hf0 id) (hS.fr hf0));have HF0 := Hd hf0;simp only [eh] at HC ⊢;generalize bP 0 (ls 0) k = p at *;generalize decide (k ∈ ls 0) = fnd at *;clear hS hP hf0;go_enter func58,ntmps58;go_wp2_with fail;refine HC.mono ?_;rintro e1 w1 ⟨rfl,hf1⟩;go_wp2_with fail;go_ret;exact ⟨rfl,HF0.trans' hf1⟩
theorem ET (sb B : Nat) (r : Nat → Value) (ls : Nat → List Edge) (room : Int) (w : World) (hS : br w sb B r ls room) :
    Calls prog 59 #[.pointer (some ⟨sb,0,none⟩)] w fun e w' => e = .returned (.int .i64 (ls 0).length) ∧ w = w' := by
 have c0 := hS.cell (o := 0) de;obtain ⟨a,c,he⟩ := (hS.row 0 de).len;rw [he] at c0;clear hS he;go_enter func59,ntmps59;go_wp2_with fail;go_ret;exact ⟨rfl,rfl⟩
def SK (sb : Nat) (r : Nat → Value) (j : Nat) : Prop := j = sb ∨ ∃ o,o < 3 ∧ (r o).ownBlock = some j
def Cs (sb B : Nat) (r : Nat → Value) (ls : Nat → List Edge) (room : Int) (k : Edge) (w w' : World) : Prop :=
 ∃ r',br w' sb B r' (fun o => gW o (ls o) k) room ∧ Fr (SK sb r) w w' ∧ ∀ j,SK sb r' j → SK sb r j ∨ w.heap.size ≤ j
theorem Az (k : Edge) : aY 3 #[Value.int .i64 k.1,.int .i64 k.2.1,.int .i64 k.2.2] := ⟨rfl,by simp [Value.oneCell']⟩
def lsI (ls : Nat → List Edge) (k : Edge) (i : Nat) (o : Nat) : List Edge := if o < i then gW o (ls o) k else ls o
theorem gu (h : gt w B v l) {j : Nat} (hj : v.ownBlock = some j) : j < w.heap.size := cU h hj
theorem br.step {k : Edge} (h : br w sb B r (lsI ls k i) room) (hi : i < 3) (hk : k ∉ ls i) (hfew : (ls i).length < 4096) (hf : Fr (fun j => (r i).ownBlock = some j) w W)
    (hrow : gt W B v (gW i (ls i) k)) (hown : ∀ j,v.ownBlock = some j → (r i).ownBlock = some j ∨ w.heap.size ≤ j) :
    br (W.setCell ⟨sb,i,none⟩ v) sb B (fun o => if o = i then v else r o) (lsI ls k (i + 1)) room ∧ Fr (fun j => j = sb ∨ (r i).ownBlock = some j) w (W.setCell ⟨sb,i,none⟩ v) := by
 have hl : lsI ls k i i = ls i := by simp [lsI]
 have hb := h.blk.fr hf (fun e => ac (h.row i hi) h.blk de e);have hf2 : Fr (fun j => j = sb) W (W.setCell ⟨sb,i,none⟩ v) := (Fr.refl (fun j => j = sb) W).setCell ⟨sb,i,none⟩ (fun _ => rfl) v;refine ⟨⟨?_,fun o ho => ?_,fun o ho => ?_,fun o ho => ?_,fun o p j ho hp hop hj => ?_⟩,((hf.mono (fun _ _ e => .inr e)).trans hf2 (fun j _ e => .inl e))⟩
 · have := hb.set_ i v;obtain rfl | rfl | rfl : i = 0 ∨ i = 1 ∨ i = 2 := jj
   all_goals exact this
 · show gt _ B (if o = i then v else r o) (lsI ls k (i + 1) o);by_cases e : o = i
   · subst e;rw [if_pos rfl,show lsI ls k (o + 1) o = gW o (ls o) k by simp [lsI]];exact hrow.fr hf2 (fun j hj e => ac hrow hb de (by rw [hj,e]))
   · rw [if_neg e,show lsI ls k (i + 1) o = lsI ls k i o by simp only [lsI]; by_cases h1 : o < i <;> simp [h1] <;> omega];have h1 := (h.row o ho).fr hf (fun j hj e2 => h.far o i j ho hi e hj e2);exact h1.fr hf2 (fun j hj e2 => ac h1 hb de (by rw [hj,e2]))
 · show gV o (lsI ls k (i + 1) o);by_cases e : o = i
   · subst e;rw [show lsI ls k (o + 1) o = gW o (ls o) k by simp [lsI]];have := h.srt o ho;rw [hl] at this;exact vy this hk
   · rw [show lsI ls k (i + 1) o = lsI ls k i o by simp only [lsI]; by_cases h1 : o < i <;> simp [h1] <;> omega];exact h.srt o ho
 · show (lsI ls k (i + 1) o).length ≤ 4096;by_cases e : o = i
   · subst e;rw [show lsI ls k (o + 1) o = gW o (ls o) k by simp [lsI],jz];omega
   · rw [show lsI ls k (i + 1) o = lsI ls k i o by simp only [lsI]; by_cases h1 : o < i <;> simp [h1] <;> omega];exact h.few o ho
 · try dsimp only at hj ⊢
   by_cases e : o = i
   · subst e;rw [if_pos rfl] at hj;rw [if_neg (fun e => hop e.symm)];intro h2;rcases hown j hj with h3 | h3
     · exact h.far o p j ho hp hop h3 h2
     · have := gu (h.row p hp) h2;omega
   · rw [if_neg e] at hj;by_cases e2 : p = i
     · subst e2;rw [if_pos rfl];intro h2;rcases hown j h2 with h3 | h3
       · exact h.far o p j ho hp hop hj h3
       · have := gu (h.row o ho) hj;omega
     · rw [if_neg e2];exact h.far o p j ho hp hop hj
theorem qI (k : Edge) (hk0 : 0 ≤ k.1 ∧ 0 ≤ k.2.1 ∧ 0 ≤ k.2.2) (sb B : Nat) (r : Nat → Value) (ls : Nat → List Edge) (room : Int) (w : World) (hP : Pl w) (hS : br w sb B r ls room) (hin : k ∈ ls 0) :
    Calls prog 20 #[.pointer (some ⟨sb,0,none⟩),k3 k] w fun e w' => e = .returned (.int .i64 5) ∧ Fr (fun _ => False) w w' := by
 have hf0 := Fr.a1 w (.cells #[.int .i64 k.1,.int .i64 k.2.1,.int .i64 k.2.2] 71);have hc := Cr k sb B r ls room _ (hP.fr hf0 id) (hS.fr hf0);rw [decide_eq_true hin] at hc;have HC := Hd hc;have HF0 := Hd hf0;obtain ⟨h1,h2,h3⟩ := hk0;have h1' : decide (k.1 < 0) = false := by simp; omega
 have h2' : decide (k.2.1 < 0) = false := by simp; omega
 have h3' : decide (k.2.2 < 0) = false := by simp; omega
 simp only [eh] at HC ⊢;clear hS hP hf0 hc hin;go_enter func20,ntmps20;go_wp2_with fail;refine HC.mono ?_;rintro e1 w1 ⟨rfl,hf1⟩;go_wp2_with fail;go_ret;exact ⟨rfl,HF0.trans' hf1⟩
theorem vE (k : Edge) (hk0 : 0 ≤ k.1 ∧ 0 ≤ k.2.1 ∧ 0 ≤ k.2.2) (sb B : Nat) (r : Nat → Value) (ls : Nat → List Edge) (room : Int) (w : World) (hP : Pl w) (hsb : 1 < sb) (hS : br w sb B r ls room) (hB : 1 < B ∧ B ≤ w.heap.size) (hin : ∀ o,o < 3 → k ∉ ls o) (hroom : ((ls 0).length : Int) < room) (hfew : ∀ o,o < 3 → (ls o).length < 4096) :
    Calls prog 20 #[.pointer (some ⟨sb,0,none⟩),k3 k] w fun e w' => e = .returned (.int .i64 0) ∧ Cs sb B r ls room k w w' := by
 have hf0 := Fr.a1 w (.cells #[.int .i64 k.1,.int .i64 k.2.1,.int .i64 k.2.2] 71);have hx := Blk.new w 71 #[.int .i64 k.1,.int .i64 k.2.1,.int .i64 k.2.2];have hc := Cr k sb B r ls room _ (hP.fr hf0 id) (hS.fr hf0);rw [decide_eq_false (hin 0 de)] at hc;have HC := Hd hc;have HF0 := Hd hf0;have HX := Hd hx;have HS := Hd hS;have HP := Hd hP;have HIN := Hd hin;have HFEW := Hd hfew;have HB := Hd hB;have HLN := Hd (fun W (h : Fr (fun _ => False) w W) => ET sb B r ls room W (hS.fr h));have hrm : (decide (room ≤ ((ls 0).length : Int))) = false := by simp; omega
 obtain ⟨h1,h2,h3⟩ := hk0;have h1' : decide (k.1 < 0) = false := by simp; omega
 have h2' : decide (k.2.1 < 0) = false := by simp; omega
 have h3' : decide (k.2.2 < 0) = false := by simp; omega
 have HSX := Hd (show ∀ wy,Fr (fun _ => False) w wy → wy.cell? ⟨sb,3,none⟩ = some (.int .i64 room) from fun wy hf => (hS.fr hf).blk.cell 3);generalize (ls 0).length = n0 at HLN hroom hrm;simp only [eh] at HC ⊢;have hsl := hS.blk.lt;clear hS hP hf0 hc hin hfew hB hx;go_enter func20,ntmps20;go_wp2_with fail;refine HC.mono ?_;rintro e1 w1 ⟨rfl,hf1⟩;have hfw := HF0.trans' hf1;have hx1 := HX.fr hf1 id;have HX1 := Hd hx1;have HFW := Hd hfw;clear hf1 hx1;go_wp2_with fail
 go_region_held3 (fun wy => Fr (fun _ => False) w wy ∧ wy.cell? ⟨sb,3,none⟩ = some (.int .i64 room)) (exact ⟨hfw.drew,HSX _ hfw.drew⟩) (first | (go_at_call 59; refine (HLN _ fz).mono ?_; rintro e9 w9 ⟨rfl,rfl⟩))
 all_goals
  have hf1' := HFW.drew;have hx1' := HX1.drew;generalize w1.drew = W1 at *;have HF1 := Hd hf1';have hz1 : w.heap.size < W1.heap.size := hx1'.lt;have hS1 := HS.fr hf1';have HS1 := Hd hS1;have HX1 := Hd hx1';clear hf1' hx1' hS1 hfw HFW HLN HSX HC HF0 HX;go_wp2_with fail
  go_loopw [34] (fun iv wr => ∃ i : Nat,iv = .int .i64 (i : Int) ∧ i ≤ 3 ∧ ∃ r',br wr sb B r' (lsI ls k i) room ∧ (∀ j,SK sb r' j → SK sb r j ∨ W1.heap.size ≤ j) ∧ Fr (SK sb r) W1 wr) (fun iv _ => 3 - (intOf iv).toNat)
  case atStart => exact ⟨0,rfl,by decide,r,by rw [show lsI ls k 0 = ls from by funext o; simp [lsI]]; exact HS1,fun j h => .inl h,Fr.refl _ _⟩
  case round =>
   obtain ⟨i,rfl,hi3,r',hSr,hsk,hfr⟩ := hrel;by_cases hi : i < 3
   · have hi' : (i : Int) < 3 := jj;have hl : lsI ls k i i = ls i := by simp [lsI]
     have hxr := HX1.fr hfr (fun e => by
      rcases e with e | ⟨o,ho,e⟩
      · have := HS.blk.lt; omega
      · have := gu (HS.row o ho) e; omega)
     have hPr := (HP.fr HF1.out id).fr hfr (fun e => by
      rcases e with e | ⟨o,ho,e⟩
      · omega
      · have := bs (HS.row o ho) e;have := HB.1;omega)
     have hfd := pq i hi k sb B r' (lsI ls k i) room wr hPr hSr;rw [hl] at hfd;have HFD := Hd hfd;have x0 := hxr.c0;have x1 := hxr.c1;have x2 := hxr.c2;have hple := kO i (ls i) k;have hins : gW i (ls i) k = (ls i).take (bP i (ls i) k) ++ k :: (ls i).drop (bP i (ls i) k) := rfl;generalize bP i (ls i) k = p at *;simp only [eh] at HFD;have HSR := Hd hSr;have HSK := Hd hsk;have HFR := Hd hfr;have HXR := Hd hxr;have HINS := Hd hins;have HL := Hd hl;clear hSr hsk hfr hxr hPr hfd hl hins;go_wp2_with fail;refine HFD.mono ?_;rintro e2 w2 ⟨rfl,hf2⟩;have hS2 := HSR.fr hf2;have hx2 := HXR.fr hf2 id;have HS2 := Hd hS2;have HX2 := Hd hx2;have HF2 := Hd hf2;clear hf2 hS2 hx2 x0 x1 x2;go_wp2_with fail;have hne : (r' i).ownBlock ≠ some w.heap.size := fun e => by
      rcases HSK _ (.inr ⟨i,hi,e⟩) with h | h
      · rcases h with h | ⟨o,ho,h⟩
        · have := HS.blk.lt;omega
        · have := gu (HS.row o ho) h;omega
      · omega
     have HSX := Hd (show ∀ wy,Fr (fun j => (r' i).ownBlock = some j ∨ j = sb) w2 wy → wy.cell? ⟨w.heap.size,0,none⟩ = some (.int .i64 k.1) ∧ wy.cell? ⟨w.heap.size,1,none⟩ = some (.int .i64 k.2.1) ∧ wy.cell? ⟨w.heap.size,2,none⟩ = some (.int .i64 k.2.2) from fun wy hf => by
      have h := HX2.fr hf (fun e => by
       rcases e with e | e
       · exact hne e
       · have := HS.blk.lt;omega)
      exact ⟨h.cell 0,h.cell 1,h.cell 2⟩)
     have hri := HS2.row i hi;rw [HL.out] at hri;have HRI := Hd hri;have HCN := Hd (Az k);have HBW := Hd (show B ≤ w2.heap.size from Nat.le_trans HB.2 (Nat.le_trans jj (Nat.le_trans HFR.size HF2.size)));have HREL := Hd (show ∀ (W : World) (v : Value),(br W sb B (fun o => if o = i then v else r' o) (lsI ls k (i + 1)) room ∧ Fr (fun j => j = sb ∨ (r' i).ownBlock = some j) w2 W) → (∀ j,v.ownBlock = some j → (r' i).ownBlock = some j ∨ w2.heap.size ≤ j) → ∃ i2 : Nat,Value.int .i64 ((i : Int) + 1) = .int .i64 (i2 : Int) ∧ i2 ≤ 3 ∧ ∃ r2,br W sb B r2 (lsI ls k i2) room ∧ (∀ j,SK sb r2 j → SK sb r j ∨ W1.heap.size ≤ j) ∧ Fr (SK sb r) W1 W from fun W v hs hb => by
      have hsz : W1.heap.size ≤ w2.heap.size := Nat.le_trans HFR.size HF2.size;refine ⟨i + 1,by simp,by omega,_,hs.1,fun j hj => ?_,?_⟩
      · rcases hj with rfl | ⟨o,ho,hj⟩
        · exact .inl (.inl rfl)
        · by_cases e : o = i
          · have hj : (if o = i then v else r' o).ownBlock = some j := hj;rw [if_pos e] at hj;rcases hb j hj with h | h
            · exact HSK.out j (.inr ⟨i,hi,h⟩)
            · exact .inr jj
          · have hj : (if o = i then v else r' o).ownBlock = some j := hj;rw [if_neg e] at hj;exact HSK.out j (.inr ⟨o,ho,hj⟩)
      · refine (HFR.trans' (HF2.mono uu)).trans hs.2 (fun j hj e => ?_);have : SK sb r j ∨ W1.heap.size ≤ j := e.elim (fun e => .inl (.inl e)) (fun e => HSK.out j (.inr ⟨i,hi,e⟩));exact this.elim id (fun h => by omega))
     clear hne hri;refine wp_region_noPanic ?_;refine wp_region_held_drew (S := (fun wy => wy.cell? ⟨w.heap.size,0,none⟩ = some (.int .i64 k.1) ∧ wy.cell? ⟨w.heap.size,1,none⟩ = some (.int .i64 k.2.1) ∧ wy.cell? ⟨w.heap.size,2,none⟩ = some (.int .i64 k.2.2))) kr ?_ (fun hHeld => ?_)
     · try dsimp only
       exact HSX _ ((Fr.refl (fun _ => False) w2).drew.mono uu)
     refine oT 0 ?_;refine oT 1 ?_;refine oT 2 ?_;refine oT 3 ?_;refine oT 4 ?_;refine oT 5 ?_;refine oT 6 ?_;refine oT 8 ?_;refine oT 9 ?_;refine oT 12 ?_;refine oT 13 ?_;refine oR [7,10] ?_;refine oC (fun K hK => ?_) ?_
     · have c7 := (HS2.fr (Fr.refl (fun _ => False) w2).drew).cell hi;have c7' := (HS2.fr ((Fr.refl (fun _ => False) w2).alloc (.cells #[.int .i64 k.1,.int .i64 k.2.1,.int .i64 k.2.2] 71))).cell hi;have c7'' := HS2.cell hi;go_simp;refine oK hK ?_ fun hHeld => ?_
       · try dsimp only
         exact HSX _ ((Fr.refl (fun _ => False) w2).drew.mono uu)
       clear hK K;refine oR [10] ?_;refine oC (fun K hK => ?_) ?_
       · go_simp;refine oK hK ?_ fun hHeld => ?_
         · try dsimp only
           exact HSX _ (((Fr.refl (fun _ => False) w2).drew.alloc (.cells #[.int .i64 k.1,.int .i64 k.2.1,.int .i64 k.2.2] 71)).mono uu)
         clear hK K;refine oR [11] ?_;refine oC (fun K hK => ?_) ?_
         · go_simp;go_at_call 61;have F0 : Fr (fun _ => False) w2 _ := ((Fr.refl (fun _ => False) w2).drew.alloc (.cells #[.int .i64 k.1,.int .i64 k.2.1,.int .i64 k.2.2] 71));have hB2 := Blk.new w2.drew 71 #[.int .i64 k.1,.int .i64 k.2.1,.int .i64 k.2.2];refine (lN B (r' i) (ls i).length p w2.heap.size (bW (ls i)) #[.int .i64 k.1,.int .i64 k.2.1,.int .i64 k.2.2] _ (gt.fr HRI.out F0 ii) hple hB2 HCN (fun h => Nat.lt_irrefl _ (gu HRI.out h)) (fun u hu => lQ hu) (by have := HFEW.out i hi; omega) (by have := HBW.out; have := F0.size; omega)).mono ?_;rintro e9 w9 ⟨v9,rfl,hown9,hf9,hb9⟩;have F9 : Fr (fun j => (r' i).ownBlock = some j) w2 w9 := (F0.mono uu).trans' hf9;have hk9 : gt w9 B v9 (gW i (ls i) k) := by
               unfold gt;rw [jz,HINS.out,lP];rw [gY,gZ] at hown9;rw [List.append_assoc] at hown9;exact hown9
           obtain ⟨a9,c9,he9⟩ := hk9.len;subst he9;have HST := Hd (br.step HS2.out hi (HIN.out i hi) (HFEW.out i hi) F9 hk9 (fun j hj => (hb9 j hj).imp id (fun h => Nat.le_trans F0.size h)));have hbl := HS2.blk.fr F9 (fun e => ac HRI.out HS2.blk de e);have hb9' := fun j hj => (hb9 j hj).imp id (fun h => Nat.le_trans F0.size h);have HB9 := Hd hb9';clear hown9 hf9 hk9 hb9 hb9' hB2 F0;refine oK hK ?_ fun hHeld => ?_
           · try dsimp only
             exact HSX _ (F9.mono (fun _ _ h => .inl h))
           clear hK K;refine oT 14 ?_;refine oR [15] ?_;refine oC (fun K hK => ?_) ?_
           · have c15 : w9.cell? ⟨sb,i,none⟩ = some (r' i) := by
                 rw [hbl.cell];obtain rfl | rfl | rfl : i = 0 ∨ i = 1 ∨ i = 2 := jj
                 all_goals rfl
             have f15 := hbl.frozen i;go_simp;refine oK hK ?_ fun hHeld => ?_
             · try dsimp only
               exact HSX _ ((F9.mono (fun _ _ h => .inl h)).setCell ⟨sb,i,none⟩ (fun _ => .inr rfl) _)
             clear hK K;refine oD (NoPanic.normal ?_);clear F9 hbl c15 f15;go_wp2_with fail;go_roundw
             case rel => exact HREL _ _ HST.out HB9.out
             case measure => simp [intOf]; omega
           exact .nil
         exact .nil
       exact .nil
     refine oC (fun K hK => ?_) ?_
     · go_simp;refine oK hK ?_ fun hHeld => ?_
       · try dsimp only
         exact HSX _ (((Fr.refl (fun _ => False) w2).drew.alloc (.cells #[.int .i64 k.1,.int .i64 k.2.1,.int .i64 k.2.2] 71)).mono uu)
       clear hK K;refine oR [7] ?_;refine oC (fun K hK => ?_) ?_
       · have c7 := (HS2.fr ((Fr.refl (fun _ => False) w2).drew.alloc (.cells #[.int .i64 k.1,.int .i64 k.2.1,.int .i64 k.2.2] 71))).cell hi;have c7' := (HS2.fr ((Fr.refl (fun _ => False) w2).alloc (.cells #[.int .i64 k.1,.int .i64 k.2.1,.int .i64 k.2.2] 71))).cell hi;have c7'' := HS2.cell hi;go_simp;refine oK hK ?_ fun hHeld => ?_
         · try dsimp only
           exact HSX _ (((Fr.refl (fun _ => False) w2).drew.alloc (.cells #[.int .i64 k.1,.int .i64 k.2.1,.int .i64 k.2.2] 71)).mono uu)
         clear hK K;refine oR [11] ?_;refine oC (fun K hK => ?_) ?_
         · go_simp;go_at_call 61;have F0 : Fr (fun _ => False) w2 _ := ((Fr.refl (fun _ => False) w2).drew.alloc (.cells #[.int .i64 k.1,.int .i64 k.2.1,.int .i64 k.2.2] 71));have hB2 := Blk.new w2.drew 71 #[.int .i64 k.1,.int .i64 k.2.1,.int .i64 k.2.2];refine (lN B (r' i) (ls i).length p w2.heap.size (bW (ls i)) #[.int .i64 k.1,.int .i64 k.2.1,.int .i64 k.2.2] _ (gt.fr HRI.out F0 ii) hple hB2 HCN (fun h => Nat.lt_irrefl _ (gu HRI.out h)) (fun u hu => lQ hu) (by have := HFEW.out i hi; omega) (by have := HBW.out; have := F0.size; omega)).mono ?_;rintro e9 w9 ⟨v9,rfl,hown9,hf9,hb9⟩;have F9 : Fr (fun j => (r' i).ownBlock = some j) w2 w9 := (F0.mono uu).trans' hf9;have hk9 : gt w9 B v9 (gW i (ls i) k) := by
               unfold gt;rw [jz,HINS.out,lP];rw [gY,gZ] at hown9;rw [List.append_assoc] at hown9;exact hown9
           obtain ⟨a9,c9,he9⟩ := hk9.len;subst he9;have HST := Hd (br.step HS2.out hi (HIN.out i hi) (HFEW.out i hi) F9 hk9 (fun j hj => (hb9 j hj).imp id (fun h => Nat.le_trans F0.size h)));have hbl := HS2.blk.fr F9 (fun e => ac HRI.out HS2.blk de e);have hb9' := fun j hj => (hb9 j hj).imp id (fun h => Nat.le_trans F0.size h);have HB9 := Hd hb9';clear hown9 hf9 hk9 hb9 hb9' hB2 F0;refine oK hK ?_ fun hHeld => ?_
           · try dsimp only
             exact HSX _ (F9.mono (fun _ _ h => .inl h))
           clear hK K;refine oT 14 ?_;refine oR [15] ?_;refine oC (fun K hK => ?_) ?_
           · have c15 : w9.cell? ⟨sb,i,none⟩ = some (r' i) := by
                 rw [hbl.cell];obtain rfl | rfl | rfl : i = 0 ∨ i = 1 ∨ i = 2 := jj
                 all_goals rfl
             have f15 := hbl.frozen i;go_simp;refine oK hK ?_ fun hHeld => ?_
             · try dsimp only
               exact HSX _ ((F9.mono (fun _ _ h => .inl h)).setCell ⟨sb,i,none⟩ (fun _ => .inr rfl) _)
             clear hK K;refine oD (NoPanic.normal ?_);clear F9 hbl c15 f15;go_wp2_with fail;go_roundw
             case rel => exact HREL _ _ HST.out HB9.out
             case measure => simp [intOf]; omega
           exact .nil
         exact .nil
       exact .nil
     exact .nil
   · have : i = 3 := jj;subst this;go_wp2_with fail;go_ret;refine ⟨rfl,r',?_,?_,?_⟩
     · have e : ∀ o,o < 3 → lsI ls k 3 o = gW o (ls o) k := fun o ho => by simp [lsI,ho]
       exact ⟨hSr.blk,fun o ho => by have := hSr.row o ho; rw [e o ho] at this; exact this,fun o ho => by have := hSr.srt o ho; rw [e o ho] at this; exact this,fun o ho => by have := hSr.few o ho; rw [e o ho] at this; exact this,hSr.far⟩
     · exact (HF1.mono uu).trans' hfr
     · exact fun j h => (hsk j h).imp id (fun h => by omega)
def bh (n : Int) : Nat := if n < 0 then 0 else 1
def lR (n : Int) : Value := .agg #[.int .i64 (-1),.int .i64 n,.int .i64 (-1)]
theorem uf (a b c : Int) (w : World) : (Instr.index 189 (.agg #[.int .i64 a,.int .i64 b,.int .i64 c]) (.int .i64 0)).run prog w = .ok (.int .i64 a) w ∧ (Instr.index 189 (.agg #[.int .i64 a,.int .i64 b,.int .i64 c]) (.int .i64 1)).run prog w = .ok (.int .i64 b) w ∧ (Instr.index 189 (.agg #[.int .i64 a,.int .i64 b,.int .i64 c]) (.int .i64 2)).run prog w = .ok (.int .i64 c) w := ⟨by kernel_rfl,by kernel_rfl,by kernel_rfl⟩
theorem xG (n : Int) (w : World) (hC : Ch w) :
    Calls prog 138 #[lR n] w fun e w' => e = .returned (.int .i64 (bh n)) ∧ Fr (fun _ => False) w w' := by
 have hf0 := Fr.a1 w (.cells #[.int .i64 (-1),.int .i64 n,.int .i64 (-1)] 189);have hC1 := hC.fr hf0 id;have HF0 := Hd hf0;have x0 := hC1.c0;have x2 := hC1.c2;have i0 := (uf (-1) n (-1) (w.alloc (.cells #[.int .i64 (-1),.int .i64 n,.int .i64 (-1)] 189))).1;have i1 := (uf (-1) n (-1) (w.alloc (.cells #[.int .i64 (-1),.int .i64 n,.int .i64 (-1)] 189))).2.1;have i2 := (uf (-1) n (-1) (w.alloc (.cells #[.int .i64 (-1),.int .i64 n,.int .i64 (-1)] 189))).2.2;simp only [lR];clear hf0 hC hC1;by_cases hn : n < 0
 · have ho : bh n = 0 := if_pos hn;have hn' : decide (0 ≤ n) = false := by simp; omega
   rw [ho];clear ho;go_enter func138,ntmps138;go_wp2_with fail;generalize (w.alloc (.cells #[.int .i64 (-1),.int .i64 n,.int .i64 (-1)] 189)) = W1 at *
   go_loopw [3,7] (fun av iv wr => ∃ i : Nat,iv = .int .i64 (i : Int) ∧ i ≤ 3 ∧ av = .int .i64 0 ∧ wr = W1) (fun _ iv _ => 3 - (intOf iv).toNat)
   case atStart => exact ⟨0,rfl,by decide,rfl,rfl⟩
   case round =>
    obtain ⟨i,rfl,hi,rfl,rfl⟩ := hrel;obtain rfl | rfl | rfl | rfl : i = 0 ∨ i = 1 ∨ i = 2 ∨ i = 3 := jj
    · go_wp2_with fail;go_roundw
      case rel => exact ⟨1,rfl,by decide,rfl,by trivial⟩
      case measure => simp [intOf]
    · go_wp2_with fail;go_roundw
      case rel => exact ⟨2,rfl,by decide,rfl,by trivial⟩
      case measure => simp [intOf]
    · go_wp2_with fail;go_roundw
      case rel => exact ⟨3,rfl,by decide,rfl,by trivial⟩
      case measure => simp [intOf]
    · go_wp2_with fail;go_ret;exact ⟨rfl,HF0⟩
 · have ho : bh n = 1 := if_neg hn;have hn' : decide (0 ≤ n) = true := by simp; omega
   rw [ho];clear ho;go_enter func138,ntmps138;go_wp2_with fail;generalize (w.alloc (.cells #[.int .i64 (-1),.int .i64 n,.int .i64 (-1)] 189)) = W1 at *
   go_loopw [3,7] (fun av iv wr => ∃ i : Nat,iv = .int .i64 (i : Int) ∧ i ≤ 3 ∧ av = .int .i64 (if i ≤ 1 then 0 else 2) ∧ wr = W1) (fun _ iv _ => 3 - (intOf iv).toNat)
   case atStart => exact ⟨0,rfl,by decide,rfl,rfl⟩
   case round =>
    obtain ⟨i,rfl,hi,rfl,rfl⟩ := hrel;obtain rfl | rfl | rfl | rfl : i = 0 ∨ i = 1 ∨ i = 2 ∨ i = 3 := jj
    · go_wp2_with fail;go_roundw
      case rel => exact ⟨1,rfl,by decide,rfl,by trivial⟩
      case measure => simp [intOf]
    · go_wp2_with fail;go_roundw
      case rel => exact ⟨2,rfl,by decide,rfl,by trivial⟩
      case measure => simp [intOf]
    · go_wp2_with fail;go_roundw
      case rel => exact ⟨3,rfl,by decide,rfl,by trivial⟩
      case measure => simp [intOf]
    · go_wp2_with fail;go_ret;exact ⟨rfl,HF0⟩
def j7 (n : Int) (k : Edge) : Bool := decide (n < 0 ∨ n = k.2.1)
theorem AC (n : Int) (k : Edge) (w : World) :
    Calls prog 140 #[lR n,k3 k] w fun e w' => e = .returned (.bool (j7 n k)) ∧ Fr (fun _ => False) w w' := by
 have hf0 := Fr.a2 w (.cells #[.int .i64 (-1),.int .i64 n,.int .i64 (-1)] 189) (.cells #[.int .i64 k.1,.int .i64 k.2.1,.int .i64 k.2.2] 71);have hy : Blk ((w.alloc (.cells #[.int .i64 (-1),.int .i64 n,.int .i64 (-1)] 189)).alloc (.cells #[.int .i64 k.1,.int .i64 k.2.1,.int .i64 k.2.2] 71)) (w.heap.size + 1) 71 #[.int .i64 k.1,.int .i64 k.2.1,.int .i64 k.2.2] := by
  have h := Blk.new (w.alloc (.cells #[.int .i64 (-1),.int .i64 n,.int .i64 (-1)] 189)) 71 #[.int .i64 k.1,.int .i64 k.2.1,.int .i64 k.2.2];simpa using h
 have y0 := hy.c0;have y1 := hy.c1;have y2 := hy.c2;have HF0 := Hd hf0;have hix := uf (-1) n (-1) ((w.alloc (.cells #[.int .i64 (-1),.int .i64 n,.int .i64 (-1)] 189)).alloc (.cells #[.int .i64 k.1,.int .i64 k.2.1,.int .i64 k.2.2] 71));obtain ⟨i0,i1,i2⟩ := hix;obtain ⟨ff,hff⟩ : ∃ ff,ff = j7 n k := ⟨_,rfl⟩;rw [← hff];have HFF := Hd hff;simp only [lR,eh];clear hf0 hy hff;go_enter func140,ntmps140;go_wp2_with fail;generalize ((w.alloc (.cells #[.int .i64 (-1),.int .i64 n,.int .i64 (-1)] 189)).alloc (.cells #[.int .i64 k.1,.int .i64 k.2.1,.int .i64 k.2.2] 71)) = W1 at *
 go_loopw [8] (fun iv wr => ∃ i : Nat,iv = .int .i64 (i : Int) ∧ i ≤ 3 ∧ (1 < i → ff = true) ∧ wr = W1) (fun iv _ => 3 - (intOf iv).toNat)
 case atStart => exact ⟨0,rfl,by decide,fun h => by omega,rfl⟩
 case round =>
  obtain ⟨i,rfl,hi,hft,rfl⟩ := hrel;obtain rfl | rfl | rfl | rfl : i = 0 ∨ i = 1 ∨ i = 2 ∨ i = 3 := jj
  · go_wp2_with fail;go_roundw
    case rel => exact ⟨1,rfl,by decide,fun h => by omega,by trivial⟩
    case measure => simp [intOf]
  · by_cases hn : n < 0
    · have hn' : decide (0 ≤ n) = false := by simp; omega
      have hff : ff = true := by rw [HFF.out]; simp [j7,hn]
      clear hft;go_wp2_with fail;go_roundw
      case rel => exact ⟨2,rfl,by decide,fun _ => hff,by trivial⟩
      case measure => simp [intOf]
    · have hn' : decide (0 ≤ n) = true := by simp; omega
      by_cases hk : n = k.2.1
      · have hff : ff = true := by rw [HFF.out]; simp [j7,hk]
        have hk' : (n == k.2.1) = true := by simpa using hk
        have HK := Hd hff;clear hft hff hk;go_wp2_with fail;go_roundw
        case rel => exact ⟨2,rfl,by decide,fun _ => HK,by trivial⟩
        case measure => simp [intOf]
      · have hff : ff = false := by rw [HFF.out]; simp [j7,hk]; omega
        subst hff;clear hft;have hk' : (n == k.2.1) = false := by simpa using hk
        go_wp2_with fail;go_ret;exact ⟨rfl,HF0⟩
  · have hff := hft de;have HK := Hd hff;clear hft hff;go_wp2_with fail;go_roundw
    case rel => exact ⟨3,rfl,by decide,fun _ => HK,by trivial⟩
    case measure => simp [intOf]
  · have hff := hft de;have HK := Hd hff;clear hft hff;go_wp2_with fail;go_ret;exact ⟨by rw [HK.out]; rfl,HF0⟩
structure dW (w : World) (sb : Nat) (n : Int) (b1 b2 b3 b4 : Nat) : Prop where
 c1 : Blk w b1 38 #[.pointer (some ⟨sb,0,none⟩)]
 c2 : Blk w b2 3 #[.int .i64 (bh n)]
 c3 : Blk w b3 71 #[.int .i64 0,.int .i64 (max n 0),.int .i64 0]
 c4 : Blk w b4 189 #[.int .i64 (-1),.int .i64 n,.int .i64 (-1)]
theorem dW.fr {n : Int} {b1 b2 b3 b4 : Nat} (h : dW w sb n b1 b2 b3 b4) {S : Nat → Prop} (hf : Fr S w w') (hs : ¬ S b1 ∧ ¬ S b2 ∧ ¬ S b3 ∧ ¬ S b4) : dW w' sb n b1 b2 b3 b4 :=
 ⟨h.c1.fr hf hs.1,h.c2.fr hf hs.2.1,h.c3.fr hf hs.2.2.1,h.c4.fr hf hs.2.2.2⟩
def xH (sb : Nat) (n : Int) (w : World) (e : Ending) (w' : World) : Prop :=
 ∃ b1 b2 b3 b4,e = .returned (.func (.func 139) #[] #[.pointer (some ⟨b1,0,none⟩),.pointer (some ⟨b2,0,none⟩),.pointer (some ⟨b3,0,none⟩),.pointer (some ⟨b4,0,none⟩)]) ∧ dW w' sb n b1 b2 b3 b4 ∧ Fr (fun _ => False) w w'
theorem C9 (sb : Nat) (n : Int) (w : World) (hC : Ch w) : Calls prog 78 #[.pointer (some ⟨sb,0,none⟩),lR n] w (xH sb n w) := by
 have hf0 := Fr.a2 w (.cells #[.pointer (some ⟨sb,0,none⟩)] 38) (.cells #[.int .i64 (-1),.int .i64 n,.int .i64 (-1)] 189);have hx : Blk ((w.alloc (.cells #[.pointer (some ⟨sb,0,none⟩)] 38)).alloc (.cells #[.int .i64 (-1),.int .i64 n,.int .i64 (-1)] 189)) w.heap.size 38 #[.pointer (some ⟨sb,0,none⟩)] := (Blk.new w 38 _).alloc _;have hy : Blk ((w.alloc (.cells #[.pointer (some ⟨sb,0,none⟩)] 38)).alloc (.cells #[.int .i64 (-1),.int .i64 n,.int .i64 (-1)] 189)) (w.heap.size + 1) 189 #[.int .i64 (-1),.int .i64 n,.int .i64 (-1)] := by
  have h := Blk.new (w.alloc (.cells #[.pointer (some ⟨sb,0,none⟩)] 38)) 189 #[.int .i64 (-1),.int .i64 n,.int .i64 (-1)];simpa using h
 have HC := Hd (xG n _ (hC.fr hf0 id));have HF0 := Hd hf0;have HX := Hd hx;have HY := Hd hy;simp only [lR] at HC ⊢;clear hf0 hx hy hC;go_enter func78,ntmps78;go_wp2_with fail;refine HC.mono ?_;rintro e1 w1 ⟨rfl,hf1⟩;have hx1 := HX.fr hf1 id;have hy1 := HY.fr hf1 id;have HX1 := Hd hx1;have HY1 := Hd hy1;have HF1 := Hd (HF0.trans' hf1);have y0 := hy1.c0;have y1 := hy1.c1;have y2 := hy1.c2;have hl := hy1.lt;clear hf1 hx1 hy1;go_wp2_with fail;go_ret;have h3 : Blk ((w1.alloc (.cells #[.int .i64 (bh n)] 3)).alloc (.cells #[.int .i64 0,.int .i64 (max n 0),.int .i64 0] 71)) (w1.heap.size + 1) 71 #[.int .i64 0,.int .i64 (max n 0),.int .i64 0] := by
  have h := Blk.new (w1.alloc (.cells #[.int .i64 (bh n)] 3)) 71 #[.int .i64 0,.int .i64 (max n 0),.int .i64 0];simpa using h
 exact ⟨w.heap.size,w1.heap.size,w1.heap.size + 1,w.heap.size + 1,rfl,⟨(HX1.alloc _).alloc _,(Blk.new w1 3 _).alloc _,h3,(HY1.alloc _).alloc _⟩,(HF1.alloc _).alloc _⟩
section
attribute [local go_sem] Oper.semAt_some
theorem ug {α : Type} (f : α → Bool) : ∀ (l : List α) (k : Nat) (x : α),(∀ y ∈ l.take k,f y = true) → l[k]? = some x → f x = false → l.takeWhile f = l.take k
 | [],_,_,_,h,_ => by simp at h
 | a :: l,0,x,_,h,hx => by
  simp at h;subst h;simp [hx]
 | a :: l,k + 1,x,ha,h,hx => by
  have h1 := ha a (by simp);rw [List.takeWhile_cons,if_pos h1,ug f l k x (fun y hy => ha y (by simp [hy])) (by simpa using h) hx];rfl
theorem Ct {α : Type} (f : α → Bool) : ∀ (l : List α) (k : Nat) (x : α),(∀ y ∈ l.take k,f y = true) → l[k]? = some x → f x = true → l.take k ++ [x] <+: l.takeWhile f
 | [],_,_,_,h,_ => by simp at h
 | a :: l,0,x,_,h,hx => by
  simp at h;subst h;simp [hx]
 | a :: l,k + 1,x,ha,h,hx => by
  have h1 := ha a (by simp);rw [List.takeWhile_cons,if_pos h1];have := Ct f l k x (fun y hy => ha y (by simp [hy])) (by simpa using h) hx;show a :: (l.take k ++ [x]) <+: _;exact List.cons_prefix_cons.2 ⟨rfl,this⟩
theorem xI {α : Type} (f : α → Bool) : ∀ (l : List α),(∀ y ∈ l,f y = true) → l.takeWhile f = l
 | [],_ => rfl
 | a :: l,h => by rw [List.takeWhile_cons,if_pos (h a (by simp)),xI f l (fun y hy => h y (by simp [hy]))]
structure kP (sb : Nat) (r : Nat → Value) (b1 b2 b3 b4 : Nat) (X : Nat → Prop) : Prop where
 st : ¬ X sb
 row : ∀ o j,o < 3 → X j → (r o).ownBlock ≠ some j
 c1 : ¬ X b1
 c2 : ¬ X b2
 c3 : ¬ X b3
 c4 : ¬ X b4
def aT (ls : Nat → List Edge) (n : Int) : List Edge := ((ls (bh n)).drop (bP (bh n) (ls (bh n)) (0,max n 0,0))).takeWhile (j7 n)
theorem Fr.grownBy (h : Fr (fun _ => False) w w') : w.grownBy w' none := ⟨h.os,h.tape,h.output,h.size,fun k hk _ => h.block k hk id⟩
theorem pr (n : Int) (sb B : Nat) (r : Nat → Value) (ls : Nat → List Edge) (room : Int) (b1 b2 b3 b4 : Nat) (w : World) (hP : Pl w) (hS : br w sb B r ls room) (hC : dW w sb n b1 b2 b3 b4) (X : Nat → Prop) (hX : kP sb r b1 b2 b3 b4 X) (m : Nat) (hm : 1 ≤ m) (hpn : bP (bh n) (ls (bh n)) (0,max n 0,0) < (ls (bh n)).length) :
    SeqStopsK Fence.wide m prog 139 #[.pointer (some ⟨b1,0,none⟩),.pointer (some ⟨b2,0,none⟩),.pointer (some ⟨b3,0,none⟩),.pointer (some ⟨b4,0,none⟩)] (fun x : Edge => #[k3 x]) (Fr X) (fun ys => ys = aT ls n) (fun pre => pre <+: aT ls n) (aT ls n).length w := by
 intro l J Jx W hW hJ hJx hY h0;have hF0 : Fr (fun _ => False) w W := Fr.of_below hW _;have ho : bh n < 3 := by unfold bh; split <;> decide
 have HFIND := Hd (fun W' (h : Fr (fun _ => False) w W') => pq (bh n) ho (0,max n 0,0) sb B r ls room W' (hP.fr h id) (hS.fr h));have HFIT := Hd (fun (k : Edge) W' => AC n k W');have HS := Hd hS;have HC := Hd hC;have HJ := Hd hJ;have HY := Hd hY;have HF0 := Hd hF0;have hcW := hC.fr hF0 ⟨fun h => h,fun h => h,fun h => h,fun h => h⟩;have x1 := hcW.c1.c0;have x2 := hcW.c2.c0;have x3 := hcW.c3.c0;have x4 := hcW.c3.c1;have x5 := hcW.c3.c2;have HSL := Hd (show aT ls n = ((ls (bh n)).drop (bP (bh n) (ls (bh n)) (0,max n 0,0))).takeWhile (j7 n) from rfl);generalize bP (bh n) (ls (bh n)) (0,max n 0,0) = p at *;generalize decide ((0,max n 0,0) ∈ ls (bh n)) = fnd at *;simp only [eh] at HFIND;clear hW hJ hJx hY hF0 hcW hC hP hS;refine callsIn_of_wp func139 rfl trivial ?_ rfl;simp only [ntmps139,List.size_toArray,List.length_cons,List.length_nil,Nat.reduceAdd,Nat.reduceSub,Array.replicate_succ,Array.replicate_zero,List.push_toArray,List.append_toArray,List.nil_append,List.cons_append]
 gi_wp2_with fail;refine ⟨trivial,(callsIn_wide.2 (HFIND.out W HF0)).mono ?_⟩;rintro e1 w1 ⟨rfl,hf1⟩;have hfw1 := HF0.trans' hf1;have HFW1 := Hd hfw1;have hJ1 : J [] w1 := HJ.out [] W w1 none h0 hf1.grownBy (fun r e => by cases e);have hs1 := HS.fr hfw1;have hc1 := HC.fr hfw1 ⟨fun h => h,fun h => h,fun h => h,fun h => h⟩;have y1 := hc1.c1.c0;have y2 := hc1.c2.c0;have y3 := hs1.cell ho;obtain ⟨a0,c0,he0⟩ := (HS.row _ ho).len;rw [he0] at y3;have HE0 := Hd he0;generalize hlen : (ls (bh n)).length = len at *;have HLEN := Hd hlen;have ho3 : ((bh n : Nat) : Int) < 3 := jj;have hpl' : (p : Int) ≤ (len : Int) := jj;have HJ1 := Hd hJ1;clear hf1 hfw1 hs1 hc1 x1 x2 x3 x4 x5 HFIND h0 he0 hlen hJ1
 gi_wp2_with fail;obtain ⟨x0,hx0⟩ : ∃ x,(ls (bh n))[p]? = some x := ⟨_,List.getElem?_eq_getElem (by rw [HLEN.out]; exact hpn)⟩;obtain ⟨g,c,he,hg,_⟩ := gt.at (HS.row _ ho) hx0;rw [HE0.out,HLEN.out] at he;simp only [Value.slice.injEq,true_and] at he;obtain ⟨rfl,rfl⟩ := he;have hcl : len ≤ c0 := by
  rcases (HS.row _ ho).2 with ⟨h,_⟩ | ⟨g',cap,cur,h,_,_,h2,_⟩
  · rw [HE0.out] at h; cases h
  · rw [HE0.out] at h;simp only [Value.slice.injEq] at h;rw [HLEN.out] at h2;omega
 have hcp : ¬ c0 = p := jj;clear hx0 hg hcl
 gi_region
 gi_wp2_with fail;have HX1 := Hd (show J [] w1.drew from HJ.out [] w1 w1.drew none HJ1 ((Fr.refl (fun _ => False) w1).drew.grownBy) (fun r e => by cases e));have HB1 := Hd (show Fr (fun _ => False) w w1.drew from HFW1.drew);have hrl : ((ls (bh n)).drop p).length = len - p := by rw [List.length_drop,HLEN.out]
 have HRL := Hd hrl;have HDR := Hd (show ∀ k : Nat,((ls (bh n)).drop p)[k]? = (ls (bh n))[p + k]? from fun k => List.getElem?_drop);generalize hrest : (ls (bh n)).drop p = rest at *;generalize w1.drew = W1 at *;clear y1 y2 y3 hcp hrl hrest
 gi_loopw [26] (fun iv wr => ∃ k : Nat,iv = .int .i64 (k : Int) ∧ k ≤ len - p ∧ (∀ y ∈ rest.take k,j7 n y = true) ∧ J (rest.take k) wr ∧ Fr X w wr) (fun iv _ => len - p - (intOf iv).toNat)
 case atStart => exact ⟨0,rfl,Nat.zero_le _,(fun y hy => by simp at hy),by simpa using HX1.out,HB1.out.mono uu⟩
 case round =>
  obtain ⟨k,rfl,hk,hall,hJk,hbw⟩ := hrel;have HALL := Hd hall;have HJK := Hd hJk;have HBW := Hd hbw;by_cases hlt : k < len - p
  · obtain ⟨x,hx⟩ : ∃ x,rest[k]? = some x := ⟨_,List.getElem?_eq_getElem (by rw [HRL.out]; exact hlt)⟩;have hx2 := hx;rw [HDR.out] at hx2;obtain ⟨g',c',he,hg,c1,c2,c3⟩ := ((HS.row _ ho).fr hbw (fun j hj hx => hX.row _ j ho hx hj)).at hx2;rw [HE0.out] at he;simp only [Value.slice.injEq,Option.some.injEq,Addr.mk.injEq,and_true] at he;obtain ⟨rfl,hz,rfl⟩ := he;rw [Nat.add_mul] at c1 c2 c3;have hck := HC.fr hbw ⟨hX.c1,hX.c2,hX.c3,hX.c4⟩;have z0 := hck.c4.c0;have z1 := hck.c4.c1;have z2 := hck.c4.c2;have hb4 := hck.c4.lt;have HX := Hd hx;have hl4 := HS.few _ ho;rw [HLEN.out] at hl4;clear hall hJk hbw hx hx2 hz hck;have hk4 : (k : Int) < 4096 := jj
    gi_wp2_with fail;refine ⟨trivial,(callsIn_wide.2 (HFIT.out x _)).mono ?_⟩;rintro e2 w2 ⟨rfl,hf2⟩;have HF2 := Hd (show Fr (fun _ => False) wr w2 from Fr.trans' (S := fun _ => False) ((Fr.refl _ wr).alloc _) hf2);have hx9 := (Blk.new wr 71 #[.int .i64 x.1,.int .i64 x.2.1,.int .i64 x.2.2]).fr hf2 id;have u0 := hx9.c0;have u1 := hx9.c1;have u2 := hx9.c2;have HJ2 := Hd (HJ _ wr w2 none HJK.out HF2.grownBy (fun r e => by cases e));have HB2 := Hd (HBW.trans' (HF2.mono uu));clear hf2 hx9 z0 z1 z2 c1 c2 c3;cases hfit : j7 n x with
    | false =>
     gi_wp2_with fail;refine ⟨fun _ h => (by cases h),?_⟩
     gi_wp2_with fail;refine bodyPost_ret (results_none rfl _ _ _) rfl ?_;exact ⟨⟨_,rfl⟩,.inl ⟨rest.take k,by rw [HSL.out]; exact (ug _ _ _ _ HALL.out HX.out hfit).symm,HJ2⟩⟩
    | true =>
     have hpre := Ct _ _ _ _ HALL.out HX.out hfit;rw [← HSL.out] at hpre;obtain ⟨fn,tmps,assign,body,hy,hR⟩ := HY _ x w2 HJ2 (by
      have := hpre.length_le;simp only [List.length_append,List.length_cons,List.length_nil] at this;omega)
     have HR := Hd hR;have HPRE := Hd hpre;simp only [eh] at hy;clear hR hpre
     gi_wp2_with fail;refine HR.mono ?_;rintro e W3 (⟨rfl,hJ3,hk3⟩ | ⟨rfl,hJx3⟩)
     · have HJ3 := Hd hJ3;have HB3 := Hd (HB2.trans' hk3);clear hJ3 hk3
       gi_wp2_with fail;go_roundw
       case rel =>
        have htk : rest.take (k + 1) = rest.take k ++ [x] := by rw [List.take_add_one,HX.out]; rfl
        refine ⟨k + 1,by simp,by omega,fun y hy => ?_,by rw [htk]; exact HJ3,HB3⟩;rw [htk] at hy;rcases List.mem_append.1 hy with h | h
        · exact HALL.out y h
        · rw [List.mem_singleton.1 h]; exact hfit
       case measure => simp [intOf]; omega
     · have HJ3 := Hd hJx3;clear hJx3
       gi_wp2_with fail;refine bodyPost_ret (results_none rfl _ _ _) rfl ?_;exact ⟨⟨_,rfl⟩,.inr ⟨_,HPRE,HJ3⟩⟩
  · have hke : k = len - p := jj;have htk : rest.take k = rest := List.take_of_length_le (by rw [HRL.out]; omega);have HTK := Hd htk;clear hall hJk hbw htk;subst hke
    gi_wp2_with fail
    go_end0;refine ⟨⟨_,rfl⟩,.inl ⟨rest,?_,?_⟩⟩
    · rw [HSL.out];refine (xI _ _ (fun y hy => ?_)).symm;have := HALL.out y;rw [HTK.out] at this;exact this hy
    · have := HJK.out;rw [HTK.out] at this;exact this
end
end Go.Proofs.YtfaapkpebnagmaaGreatDoor
