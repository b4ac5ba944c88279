/- Texts of the proof, one behind the other: Mem. -/
import Derived.Test.YtfaapkpebnagmaaGreatDoorProg
import Derived.WalkKit
import Derived.Below
import Derived.Laws.OwnMore
import Derived.Laws.AppendOwnNone
import Derived.Deep.Draws
import Derived.Laws.Rows
import Derived.Maps.AppendAt
import Derived.Deep.AppendLies
import Derived.WalkSmall
namespace Go.Proofs.YtfaapkpebnagmaaGreatDoor
open Go Go.RowKit
set_option linter.unusedVariables false
set_option maxRecDepth 100000
set_option maxHeartbeats 400000000
variable {w a w' b c : World} {g base size n : Nat} {t e : TypeId} {v0 v1 v2 v3 v4 v5 v6 v7 v8 v9 v10 v v11 : Value} {r xs : List Value} {S T : Nat → Prop} {p : Prop} {row : Option Nat}
section
structure Fr (S : Nat → Prop) (w w' : World) : Prop where
 os : w'.os = w.os
 tape : w'.tape = w.tape
 output : w'.output = w.output
 size : w.heap.size ≤ w'.heap.size
 block : ∀ k,k < w.heap.size → ¬ S k → w'.heap[k]? = w.heap[k]?
theorem Fr.refl (S : Nat → Prop) (w : World) : Fr S w w := ⟨rfl,rfl,rfl,Nat.le_refl _,fun _ _ _ => rfl⟩
theorem Fr.mono (h : Fr S w w') (hs : ∀ k,k < w.heap.size → S k → T k) : Fr T w w' :=
 ⟨h.os,h.tape,h.output,h.size,fun k hk hn => h.block k hk (fun e => hn (hs k hk e))⟩
theorem Fr.trans (h : Fr S a b) (k : Fr T b c) (ht : ∀ i,i < a.heap.size → T i → S i) : Fr S a c :=
 ⟨k.os.trans h.os,k.tape.trans h.tape,k.output.trans h.output,Nat.le_trans h.size k.size,
  fun i hi hn => (k.block i (Nat.lt_of_lt_of_le hi h.size) (fun e => hn (ht i hi e))).trans (h.block i hi hn)⟩
theorem Fr.trans' (h : Fr S a b) (k : Fr S b c) : Fr S a c := h.trans k fun _ _ h => h
theorem Fr.drewN (h : Fr S a w) (n : Nat) : Fr S a (w.drewN n) := ⟨h.os,h.tape,h.output,h.size,h.block⟩
theorem Fr.drew (h : Fr S a w) : Fr S a w.drew := ⟨h.os,h.tape,h.output,h.size,h.block⟩
theorem Fr.alloc (h : Fr S a w) (o : Obj) : Fr S a (w.alloc o) :=
 ⟨h.os,h.tape,h.output,Nat.le_trans h.size (by simp),fun k hk hn => (Below.heap_alloc w o k (Nat.lt_of_lt_of_le hk h.size)).trans (h.block k hk hn)⟩
theorem Fr.setCell (h : Fr S a w) (p : Addr) (hp : p.block < a.heap.size → S p.block) (u : Value) : Fr S a (w.setCell p u) :=
 ⟨h.os,h.tape,h.output,by simpa [World.setCell] using h.size,fun k hk hn => (Below.heap_setCell w p u k (fun e => hn (by rw [e]; exact hp (by omega)))).trans (h.block k hk hn)⟩
theorem Fr.of_grown (h : w.grownBy w' row) : Fr (fun k => row = some k) w w' :=
 ⟨h.os,h.tape,h.output,h.size,fun k hk hn => h.block k hk (fun e => hn e.symm)⟩
theorem Fr.grown (h : Fr S a w) (g : w.grownBy w' row) (hr : ∀ k,k < a.heap.size → row = some k → S k) : Fr S a w' :=
 h.trans (Fr.of_grown g) hr
theorem Fr.below {B : Nat} (h : Fr S w w') (hB : B ≤ w.heap.size) (hs : ∀ k,S k → B ≤ k) : Below B w w' :=
 ⟨h.os,h.tape,h.output,h.size,fun k hk => h.block k (by omega) (fun e => by have := hs k e; omega)⟩
theorem Fr.of_below (h : Below w.heap.size w w') (S : Nat → Prop) : Fr S w w' :=
 ⟨h.os,h.tape,h.output,h.size,fun k hk _ => h.block k hk⟩
def Blk (w : World) (g : Nat) (t : TypeId) (cs : Array Value) : Prop := w.heap[g]? = some (.cells cs t (0,0))
section
variable {w w' : World} {g : Nat} {t : TypeId} {cs : Array Value}
theorem Blk.lt (h : Blk w g t cs) : g < w.heap.size := by
 rcases Nat.lt_or_ge g w.heap.size with hlt | hge
 · exact hlt
 · unfold Blk at h; rw [Array.getElem?_eq_none hge] at h; cases h
theorem Blk.cell (h : Blk w g t cs) (i : Nat) : w.cell? ⟨g,i,none⟩ = cs[i]? := cell_of_row w g i cs t (0,0) h
theorem Blk.frozen (h : Blk w g t cs) (i : Nat) : w.frozen? ⟨g,i,none⟩ = false := by
 unfold Blk at h;simp [World.frozen?,h]
theorem Blk.new (w : World) (t : TypeId) (cs : Array Value) : Blk (w.alloc (.cells cs t)) w.heap.size t cs := heap_alloc_new w _
theorem Blk.drew (h : Blk w g t cs) : Blk w.drew g t cs := h
theorem Blk.drewN (h : Blk w g t cs) (n : Nat) : Blk (w.drewN n) g t cs := h
theorem Blk.alloc (h : Blk w g t cs) (o : Obj) : Blk (w.alloc o) g t cs := (Below.heap_alloc w o g h.lt).trans h
theorem Blk.set_ (h : Blk w g t cs) (i : Nat) (u : Value) : Blk (w.setCell ⟨g,i,none⟩ u) g t (cs.setIfInBounds i u) := by
 unfold Blk at h ⊢;simp [World.setCell,Array.getElem?_modify,h]
theorem Blk.far (h : Blk w g t cs) {p : Addr} (hp : g ≠ p.block) (u : Value) : Blk (w.setCell p u) g t cs := (Below.heap_setCell w p u g hp).trans h
theorem Blk.fr (h : Blk w g t cs) (hb : Fr S w w') (hg : ¬ S g) : Blk w' g t cs := (hb.block g h.lt hg).trans h
theorem Blk.ne_ {g' : Nat} {t' : TypeId} {cs' : Array Value} (h : Blk w g t cs) (h' : Blk w g' t' cs') (hne : t ≠ t') : g ≠ g' := by
 rintro rfl;unfold Blk at h h';rw [h] at h';injection h' with h';injection h' with _ ht;exact hne ht
theorem ac (h : w.ownsRow base e size v n xs) (hg : Blk w g t cs) (hne : e ≠ t) : v.ownBlock ≠ some g := by
 rcases h.2 with ⟨rfl,_⟩ | ⟨g',cap,cur,rfl,_,hh,_⟩
 · simp [Value.ownBlock]
 · intro he;have : g' = g := by simpa [Value.ownBlock] using he
   subst this;exact Blk.ne_ (t := e) hh hg hne rfl
end
theorem aa (h : w.ownsRow base e size v n xs) (hf : Fr S w w') (hs : ∀ k,v.ownBlock = some k → ¬ S k) : w'.ownsRow base e size v n xs := by
 refine ⟨h.1,?_⟩;rcases h.2 with hn | ⟨g,cap,cur,rfl,hb,hgg,rest⟩
 · exact .inl hn
 · refine .inr ⟨g,cap,cur,rfl,hb,?_,rest⟩;rw [hf.block g (Array.getElem?_eq_some_iff.1 hgg).1 (hs g rfl)];exact hgg
theorem Blk.c0 (h : Blk w g t (v0 :: r).toArray) : w.cell? ⟨g,0,none⟩ = some v0 := h.cell 0
theorem Blk.c1 (h : Blk w g t (v0 :: v1 :: r).toArray) : w.cell? ⟨g,1,none⟩ = some v1 := h.cell 1
theorem Blk.c2 (h : Blk w g t (v0 :: v1 :: v2 :: r).toArray) : w.cell? ⟨g,2,none⟩ = some v2 := h.cell 2
theorem Blk.c3 (h : Blk w g t (v0 :: v1 :: v2 :: v3 :: r).toArray) : w.cell? ⟨g,3,none⟩ = some v3 := h.cell 3
theorem Blk.c4 (h : Blk w g t (v0 :: v1 :: v2 :: v3 :: v4 :: r).toArray) : w.cell? ⟨g,4,none⟩ = some v4 := h.cell 4
theorem Blk.c5 (h : Blk w g t (v0 :: v1 :: v2 :: v3 :: v4 :: v5 :: r).toArray) : w.cell? ⟨g,5,none⟩ = some v5 := h.cell 5
theorem Blk.c6 (h : Blk w g t (v0 :: v1 :: v2 :: v3 :: v4 :: v5 :: v6 :: r).toArray) : w.cell? ⟨g,6,none⟩ = some v6 := h.cell 6
theorem Blk.c7 (h : Blk w g t (v0 :: v1 :: v2 :: v3 :: v4 :: v5 :: v6 :: v7 :: r).toArray) : w.cell? ⟨g,7,none⟩ = some v7 := h.cell 7
theorem Blk.c8 (h : Blk w g t (v0 :: v1 :: v2 :: v3 :: v4 :: v5 :: v6 :: v7 :: v8 :: r).toArray) : w.cell? ⟨g,8,none⟩ = some v8 := h.cell 8
theorem Blk.c9 (h : Blk w g t (v0 :: v1 :: v2 :: v3 :: v4 :: v5 :: v6 :: v7 :: v8 :: v9 :: r).toArray) : w.cell? ⟨g,9,none⟩ = some v9 := h.cell 9
theorem Blk.c10 (h : Blk w g t (v0 :: v1 :: v2 :: v3 :: v4 :: v5 :: v6 :: v7 :: v8 :: v9 :: v10 :: r).toArray) : w.cell? ⟨g,10,none⟩ = some v10 := h.cell 10
theorem Blk.c11 (h : Blk w g t (v0 :: v1 :: v2 :: v3 :: v4 :: v5 :: v6 :: v7 :: v8 :: v9 :: v10 :: v11 :: r).toArray) : w.cell? ⟨g,11,none⟩ = some v11 := h.cell 11
theorem Blk.c12 {v12 : Value} (h : Blk w g t (v0 :: v1 :: v2 :: v3 :: v4 :: v5 :: v6 :: v7 :: v8 :: v9 :: v10 :: v11 :: v12 :: r).toArray) : w.cell? ⟨g,12,none⟩ = some v12 := h.cell 12
theorem Fr.a1 (w : World) (a : Obj) : Fr (fun _ => False) w (w.alloc a) := (Fr.refl _ _).alloc _
theorem Fr.a2 (w : World) (a b : Obj) : Fr (fun _ => False) w ((w.alloc a).alloc b) := ((Fr.refl _ _).alloc _).alloc _
theorem Fr.a3 (w : World) (a b c : Obj) : Fr (fun _ => False) w (((w.alloc a).alloc b).alloc c) := (((Fr.refl _ _).alloc _).alloc _).alloc _
theorem Fr.a4 (w : World) (a b c d : Obj) : Fr (fun _ => False) w ((((w.alloc a).alloc b).alloc c).alloc d) := ((((Fr.refl _ _).alloc _).alloc _).alloc _).alloc _
theorem al1 (w : World) (a : Obj) : (w.alloc a).heap.size = w.heap.size + 1 := by simp
theorem al2 (w : World) (a b : Obj) : ((w.alloc a).alloc b).heap.size = w.heap.size + 1 + 1 := by simp
theorem k7 (w : World) (a b : Obj) : ((w.alloc a).alloc b).heap.size = w.heap.size + 2 := by simp
theorem al3 (w : World) (a b c : Obj) : (((w.alloc a).alloc b).alloc c).heap.size = w.heap.size + 1 + 1 + 1 := by simp
theorem CH (w : World) (a b c : Obj) : (((w.alloc a).alloc b).alloc c).heap.size = w.heap.size + 3 := by simp
theorem uu {p : Nat → Prop} (k : Nat) (_ : p k) (h : False) : T k := h.elim
theorem ii {p : Nat → Prop} (k : Nat) (_ : p k) (h : T k) : T k := h
theorem dk (h : p := by decide +kernel) : p := h
theorem kr (h : p := by kernel_rfl) : p := h
theorem de (h : p := by decide) : p := h
theorem FV {p : Prop} [Decidable p] (h : p := by omega) : decide p = true := decide_eq_true h
theorem FX {p : Prop} [Decidable p] (h : ¬ p := by omega) : decide p = false := decide_eq_false h
theorem jj (h : p := by omega) : p := h
theorem Hd (h : p) : Hid p := h
theorem fw (h : p := by repeat' (first | exact Fr.refl _ _ | refine Fr.drew ?_)) : p := h
theorem fz (h : p := by repeat' (first | exact Fr.refl _ _ | assumption | (exact (And.left (by assumption))) | refine Fr.drew ?_ | refine Fr.alloc ?_ _ | refine Fr.trans' ?_ (by assumption))) : p := h
end
end Go.Proofs.YtfaapkpebnagmaaGreatDoor
