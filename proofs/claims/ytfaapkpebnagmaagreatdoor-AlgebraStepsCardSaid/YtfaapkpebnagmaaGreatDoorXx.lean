/- Texts of the proof, one behind the other: Ya, Yu, Yp, Yv, Yw, Yy, Yx. -/
import Derived.Test.YtfaapkpebnagmaaGreatDoorXw
namespace Go.Proofs.YtfaapkpebnagmaaGreatDoor
open _root_.Go.Proofs.Tryz
open Go.RowKit Go
set_option linter.unusedVariables false
set_option maxRecDepth 100000
set_option maxHeartbeats 400000000
variable {w : World} {kind g B sb m c : Nat} {rs : List Int} {k p q a : Int} {R : List (List Int)} {ss : List ByteArray} {E : List Edge} {b : PT} {P One : Nat → PT → Nat → Nat → Prop} {x : UInt8} {t : TypeId} {cs : Array Value} {r : Nat → Value} {ls : Nat → List Edge} {V : Option Addr} {vr : Value}
theorem mG (p q : Nat) (t : PT) (e e2 d : Nat) (h1 : aj rs p (mk1 40) = true) (hq : an rs p (mk1 40) = q) (h2 : P q t e d) (h3 : aj rs e (mk1 41) = true) (he : an rs e (mk1 41) = e2) : dG rs P p t e2 d := by
 subst hq he;exact .paren p t e d h1 h2 h3
theorem oz (p q e : Nat) (i : ByteArray) (h1 : aj rs p (mk1 40) = false) (h2 : aj rs p (mk1 94) = true) (hq : an rs p (mk1 94) = q) (h3 : dU rs q e i) : dG rs P p (.leaf 1 i) e 1 := by
 subst hq;exact .back p e i h1 h2 h3
theorem eW (p : Nat) (ts : List PT) (t : PT) (e q e1 d d1 : Nat) (h : fF rs x One p ts e d) (h1 : aj rs e (mk1 x) = true) (hq : an rs e (mk1 x) = q) (h2 : One q t e1 d1) : fF rs x One p (ts ++ [t]) e1 (max d d1) := by
 subst hq;exact .more p ts t e d e1 d1 h h1 h2
theorem eX (p : Nat) (ts : List PT) (e d : Nat) (h : fF rs x One p ts e d) (h1 : 2 ≤ ts.length) (h2 : aj rs e (mk1 x) = false) : d8 rs x k One p (.node k ts) e (d + 1) := .many p ts e d h h1 h2
def pT0 : ByteArray := ⟨#[82,69,71,73,83,84,69,82,32,82,83,84,82,69,65,77,32,60,117,58,111,62,32,65,83,32,83,69,76,69,67,84,32,63,120,32,87,72,69,82,69,32,123,32,63,120,32,60,117,58,112,62,47,60,117,58,113,62,32,63,121,32,46,32,125]⟩
def pL0 : List Int := txt pT0
theorem zc : gq pT0 pL0 := ⟨dk,dk,dk,dk⟩
theorem zd : dj pL0 := ⟨dk,dk⟩
theorem ze : i6 pL0 := ⟨dk,dk,dk,dk,dk,dk,dk,dk⟩
theorem zg : er pL0 := dk
theorem zh : aR pL0 1 46 (aW 0 ⟨#[117,58,112]⟩ ⟨#[117,58,113]⟩ ⟨#[117,58,97]⟩) 58 2 :=
 (.one _ _ _ _ (.one _ _ _ _ (eX (rs := pL0) (x := 47) (k := 2) (One := bD pL0 (aR pL0 0)) 46 [(.leaf 0 ⟨#[117,58,112]⟩),(.leaf 0 ⟨#[117,58,113]⟩)] 58 1 (eW (rs := pL0) (x := 47) (One := bD pL0 (aR pL0 0)) 46 [(.leaf 0 ⟨#[117,58,112]⟩)] (.leaf 0 ⟨#[117,58,113]⟩) 52 53 58 1 1 (.one _ _ _ _ (.plain _ _ _ _ _ (.step 46 52 ⟨#[117,58,112]⟩ dk dk dk) dk)) dk dk (.plain _ _ _ _ _ (.step 53 58 ⟨#[117,58,113]⟩ dk dk dk) dk)) dk dk)) dk)
theorem B9 : skip pL0 [0] 58 = pL0.length - 6 := dk
theorem wu (w : World) (hg : Sg w) : Calls prog 5 #[.string pT0] w (aI (PQo (aW 0 ⟨#[117,58,112]⟩ ⟨#[117,58,113]⟩ ⟨#[117,58,97]⟩)) w) :=
 eG pT0 pL0 zc zd ze zg de 1 _ 58 2 zh de B9 w hg
def pT1 : ByteArray := ⟨#[82,69,71,73,83,84,69,82,32,82,83,84,82,69,65,77,32,60,117,58,111,62,32,65,83,32,83,69,76,69,67,84,32,63,120,32,87,72,69,82,69,32,123,32,63,120,32,60,117,58,112,62,47,94,60,117,58,112,62,32,63,121,32,46,32,125]⟩
def pL1 : List Int := txt pT1
theorem zi : gq pT1 pL1 := ⟨dk,dk,dk,dk⟩
theorem zj : dj pL1 := ⟨dk,dk⟩
theorem zk : i6 pL1 := ⟨dk,dk,dk,dk,dk,dk,dk,dk⟩
theorem zl : er pL1 := dk
theorem zm : aR pL1 1 46 (aW 1 ⟨#[117,58,112]⟩ ⟨#[117,58,113]⟩ ⟨#[117,58,97]⟩) 59 2 :=
 (.one _ _ _ _ (.one _ _ _ _ (eX (rs := pL1) (x := 47) (k := 2) (One := bD pL1 (aR pL1 0)) 46 [(.leaf 0 ⟨#[117,58,112]⟩),(.leaf 1 ⟨#[117,58,112]⟩)] 59 1 (eW (rs := pL1) (x := 47) (One := bD pL1 (aR pL1 0)) 46 [(.leaf 0 ⟨#[117,58,112]⟩)] (.leaf 1 ⟨#[117,58,112]⟩) 52 53 59 1 1 (.one _ _ _ _ (.plain _ _ _ _ _ (.step 46 52 ⟨#[117,58,112]⟩ dk dk dk) dk)) dk dk (.plain _ _ _ _ _ (oz 53 54 59 ⟨#[117,58,112]⟩ dk dk dk dk) dk)) dk dk)) dk)
theorem Ca : skip pL1 [0] 59 = pL1.length - 6 := dk
theorem ww (w : World) (hg : Sg w) : Calls prog 5 #[.string pT1] w (aI (PQo (aW 1 ⟨#[117,58,112]⟩ ⟨#[117,58,113]⟩ ⟨#[117,58,97]⟩)) w) :=
 eG pT1 pL1 zi zj zk zl de 1 _ 59 2 zm de Ca w hg
def pT2 : ByteArray := ⟨#[82,69,71,73,83,84,69,82,32,82,83,84,82,69,65,77,32,60,117,58,111,62,32,65,83,32,83,69,76,69,67,84,32,63,120,32,87,72,69,82,69,32,123,32,63,120,32,60,117,58,112,62,124,60,117,58,113,62,32,63,121,32,46,32,125]⟩
def pL2 : List Int := txt pT2
theorem zn : gq pT2 pL2 := ⟨dk,dk,dk,dk⟩
theorem zo : dj pL2 := ⟨dk,dk⟩
theorem zp : i6 pL2 := ⟨dk,dk,dk,dk,dk,dk,dk,dk⟩
theorem zq : er pL2 := dk
theorem zr : aR pL2 1 46 (aW 2 ⟨#[117,58,112]⟩ ⟨#[117,58,113]⟩ ⟨#[117,58,97]⟩) 58 2 :=
 (eX (rs := pL2) (x := 124) (k := 3) (One := qx pL2 (aR pL2 0)) 46 [(.leaf 0 ⟨#[117,58,112]⟩),(.leaf 0 ⟨#[117,58,113]⟩)] 58 1 (eW (rs := pL2) (x := 124) (One := qx pL2 (aR pL2 0)) 46 [(.leaf 0 ⟨#[117,58,112]⟩)] (.leaf 0 ⟨#[117,58,113]⟩) 52 53 58 1 1 (.one _ _ _ _ (.one _ _ _ _ (.one _ _ _ _ (.plain _ _ _ _ _ (.step 46 52 ⟨#[117,58,112]⟩ dk dk dk) dk)) dk)) dk dk (.one _ _ _ _ (.one _ _ _ _ (.plain _ _ _ _ _ (.step 53 58 ⟨#[117,58,113]⟩ dk dk dk) dk)) dk)) dk dk)
theorem Cb : skip pL2 [0] 58 = pL2.length - 6 := dk
theorem wA (w : World) (hg : Sg w) : Calls prog 5 #[.string pT2] w (aI (PQo (aW 2 ⟨#[117,58,112]⟩ ⟨#[117,58,113]⟩ ⟨#[117,58,97]⟩)) w) :=
 eG pT2 pL2 zn zo zp zq de 1 _ 58 2 zr de Cb w hg
def pT3 : ByteArray := ⟨#[82,69,71,73,83,84,69,82,32,82,83,84,82,69,65,77,32,60,117,58,111,62,32,65,83,32,83,69,76,69,67,84,32,63,120,32,87,72,69,82,69,32,123,32,63,120,32,94,60,117,58,97,62,32,63,121,32,46,32,125]⟩
def pL3 : List Int := txt pT3
theorem zt : gq pT3 pL3 := ⟨dk,dk,dk,dk⟩
theorem zu : dj pL3 := ⟨dk,dk⟩
theorem zv : i6 pL3 := ⟨dk,dk,dk,dk,dk,dk,dk,dk⟩
theorem zw : er pL3 := dk
theorem zx : aR pL3 1 46 (aW 3 ⟨#[117,58,112]⟩ ⟨#[117,58,113]⟩ ⟨#[117,58,97]⟩) 53 1 :=
 (.one _ _ _ _ (.one _ _ _ _ (.one _ _ _ _ (.one _ _ _ _ (.plain _ _ _ _ _ (oz 46 48 53 ⟨#[117,58,97]⟩ dk dk dk dk) dk)) dk)) dk)
theorem Cc : skip pL3 [0] 53 = pL3.length - 6 := dk
theorem wB (w : World) (hg : Sg w) : Calls prog 5 #[.string pT3] w (aI (PQo (aW 3 ⟨#[117,58,112]⟩ ⟨#[117,58,113]⟩ ⟨#[117,58,97]⟩)) w) :=
 eG pT3 pL3 zt zu zv zw de 1 _ 53 1 zx de Cc w hg
def pT4 : ByteArray := ⟨#[82,69,71,73,83,84,69,82,32,82,83,84,82,69,65,77,32,60,117,58,111,62,32,65,83,32,83,69,76,69,67,84,32,63,120,32,87,72,69,82,69,32,123,32,63,120,32,40,60,117,58,112,62,47,60,117,58,113,62,41,47,60,117,58,97,62,32,63,121,32,46,32,125]⟩
def pL4 : List Int := txt pT4
theorem zy : gq pT4 pL4 := ⟨dk,dk,dk,dk⟩
theorem zA : dj pL4 := ⟨dk,dk⟩
theorem zB : i6 pL4 := ⟨dk,dk,dk,dk,dk,dk,dk,dk⟩
theorem zC : er pL4 := dk
theorem zD : aR pL4 2 46 (aW 4 ⟨#[117,58,112]⟩ ⟨#[117,58,113]⟩ ⟨#[117,58,97]⟩) 66 3 :=
 (.one _ _ _ _ (.one _ _ _ _ (eX (rs := pL4) (x := 47) (k := 2) (One := bD pL4 (aR pL4 1)) 46 [(.node 2 [(.leaf 0 ⟨#[117,58,112]⟩),(.leaf 0 ⟨#[117,58,113]⟩)]),(.leaf 0 ⟨#[117,58,97]⟩)] 66 2 (eW (rs := pL4) (x := 47) (One := bD pL4 (aR pL4 1)) 46 [(.node 2 [(.leaf 0 ⟨#[117,58,112]⟩),(.leaf 0 ⟨#[117,58,113]⟩)])] (.leaf 0 ⟨#[117,58,97]⟩) 60 61 66 2 1 (.one _ _ _ _ (.plain _ _ _ _ _ (mG 46 48 _ 59 60 2 dk dk (.one _ _ _ _ (.one _ _ _ _ (eX (rs := pL4) (x := 47) (k := 2) (One := bD pL4 (aR pL4 0)) 48 [(.leaf 0 ⟨#[117,58,112]⟩),(.leaf 0 ⟨#[117,58,113]⟩)] 59 1 (eW (rs := pL4) (x := 47) (One := bD pL4 (aR pL4 0)) 48 [(.leaf 0 ⟨#[117,58,112]⟩)] (.leaf 0 ⟨#[117,58,113]⟩) 53 54 59 1 1 (.one _ _ _ _ (.plain _ _ _ _ _ (.step 48 53 ⟨#[117,58,112]⟩ dk dk dk) dk)) dk dk (.plain _ _ _ _ _ (.step 54 59 ⟨#[117,58,113]⟩ dk dk dk) dk)) dk dk)) dk) dk dk) dk)) dk dk (.plain _ _ _ _ _ (.step 61 66 ⟨#[117,58,97]⟩ dk dk dk) dk)) dk dk)) dk)
theorem Cd : skip pL4 [0] 66 = pL4.length - 6 := dk
theorem wC (w : World) (hg : Sg w) : Calls prog 5 #[.string pT4] w (aI (PQo (aW 4 ⟨#[117,58,112]⟩ ⟨#[117,58,113]⟩ ⟨#[117,58,97]⟩)) w) :=
 eG pT4 pL4 zy zA zB zC de 2 _ 66 3 zD de Cd w hg
def pT5 : ByteArray := ⟨#[82,69,71,73,83,84,69,82,32,82,83,84,82,69,65,77,32,60,117,58,111,62,32,65,83,32,83,69,76,69,67,84,32,63,120,32,87,72,69,82,69,32,123,32,63,120,32,60,117,58,112,62,47,40,60,117,58,113,62,124,60,117,58,112,62,41,32,63,121,32,46,32,125]⟩
def pL5 : List Int := txt pT5
theorem zE : gq pT5 pL5 := ⟨dk,dk,dk,dk⟩
theorem zF : dj pL5 := ⟨dk,dk⟩
theorem zG : i6 pL5 := ⟨dk,dk,dk,dk,dk,dk,dk,dk⟩
theorem zH : er pL5 := dk
theorem zI : aR pL5 2 46 (aW 5 ⟨#[117,58,112]⟩ ⟨#[117,58,113]⟩ ⟨#[117,58,97]⟩) 66 3 :=
 (.one _ _ _ _ (.one _ _ _ _ (eX (rs := pL5) (x := 47) (k := 2) (One := bD pL5 (aR pL5 1)) 46 [(.leaf 0 ⟨#[117,58,112]⟩),(.node 3 [(.leaf 0 ⟨#[117,58,113]⟩),(.leaf 0 ⟨#[117,58,112]⟩)])] 66 2 (eW (rs := pL5) (x := 47) (One := bD pL5 (aR pL5 1)) 46 [(.leaf 0 ⟨#[117,58,112]⟩)] (.node 3 [(.leaf 0 ⟨#[117,58,113]⟩),(.leaf 0 ⟨#[117,58,112]⟩)]) 52 53 66 1 2 (.one _ _ _ _ (.plain _ _ _ _ _ (.step 46 52 ⟨#[117,58,112]⟩ dk dk dk) dk)) dk dk (.plain _ _ _ _ _ (mG 53 54 _ 65 66 2 dk dk (eX (rs := pL5) (x := 124) (k := 3) (One := qx pL5 (aR pL5 0)) 54 [(.leaf 0 ⟨#[117,58,113]⟩),(.leaf 0 ⟨#[117,58,112]⟩)] 65 1 (eW (rs := pL5) (x := 124) (One := qx pL5 (aR pL5 0)) 54 [(.leaf 0 ⟨#[117,58,113]⟩)] (.leaf 0 ⟨#[117,58,112]⟩) 59 60 65 1 1 (.one _ _ _ _ (.one _ _ _ _ (.one _ _ _ _ (.plain _ _ _ _ _ (.step 54 59 ⟨#[117,58,113]⟩ dk dk dk) dk)) dk)) dk dk (.one _ _ _ _ (.one _ _ _ _ (.plain _ _ _ _ _ (.step 60 65 ⟨#[117,58,112]⟩ dk dk dk) dk)) dk)) dk dk) dk dk) dk)) dk dk)) dk)
theorem Ce : skip pL5 [0] 66 = pL5.length - 6 := dk
theorem wD (w : World) (hg : Sg w) : Calls prog 5 #[.string pT5] w (aI (PQo (aW 5 ⟨#[117,58,112]⟩ ⟨#[117,58,113]⟩ ⟨#[117,58,97]⟩)) w) :=
 eG pT5 pL5 zE zF zG zH de 2 _ 66 3 zI de Ce w hg
section
theorem rH {α : Type} [DecidableEq α] : ∀ {l m : List α},l.Nodup → (∀ r,r ∈ l → r ∈ m) → l.length ≤ m.length
 | [],_,_,_ => Nat.zero_le _
 | a :: l,m,hn,hs => by
  have ha := hs a List.mem_cons_self;have := rH (l := l) (m := m.erase a) (List.nodup_cons.1 hn).2 (fun r hr => (List.mem_erase_of_ne (by rintro rfl; exact (List.nodup_cons.1 hn).1 hr)).2 (hs r (List.mem_cons_of_mem _ hr)));rw [List.length_erase_of_mem ha] at this;have h3 : 0 < m.length := List.length_pos_of_mem ha;simp only [List.length_cons];omega
def gL (E : List Edge) : List Int := E.map (·.1) ++ E.map (·.2.2)
theorem mH {x y : Int} (h : bZ kind p q a E x y) : x ∈ gL E ∧ y ∈ gL E := by
 have fst : ∀ {u n v : Int},(u,n,v) ∈ E → u ∈ gL E := fun h => List.mem_append_left _ (List.mem_map.2 ⟨_,h,rfl⟩);have snd : ∀ {u n v : Int},(u,n,v) ∈ E → v ∈ gL E := fun h => List.mem_append_right _ (List.mem_map.2 ⟨_,h,rfl⟩);unfold bZ at h;split at h
 · obtain ⟨t,h1,h2⟩ := h;exact ⟨fst h1,snd h2⟩
 · obtain ⟨t,h1,h2⟩ := h;exact ⟨fst h1,fst h2⟩
 · rcases h with h | h <;> exact ⟨fst h,snd h⟩
 · exact ⟨snd h,fst h⟩
 · obtain ⟨t,s,h1,h2,h3⟩ := h;exact ⟨fst h1,snd h3⟩
 · obtain ⟨t,h1,h2⟩ := h;rcases h2 with h2 | h2 <;> exact ⟨fst h1,snd h2⟩
theorem iE (hE : E.length ≤ 5) (R0 : List (List Int)) (hn : R0.Nodup) (hr : ∀ r ∈ R0,∃ x y,r = [x,y] ∧ bZ kind p q a E x y) : R0.length ≤ 100 := by
 have hl : (gL E).length ≤ 10 := by
  unfold gL;rw [List.length_append,List.length_map,List.length_map];omega
 have hle := rH (m := (gL E).flatMap fun x => (gL E).map fun y => [x,y]) hn (fun r hm => by
  obtain ⟨x,y,rfl,h⟩ := hr r hm;have := mH h;exact List.mem_flatMap.2 ⟨x,this.1,List.mem_map.2 ⟨y,this.2,rfl⟩⟩)
 have hc : ∀ (l : List Int) (n : Nat),(l.flatMap fun x => (gL E).map fun y => [x,y]).length = l.length * (gL E).length := fun l n => by
  induction l with
  | nil => simp
  | cons a l ih => rw [List.flatMap_cons,List.length_append,List.length_map,ih,List.length_cons,Nat.succ_mul]; omega
 rw [hc _ 0] at hle;exact Nat.le_trans hle (Nat.mul_le_mul hl hl)
theorem kX (h0 : ∀ k ∈ E,0 ≤ k.1 ∧ 0 ≤ k.2.1 ∧ 0 ≤ k.2.2) {x y : Int} (h : bZ kind p q a E x y) : 0 ≤ x ∧ 0 ≤ y := by
 have key : ∀ z ∈ gL E,0 ≤ z := fun z hz => by
  rcases List.mem_append.1 hz with hz | hz
  · obtain ⟨k,hk,rfl⟩ := List.mem_map.1 hz;exact (h0 k hk).1
  · obtain ⟨k,hk,rfl⟩ := List.mem_map.1 hz;exact (h0 k hk).2.2
 have := mH h;exact ⟨key x this.1,key y this.2⟩
def mI (kind : Nat) (p q a : Int) (E : List Edge) (R : List (List Int)) : Prop := R.Nodup ∧ ∀ r,r ∈ R ↔ ∃ x y,r = [x,y] ∧ bZ kind p q a E x y
theorem pP (Q : List (List Int) → Prop) (eb db sb : Nat) (ma : Option Nat) (x y i : ByteArray) (k : Int) (A : Option Addr) (n c : Nat) (hk : ¬ k = 0) (m : Nat) (ss : List ByteArray) (z : Array Value) (w : World) (hz : z = (gJ x y k i A n c).toArray)
    (HK : ∀ W,Fr (fun _ => False) w W → Calls prog 170 #[.pointer (some ⟨eb,0,none⟩),.agg z,fromV db sb ma] W (cS Q m ss W)) :
    Calls prog 125 #[.pointer (some ⟨eb,0,none⟩),.agg z,fromV db sb ma] w (cS Q m ss w) := by
 have z3 : z[3]? = some (.string ⟨#[]⟩) := by rw [hz]; rfl
 have z7 : z[7]? = some (.int .i64 k) := by rw [hz]; rfl
 have hN : aY 17 z := ⟨by rw [hz]; rfl,by
  rw [hz];refine all_oneCell_toArray (cs := gJ x y k i A n c) (fun u hu => ?_);unfold gJ at hu;simp only [List.mem_cons,List.not_mem_nil,or_false] at hu;rcases hu with rfl | rfl | rfl | rfl | rfl | rfl | rfl | rfl | rfl | rfl | rfl | rfl | rfl | rfl | rfl | rfl | rfl <;> rfl⟩
 have hk' : (k == 0) = false := by simpa using hk
 have HKK := Hd HK;unfold cS aQ at HKK;have hb0 : Blk ((w.alloc (.cells z 180)).alloc (.cells #[.slice none 0 0,.slice none 0 0] 47)) w.heap.size 180 z := (Blk.new w 180 z).alloc _;have hb1 : Blk ((w.alloc (.cells z 180)).alloc (.cells #[.slice none 0 0,.slice none 0 0] 47)) (w.heap.size + 1) 47 #[.slice none 0 0,.slice none 0 0] := by
  have h := Blk.new (w.alloc (.cells z 180)) 47 #[.slice none 0 0,.slice none 0 0];simpa using h
 have HB0 := Hd hb0;have HB1 := Hd hb1;have HF0 := Hd (show Fr (fun _ => False) w ((w.alloc (.cells z 180)).alloc (.cells #[.slice none 0 0,.slice none 0 0] 47)) from ((Fr.refl _ w).alloc _).alloc _);clear hz HK hb1 hk hb0;go_enter func125,ntmps125;go_wp2_with ((with_reducible change wpList _ _ _ (Oper.mk _ (.load 180 _) _ _ _ _ :: _) _ _); refine aD rfl 180 _ rfl _ rfl 180 z HB0 _ underlying180 rfl (fI hN) ?_);refine (HKK _ HF0).mono ?_;rintro e w1 ⟨R0,hq,tv,rfl,⟨OV,oc,ovr,ovals,rfl,hv,hr⟩,hf1⟩;obtain ⟨OA,oac,hor⟩ := ad hr.own;subst hor;have F1 := HF0.trans' hf1;have hbs := HB1.fr hf1 id;have f0 := hbs.frozen 0;have cc0 := hbs.c0;have HEND := Hd (di hbs (by simp; omega) hv hr F1 jj);have cc1 := HEND.1;have f12 := HEND.2.1;have HQ := Hd hq;clear hbs hv hr hf1 F1 hq;go_wp2_with fail;exact bodyPost_ret (v := .agg #[.slice OV m oc,.slice OA R0.length oac]) (results_cell_row rfl _ _ (w.heap.size + 1) 47 _ (0,0) _ rfl HEND.2.2.2.1 underlying47 rfl kr) rfl ⟨R0,HQ,HEND.2.2.2.2⟩
theorem mJ {a : PT} (ha : iH a) (hb : iH b) : iH (.node k [a,b]) := .node k [a,b] (show 2 ≤ 5000 by decide) (fun t ht => by
 simp only [List.mem_cons,List.not_mem_nil,or_false] at ht;rcases ht with rfl | rfl
 · exact ha
 · exact hb)
theorem ji {a : PT} (h : 2 ≤ k) (h6 : k ≤ 6) (ha : ia a) (hb : ia b) : ia (.node k [a,b]) := .node k [a,b] h h6 (fun t ht => by
 simp only [List.mem_cons,List.not_mem_nil,or_false] at ht;rcases ht with rfl | rfl
 · exact ha
 · exact hb)
theorem mK {Q : ByteArray → Prop} {a : PT} (ha : gK Q a) (hb : gK Q b) : gK Q (.node k [a,b]) := .node k [a,b] (fun t ht => by
 simp only [List.mem_cons,List.not_mem_nil,or_false] at ht;rcases ht with rfl | rfl
 · exact ha
 · exact hb)
theorem En (kind : Nat) (hk : kind < 6) : iH (aW kind uP uQ uA) := by
 rcases (by omega : kind = 0 ∨ kind = 1 ∨ kind = 2 ∨ kind = 3 ∨ kind = 4 ∨ kind = 5) with rfl | rfl | rfl | rfl | rfl | rfl
 · exact mJ (.leaf _ _) (.leaf _ _)
 · exact mJ (.leaf _ _) (.leaf _ _)
 · exact mJ (.leaf _ _) (.leaf _ _)
 · exact .leaf _ _
 · exact mJ (mJ (.leaf _ _) (.leaf _ _)) (.leaf _ _)
 · exact mJ (.leaf _ _) (mJ (.leaf _ _) (.leaf _ _))
theorem Cf (kind : Nat) (hk : kind < 6) : ia (aW kind uP uQ uA) := by
 have l0 : ∀ i,ia (.leaf 0 i) := fun i => .leaf 0 i (.inl rfl);have l1 : ∀ i,ia (.leaf 1 i) := fun i => .leaf 1 i (.inr rfl);rcases (by omega : kind = 0 ∨ kind = 1 ∨ kind = 2 ∨ kind = 3 ∨ kind = 4 ∨ kind = 5) with rfl | rfl | rfl | rfl | rfl | rfl
 · exact ji de de (l0 _) (l0 _)
 · exact ji de de (l0 _) (l1 _)
 · exact ji de de (l0 _) (l0 _)
 · exact l1 _
 · exact ji de de (ji de de (l0 _) (l0 _)) (l0 _)
 · exact ji de de (l0 _) (ji de de (l0 _) (l0 _))
theorem Eo (kind : Nat) (hk : kind < 6) : gK (fun i => i = uP ∨ i = uQ ∨ i = uA) (aW kind uP uQ uA) := by
 have lp : ∀ k,gK (fun i => i = uP ∨ i = uQ ∨ i = uA) (.leaf k uP) := fun k => .leaf k _ (.inl rfl);have lq : ∀ k,gK (fun i => i = uP ∨ i = uQ ∨ i = uA) (.leaf k uQ) := fun k => .leaf k _ (.inr (.inl rfl));have la : ∀ k,gK (fun i => i = uP ∨ i = uQ ∨ i = uA) (.leaf k uA) := fun k => .leaf k _ (.inr (.inr rfl));rcases (by omega : kind = 0 ∨ kind = 1 ∨ kind = 2 ∨ kind = 3 ∨ kind = 4 ∨ kind = 5) with rfl | rfl | rfl | rfl | rfl | rfl
 · exact mK (lp _) (lq _)
 · exact mK (lp _) (lp _)
 · exact mK (lp _) (lq _)
 · exact la _
 · exact mK (mK (lp _) (lq _)) (la _)
 · exact mK (lp _) (mK (lq _) (lp _))
theorem Cg (hk : kind < 6) {k : Int} {i : ByteArray} {A : Option Addr} {n c : Nat} (h : PAt 174 w B (aW kind uP uQ uA) [.int .i64 k,.string i,.slice A n c]) : ¬ k = 0 := by
 rcases (by omega : kind = 0 ∨ kind = 1 ∨ kind = 2 ∨ kind = 3 ∨ kind = 4 ∨ kind = 5) with rfl | rfl | rfl | rfl | rfl | rfl
 all_goals (unfold aW at h; cases h; decide)
section
variable (db rd sb : Nat) (ma : Option Nat) (vt : Value) (ts : List Tm) (r : Nat → Value) (ls : Nat → List Edge)
theorem oA (h0 : ∀ k ∈ ls 0,0 ≤ k.1 ∧ 0 ≤ k.2.1 ∧ 0 ≤ k.2.2) (h : mI kind p q a (ls 0) R) : b7 2 R := fun x hx => by
 obtain ⟨u,v,rfl,hr⟩ := (h.2 x).1 hx;have := kX h0 hr;exact ⟨rfl,fun n hn => by simp at hn; omega⟩
theorem wE (kind : Nat) (hk : kind < 6) (eb : Nat) (w : World) (cs : List Value) (V : Option Addr) (c : Nat) (vr : Value) (hD : Dat w db rd sb vt ts r ls) (hE : Blk w eb 95 #[.pointer (some ⟨db,0,none⟩),.pointer (some ⟨sb,0,none⟩),.map ma,.int .i64 0]) (hP : cC (aW kind uP uQ uA) vX vY w 0 cs) (h17 : cs.length = 17) (hT : aL w 0 0 (.agg #[.slice V 0 c,vr]) [] [[]]) :
    Calls prog 72 #[.pointer (some ⟨eb,0,none⟩),.agg #[.slice V 0 c,vr],.agg cs.toArray,fromV db sb ma] w (cS (mI kind (af ts uP) (af ts uQ) (af ts uA) (ls 0)) 2 [vX,vY] w) := by
 have hN := (dZ _ _ _ _ _ _ hP h17).2;obtain ⟨k,i,A,n,cc,rfl,hpa⟩ := hP;obtain ⟨vals,hv,hr⟩ := aX hT;obtain ⟨A1,c1,e1⟩ := ad hr.own;have hfew : ∀ R,mI kind (af ts uP) (af ts uQ) (af ts uA) (ls 0) R → R.length ≤ 100 := fun R h => iE (hD.ll 0 de) R h.1 (fun r hr => (h.2 r).1 hr);have hs := yX hD.pos;refine kE eb db sb ma 0 c 2 2 V vr [vX,vY] [vX,vY] (mI kind (af ts uP) (af ts uQ) (af ts uA) (ls 0)) _ _ _ _ _ w hE hN rfl ⟨A1,_,c1,e1⟩ (fun W hf => ?_) (fun R hR => Nat.le_trans (hfew R hR) de) ?_
 · refine pP _ eb db sb ma vX vY i k A n cc (Cg hk hpa) 2 [vX,vY] _ W rfl fun W2 hf2 => ?_;have hDW := (hD.frF hf).frF hf2;have h := yO eb db sb ma 0 rd vt ts 65536 0 r ls 100 kind hk uP uQ uA (fun i hi => by rcases hi with rfl | rfl | rfl; exact cX.1; exact cX.2.1; exact cX.2.2) ⟨kW _,kW _,kW _⟩ (En kind hk) (Cf kind hk) (Eo kind hk) vX vY i k A n cc 0 _ W2 rfl
    ((hpa.fr hf (fun _ _ _ _ h => h)).fr hf2 (fun _ _ _ _ h => h)) (hDW.ev ((hE.fr hf id).fr hf2 id)) (by rw [hs]; exact Nat.le_trans (hD.ll 0 de) de) (by rw [hs]; exact (hD.st.srt 0 de).nodup) (by rw [hs]; exact hD.pos)
    (fun R0 hn hr => by rw [hs] at hr; exact Nat.le_trans (iE (hD.ll 0 de) R0 hn hr) de) (fun a b hr => by rw [hs] at hr; exact kX hD.pos hr) rfl de de uM.vars de
   rw [hs] at h;exact h.mono (fun e w' ⟨R0,h1,h2,h3⟩ => ⟨R0,⟨h2,h3⟩,h1⟩)
 · rintro W V2 c2 vr2 R2 hf hq hT2;have hrn := oA ls hD.pos hq;have hb : ∀ x ∈ R2,x.length = 2 ∧ ∀ n ∈ x,-1 ≤ n := fun x hx => ⟨(hrn x hx).1,fun n hn => by have := (hrn x hx).2 n hn; omega⟩;have hl := hfew R2 hq;have hj := km (sa := []) (ra := [[]]) (rb := R2) jv2 (show [vX,vY].length = 2 from rfl) (fun x hx => by rw [List.mem_singleton.1 hx]; exact ⟨rfl,fun n hn => by cases hn⟩) hb de jj (by simp only [List.length_singleton]; omega) hE hT W V2 c2 vr2 R2 hf rfl hT2;rw [iD ⟨vX,vY,rfl,by decide⟩ hb] at hj;exact hj.mono (fun e w' ⟨R,h1,h2⟩ => ⟨R,by rw [h1]; exact hq,h2⟩)
theorem tE (kind : Nat) (hk : kind < 6) (eb : Nat) (v : Value) (w : World) (hD : Dat w db rd sb vt ts r ls) (hE : Blk w eb 95 #[.pointer (some ⟨db,0,none⟩),.pointer (some ⟨sb,0,none⟩),.map ma,.int .i64 0]) (hG : aH [cC (aW kind uP uQ uA) vX vY] w 0 v) :
    Calls prog 26 #[.pointer (some ⟨eb,0,none⟩),.agg #[v],fromV db sb ma] w (cS (mI kind (af ts uP) (af ts uQ) (af ts uA) (ls 0)) 2 [vX,vY] w) := by
 obtain ⟨A,c,css,rfl,hl,hr,hi⟩ := hG;have hP : ∀ (i : Nat) (cs : List Value),css[i]? = some cs → i = 0 ∧ cs.length = 17 ∧ cC (aW kind uP uQ uA) vX vY w 0 cs := fun i cs hcs => by
  have hlt : i < 1 := by
   have := (List.getElem?_eq_some_iff.1 hcs).1;have h1 : css.length = 1 := hl;omega
  obtain rfl : i = 0 := jj;exact ⟨rfl,hi 0 _ cs rfl hcs⟩
 have hall : ∀ l ∈ css,l.length = 17 ∧ (∃ kk : Int,l[0]? = some (.int .i64 kk) ∧ ¬ kk = 1) ∧ aY 17 l.toArray := fun l hml => by
  obtain ⟨i,hil⟩ := List.getElem?_of_mem hml;obtain ⟨_,h17,hp⟩ := hP i l hil;exact ⟨h17,dZ _ _ _ w 0 l hp h17⟩
 have h := uG eb db sb ma A 1 c 0 css (fun i => if i = 0 then 0 else 2) (fun i => if i = 0 then [] else [vX,vY]) (fun i R => if i = 0 then R = [[]] else mI kind (af ts uP) (af ts uQ) (af ts uA) (ls 0) R) _ _ _ w hE de ⟨hl,hr,fun l hml => ⟨(hall l hml).1,(hall l hml).2.1⟩⟩ (fun l hml => (hall l hml).2.2) ⟨rfl,rfl,rfl⟩ (show 0 < 2 by decide) (show 2 ≤ 9 by decide) (fun R hR => by
     have hR : mI kind (af ts uP) (af ts uQ) (af ts uA) (ls 0) R := hR;exact ⟨Nat.le_trans (iE (hD.ll 0 de) R hR.1 (fun r hr => (hR.2 r).1 hr)) de,fun k hk => ((oA ls hD.pos hR) _ (eA hk)).1⟩)
  (fun i l hil W V cV vr R hf hq hT => by
   obtain ⟨rfl,h17,hp⟩ := hP i l hil;have hq : R = [[]] := hq;subst hq;exact wE db rd sb ma vt ts r ls kind hk eb W l V cV vr (hD.frF hf) (hE.fr hf id) ((aF _ _ _).low hp (hf.mono uu)) h17 hT)
 exact h
end
end
theorem zJ (room : Int) (w : World) (h1 : 1 ≤ room) (h2 : room ≤ 100000) :
    Calls prog 14 #[.int .i64 room] w fun e w' => e = .returned (.tuple #[.pointer (some ⟨w.heap.size,0,none⟩),.int .i64 0]) ∧ Blk w' w.heap.size 118 #[.slice none 0 0,.slice none 0 0,.slice none 0 0,.int .i64 room] ∧ Fr (fun _ => False) w w' := by
 go_enter func14,ntmps14;go_wp2_with fail;go_ret2;exact ⟨rfl,Blk.new _ _ _,(Fr.refl _ _).alloc _⟩
theorem zK (w : World) : (Instr.makeMap 39 none).run prog w = .ok (.map (some w.heap.size)) (w.alloc (.map #[] 0)) := rfl
def zL (w : World) (e : Ending) (w' : World) : Prop :=
 ∃ (db rd sb mm : Nat) (vt x : Value) (ts : List Tm) (r : Nat → Value) (ls : Nat → List Edge) (os : List D3),
  e = .returned (.tuple #[.agg #[.pointer (some ⟨db,0,none⟩),.pointer (some ⟨sb,0,none⟩),.map (some mm)],x]) ∧ fL w w' db rd sb 15 5 vt ts r ls x os
theorem br.blk_ne {room : Int} (h : br w sb B r ls room) (hb : Blk w g t cs) (h1 : t ≠ 118) (h2 : 71 ≠ t) : ¬ SK sb r g := fun hk => by
 rcases hk with rfl | ⟨o,ho,hk⟩
 · have h3 := h.blk;unfold Blk at hb h3;rw [hb] at h3;injection h3 with h3;injection h3 with _ h3 _;exact h1 h3
 · exact ac (h.row o ho) hb h2 hk
theorem Ci {d : D3} (h : d.fits) (hok : d.ok = true) : (∀ k,(bY (d.at k)).short) ∧ (∀ k,(bY (d.at k)).good = true) ∧ (bY (d.at 0)).kind < 2 ∧ (bY (d.at 1)).kind = 1 := by
 obtain ⟨da,db,dc⟩ := d;obtain ⟨ha,hb,hc⟩ := h;unfold D3.ok at hok;simp only [Bool.and_eq_true,decide_eq_true_eq,beq_iff_eq] at hok;obtain ⟨ga,ka,gb,kb,gc⟩ := hok;dsimp only at ha hb hc ga ka gb kb gc;have sh : ∀ x : DT,x.fits → (bY x).short := fun x hx => by
  unfold bY;split
  · exact hx.2.2.1
  · split
    · exact hx.2.2.1
    · exact ⟨hx.2.2.1,hx.2.2.2.1,hx.2.2.2.2⟩
 have gd : ∀ x : DT,x.fits → gT x = true → (bY x).good = true := fun x hx hg => Ap x hx.1 hx.2.1 hg;refine ⟨fun k => ?_,fun k => ?_,?_,?_⟩
 · unfold D3.at;split
   · exact sh _ ha
   · split
     · exact sh _ hb
     · exact sh _ hc
 · unfold D3.at;split
   · exact gd _ ha ga
   · split
     · exact gd _ hb gb
     · exact gd _ hc gc
 · show (bY da).kind < 2;have := ha.1;unfold bY;split
   · exact (by decide : (0 : Int) < 2)
   · rw [if_pos jj];exact (by decide : (1 : Int) < 2)
 · show (bY db).kind = 1;unfold bY;rw [if_neg jj,if_pos kb];rfl
theorem fL.blkS {wr w' : World} {db rd nt nt' i i' : Nat} {vt v : Value} {ts : List Tm} {os : List D3} (h : fL w wr db rd sb nt i vt ts r ls v os) (hb : Blk wr g t cs) (n1 : t ≠ 114) (n2 : 75 ≠ t) (n3 : t ≠ 118) (n4 : 71 ≠ t) (n5 : 69 ≠ t) (hg : w.heap.size ≤ g) (hf : Fr (fun j => j = g) wr w') (h1 : nt ≤ nt') (h2 : i ≤ i') : fL w w' db rd sb nt' i' vt ts r ls v os := by
 have a1 := h.dict.farB hb n1 n2;have a2 := h.st.blk_ne hb n3 n4;exact ⟨h.dict.fr hf (fun e => a1 (.inl e.symm)) (fun e => a1 (.inr (.inl e.symm))) (fun k hk e => a1 (.inr (.inr (by rw [← e]; exact hk)))),h.st.frS hf (fun e => a2 (.inl e.symm)) (fun o ho k hk e => a2 (.inr ⟨o,ho,by rw [← e]; exact hk⟩)),aa h.out hf (fun k hk e => ac h.out hb n5 (by rw [hk,e])),
  Nat.le_trans h.tl h1,fun o ho => Nat.le_trans (h.ll o ho) h2,h.same,h.num,Nat.le_trans h.ol h2,h.sbw,h.fr.trans hf (fun j _ e => by omega)⟩
theorem zM (A : Option Addr) (c Bz : Nat) (zs : List D3) (w : World) (hP : Pl w) (h1w : 1 < w.heap.size) (hz : mD w Bz (.slice A zs.length c) zs) (hn : zs.length ≤ 5) (hok : ∀ d ∈ zs,d.fits ∧ d.ok = true) :
    Calls prog 6 #[.slice A zs.length c,.slice none 0 0] w (zL w) := by
 obtain ⟨i69,hi69,hz690,hz691,hz692⟩ := info_parts pN;have HD := Hd (fun w => p9 65536 w de de);have HS := Hd (fun w => zJ 100 w de de);have HZ := Hd hz;have HPL := Hd hP;have HOK := Hd hok;obtain ⟨n,hnn⟩ : ∃ n,n = zs.length := ⟨_,rfl⟩;have HN := Hd hnn;rw [← hnn] at hn ⊢;clear hz hP hok hnn;go_enter func6,ntmps6;go_wp2_with fail;refine (HD _).mono ?_;rintro e w1 ⟨rfl,hd1,hf1⟩;have hw1 : Fr (fun _ => False) w w1 := ((Fr.refl _ w).alloc _).trans' hf1;have hr41 := (Blk.new w 41 #[.pointer none,.pointer none,.map none]).fr hf1 id;have HD1 := Hd hd1;have HW1 := Hd hw1;have HR41 := Hd hr41;have hsz0 := al1 w (.cells #[.pointer none,.pointer none,.map none] 41);rw [hsz0] at HD1;clear hd1 hf1 hw1 hr41 hsz0;go_wp2_with fail;refine (HS _).mono ?_;rintro e w2 ⟨rfl,hb2,hf2⟩;have hd2 := HD1.frF hf2;have hs12 := HW1.size;have hres := HR41.fr hf2 id;have HST := Hd (show fL w w2 (w.heap.size + 1 + 1) (w.heap.size + 1) w1.heap.size (3 * 0) 0 (.slice none 0 0) [] (fun _ => .slice none 0 0) (fun _ => []) (.slice none 0 0) [] from
  ⟨⟨hd2.blk,World.ownsRow_nil _ _ _ _,hd2.map,by omega,by omega⟩,⟨hb2,fun o ho => World.ownsRow_nil _ _ _ _,fun o ho => List.Pairwise.nil,fun o ho => Nat.zero_le _,fun o p k ho hp h e => by cases e⟩,World.ownsRow_nil _ _ _ _,Nat.le_refl _,fun o ho => Nat.le_refl _,fun o ho e => Iff.rfl,fun e he => absurd he (by simp),Nat.le_refl _,hs12,(HW1.trans' hf2).mono uu⟩)
 have HRES := Hd hres;clear hd2 hs12 hres hb2 hf2;go_wp2_with fail;generalize w1.heap.size = sb at *;clear HD HS HD1 HR41;generalize hdb : w.heap.size + 1 + 1 = db at *;generalize hrd : w.heap.size + 1 = rd at *;clear hdb hrd
 go_loopw [10,34] (fun v iv wr => ∃ (i : Nat) (vt : Value) (ts : List Tm) (r : Nat → Value) (ls : Nat → List Edge) (os : List D3),iv = .int .i64 (i : Int) ∧ i ≤ n ∧ fL w wr db rd sb (3 * i) i vt ts r ls v os ∧ Blk wr w.heap.size 41 #[.pointer none,.pointer none,.map none]) (fun _ iv _ => n - (intOf iv).toNat)
 case atStart => exact ⟨0,_,_,_,_,_,rfl,Nat.zero_le _,HST,HRES⟩
 case round =>
  obtain ⟨i,vt,ts,r,ls,os,rfl,hi,hI,hres⟩ := hrel;obtain ⟨AO,co,hvo⟩ := ad hI.out;subst hvo;have HI := Hd hI;have HRE := Hd hres;by_cases hlt : i < n
  · have hlt' : (i : Int) < (n : Int) := jj;have hmw := aa HZ.out hI.fr (fun k hk h => by have := cU HZ (k := k) hk; omega);obtain ⟨g,rfl,_,hgl,_⟩ := ar hmw (by rw [← HN.out]; omega);obtain ⟨d,hd⟩ : ∃ d,zs[i]? = some d := ⟨_,List.getElem?_eq_getElem (by rw [← HN.out]; exact hlt)⟩;have hr := ox hmw hd;have hdo := HOK.out d (List.mem_of_getElem? hd);obtain ⟨q1,q2,q3,q4⟩ := Ci hdo.1 hdo.2;have HREAL := Hd (fun w => (show Calls prog 19 #[.agg d.cells] w fun e w' => e = .returned (.agg #[(bY (d.at 0)).val,(bY (d.at 1)).val,(bY (d.at 2)).val]) ∧ Fr (fun _ => False) w w' from yS d w hdo.1.1 hdo.1.2.1 hdo.1.2.2));have hts := hI.tl;have HKEY := Hd (fun W (h : aU W w.heap.size db rd vt ts 65536) (hB : w.heap.size ≤ W.heap.size) => B4 (fun k => bY (d.at k)) w.heap.size db rd vt ts 65536 W h hB q1 q2 q3 q4 jj de);have hkn := fun k hk => B7 (fun k => bY (d.at k)) ts 65536 q2 jj k hk;have hkl := kV (fun k => bY (d.at k)) ts 65536 3;have hkg : ts.length ≤ (e7 (fun k => bY (d.at k)) ts 65536 3).length := pO (fun k => bY (d.at k)) ts 65536 0 3 de;unfold pM at HKEY;have hO : tA (fun k => bY (d.at k)) ts 65536 3 = #[.int .i64 (eV (fun k => bY (d.at k)) ts 65536 0),.int .i64 (eV (fun k => bY (d.at k)) ts 65536 1),.int .i64 (eV (fun k => bY (d.at k)) ts 65536 2)] := rfl;rw [hO] at HKEY;have k0 := hkn 0 de;have k1 := hkn 1 de;have k2 := hkn 2 de;generalize eV (fun k => bY (d.at k)) ts 65536 0 = n0 at *;generalize eV (fun k => bY (d.at k)) ts 65536 1 = n1 at *;generalize eV (fun k => bY (d.at k)) ts 65536 2 = n2 at *;generalize e7 (fun k => bY (d.at k)) ts 65536 3 = ts' at *;have HK := Hd (show (0 ≤ n0 ∧ 0 ≤ n1 ∧ 0 ≤ n2) ∧ (n0 < ts'.length ∧ n1 < ts'.length ∧ n2 < ts'.length) ∧ ts.length ≤ ts'.length ∧ ts'.length ≤ 3 * (i + 1) from ⟨⟨k0.1,k1.1,k2.1⟩,⟨k0.2,k1.2,k2.2⟩,hkg,by omega⟩)
    try dsimp only at HREAL
    try dsimp only at HKEY
    generalize (bY (d.at 0)).val = t0 at *;generalize (bY (d.at 1)).val = t1 at *;generalize (bY (d.at 2)).val = t2 at *;clear hO hkn hkl hkg k0 k1 k2 q1 q2 q3 q4 hdo hts;obtain ⟨⟨ka,a1,a2,a3⟩,⟨kb,b1,b2,b3⟩,⟨kc,c1,c2,c3⟩⟩ := d;have HR := Hd (show wr.rangeAt g (i * 12) [.int .i64 ka,.string a1,.string a2,.string a3,.int .i64 kb,.string b1,.string b2,.string b3,.int .i64 kc,.string c1,.string c2,.string c3] from hr);unfold D3.cells at HREAL
    try dsimp only at HREAL
    clear hI hres hr hmw hd;go_wp2_with (refine wpList_load_mid rfl 69 _ rfl g (i * 12) rfl _ _ HR.out underlying69 rfl mE ?_);refine (HREAL _).mono ?_;rintro e w3 ⟨rfl,hf3⟩;have hb3 := (Blk.new wr 69 #[.int .i64 ka,.string a1,.string a2,.string a3,.int .i64 kb,.string b1,.string b2,.string b3,.int .i64 kc,.string c1,.string c2,.string c3]).fr hf3 id;have F3 : Fr (fun _ => False) wr w3 := ((Fr.refl _ wr).alloc _).trans' hf3;have HB3 := Hd hb3;have HI3 := Hd (HI.frF F3);have HE3 := Hd (HRE.fr F3 id);clear hf3 hb3 F3;go_wp2_with fail;refine (HKEY.out w3 HI3.dict HI3.fr.size).mono ?_;rintro e w4 ⟨vt4,rfl,hd4,hfar4,hf4⟩;have HI4 := Hd ((HI3.key hd4 hf4 HK.2.2.1 HK.2.2.2).frF ((Fr.refl (fun _ => False) w4).alloc (.cells #[.int .i64 n0,.int .i64 n1,.int .i64 n2] 71)));have HB4 := Hd ((HB3.fr hf4 (HI3.dict.farB HB3.out de de)).alloc (.cells #[.int .i64 n0,.int .i64 n1,.int .i64 n2] 71));have HE4 := Hd ((HE3.fr hf4 (HI3.dict.farB HE3.out de de)).alloc (.cells #[.int .i64 n0,.int .i64 n1,.int .i64 n2] 71));clear hd4 hfar4 hf4;go_wp2_with fail;have hpl : Pl (w4.alloc (.cells #[.int .i64 n0,.int .i64 n1,.int .i64 n2] 71)) := HPL.fr HI4.fr (fun h => by omega);by_cases hk : ((n0,n1,n2) : Edge) ∈ ls 0
    · have HADD := Hd (qI (n0,n1,n2) HK.1 sb w.heap.size r ls 100 _ hpl HI4.st hk);rw [eh] at HADD;clear hpl hk;refine HADD.mono ?_;rintro e w5 ⟨rfl,hf5⟩;have HI5 := Hd (HI4.frF hf5);have HE5 := Hd (HE4.fr hf5 id);clear hf5;go_wp2_with fail;go_roundw
      case rel => exact ⟨i + 1,_,_,_,_,_,by go_num,by omega,HI5.skip,HE5⟩
      case measure => simp only [intOf]; omega
    · have hl0 := HI4.ll 0 de;have HADD := Hd (vE (n0,n1,n2) HK.1 sb w.heap.size r ls 100 _ hpl (by have := HI4.sbw; omega) HI4.st ⟨h1w,HI4.fr.size⟩ (fun o ho h => hk ((HI4.same o ho _).1 h)) jj (fun o ho => by have := HI4.ll o ho; omega));rw [eh] at HADD;clear hpl hk hl0;refine HADD.mono ?_;rintro e w5 ⟨rfl,ha5⟩;have hf5 := ha5;obtain ⟨r5,hI5⟩ := HI4.add ha5 HK.1 HK.2.1;obtain ⟨_,_,hff5,_⟩ := hf5;have hb5 := HB4.fr hff5 (HI4.st.blk_ne HB4.out de de);have HE5 := Hd (HE4.fr hff5 (HI4.st.blk_ne HE4.out de de));obtain ⟨⟨y0,y1,y2,y3⟩,⟨y4,y5,y6,y7⟩,⟨y8,y9,y10,y11⟩⟩ := iB hb5;have FN := Fr.a1 w5 (.cells #[.int .i64 ka,.string a1,.string a2,.string a3,.int .i64 kb,.string b1,.string b2,.string b3,.int .i64 kc,.string c1,.string c2,.string c3] 69);have hnew : (w5.alloc (.cells #[.int .i64 ka,.string a1,.string a2,.string a3,.int .i64 kb,.string b1,.string b2,.string b3,.int .i64 kc,.string c1,.string c2,.string c3] 69)).ownsRow w5.heap.size 69 12 (.slice (some ⟨w5.heap.size,0,none⟩) 1 1) 1 (#[.int .i64 ka,.string a1,.string a2,.string a3,.int .i64 kb,.string b1,.string b2,.string b3,.int .i64 kc,.string c1,.string c2,.string c3] : Array Value).toList := ⟨rfl,.inr ⟨w5.heap.size,1,#[.int .i64 ka,.string a1,.string a2,.string a3,.int .i64 kb,.string b1,.string b2,.string b3,.int .i64 kc,.string c1,.string c2,.string c3],rfl,Nat.le_refl _,Blk.new w5 69 _,Nat.le_refl _,by decide,rfl,rfl⟩⟩;have hI6 := hI5.frF FN;have hol := HI.ol;obtain ⟨v6,w6,hrun,hown6,hgr6⟩ := bu 22 22 69 i69 _ 12 _ underlying22 hi69 hz690 hz691 hz692 rfl de w.heap.size os.length 1 _ _ _ _ _ hI6.out hnew (yU ⟨⟨ka,a1,a2,a3⟩,⟨kb,b1,b2,b3⟩,⟨kc,c1,c2,c3⟩⟩) (by unfold maxLen; omega) jj hI6.fr.size;have HI7 := Hd (hI6.push (d := ⟨⟨ka,a1,a2,a3⟩,⟨kb,b1,b2,b3⟩,⟨kc,c1,c2,c3⟩⟩) (show mD w6 w.heap.size v6 _ by unfold mD; rw [List.length_append,List.flatMap_append]; exact hown6) hgr6 jj);have HE7 := Hd ((HE5.fr FN id).fr (Fr.of_grown hgr6) (fun h => ac hI6.out (HE5.fr FN id) de h));clear hI5 hI6 hff5 ha5 hb5 FN hnew hown6 hgr6 hol;go_wp2_with (at_builtin; refine Lib.wpList_append_run _ rfl _ _ _ _ rfl _ _ rfl rfl _ _ hrun ?_);clear hrun;go_roundw
      case rel => exact ⟨i + 1,_,_,_,_,_,by go_num,by omega,HI7,HE7⟩
      case measure => simp only [intOf]; omega
  · have hlt' : ¬ (i : Int) < (n : Int) := jj;obtain ⟨wo,hwo⟩ : ∃ wo,wo = wr := ⟨wr,rfl⟩;subst hwo;have hmk := fun w => zK w;have FM := Fr.a2 wo (.map #[] 0) (.cells #[.pointer (some ⟨db,0,none⟩),.pointer (some ⟨sb,0,none⟩),.map (some wo.heap.size)] 41);have HI5 := Hd (hI.frF FM);have hre5 := hres.fr FM id;have HRE5 := Hd hre5;have hnew := Blk.new (wo.alloc (.map #[] 0)) 41 #[.pointer (some ⟨db,0,none⟩),.pointer (some ⟨sb,0,none⟩),.map (some wo.heap.size)];rw [show (wo.alloc (.map #[] 0)).heap.size = wo.heap.size + 1 by simp] at hnew;have HNEW := Hd hnew;clear hI hres FM hre5 hnew;go_wp2_with fail;generalize hWM : (wo.alloc (.map #[] 0)).alloc (.cells #[.pointer (some ⟨db,0,none⟩),.pointer (some ⟨sb,0,none⟩),.map (some wo.heap.size)] 41) = WM at *
    go_loopw [60] (fun iv wx => iv = .int .i64 0 ∧ wx = WM) (fun _ _ => 0)
    case atStart => exact ⟨rfl,rfl⟩
    case round =>
     obtain ⟨rfl,rfl⟩ := hrel;have n0 := HNEW.c0;have n1 := HNEW.c1;have n2 := HNEW.c2;have hbs := HRE5.out;have f0 := hbs.frozen 0;have cc0 := hbs.c0;have hb1 := hbs.set_ 0 (.pointer (some ⟨db,0,none⟩));have d1 := hb1.cell 1;have g1 := hb1.frozen 1;have hb2 := hb1.set_ 1 (.pointer (some ⟨sb,0,none⟩));have d2 := hb2.cell 2;have g2 := hb2.frozen 2;have hb3 := hb2.set_ 2 (.map (some wo.heap.size));have FS : Fr (fun j => j = w.heap.size) wr (((wr.setCell ⟨w.heap.size,0,none⟩ (.pointer (some ⟨db,0,none⟩))).setCell ⟨w.heap.size,1,none⟩ (.pointer (some ⟨sb,0,none⟩))).setCell ⟨w.heap.size,2,none⟩ (.map (some wo.heap.size))) := (((Fr.refl (fun j => j = w.heap.size) wr).setCell ⟨w.heap.size,0,none⟩ (fun _ => rfl) _).setCell ⟨w.heap.size,1,none⟩ (fun _ => rfl) _).setCell ⟨w.heap.size,2,none⟩ (fun _ => rfl) _;have HEND := Hd (HI5.blkS hbs de de de de de (Nat.le_refl _) FS (show 3 * i ≤ 15 by omega) (show i ≤ 5 by omega));have HB3 := Hd hb3;clear hbs hb1 hb2 hb3 FS;go_wp2_with fail;exact bodyPost_ret (v := .tuple #[.agg #[.pointer (some ⟨db,0,none⟩),.pointer (some ⟨sb,0,none⟩),.map (some wo.heap.size)],.slice AO os.length co]) (gE rfl _ _ w.heap.size 41 _ (0,0) _ rfl HB3.out underlying41 rfl kr _ rfl) rfl ⟨db,rd,sb,wo.heap.size,vt,_,ts,r,ls,os,rfl,HEND⟩
section
theorem tF (w : World) : Calls prog 4 #[] w (IsB true w) := by
 have HD := Hd (fun w => p9 5 w de de);have HS := Hd (fun w => wQ 5 w de de);have HE := Hd (fun d s w => Fq d s w);go_enter func4,ntmps4;go_wp2_with fail;refine (HD _).mono ?_;rintro e w1 ⟨rfl,_,hf1⟩;go_wp2_with fail;refine (HS _).mono ?_;rintro e w2 ⟨rfl,hf2⟩;go_wp2_with fail;refine (HE _ _ _).mono ?_;rintro e w3 ⟨vr,vals,rfl,hr,hf3⟩;obtain ⟨A,c,hv⟩ := ad hr.own;subst hv;rw [show ([[]] : List (List Int)).length = 1 from rfl];go_wp2_with fail;go_ret;exact ⟨rfl,((hf1.trans' hf2).trans' hf3).alloc _⟩
def gPK (kind : Nat) : List (World → Nat → List Value → Prop) := match kind with | 0 => gP0 | 1 => gP1 | 2 => gP2 | 3 => gP3 | 4 => gP4 | _ => gP5
theorem Cj (kind : Nat) (hk : kind < 6) : ∀ P ∈ gPK kind,cO P := by
 rcases (by omega : kind = 0 ∨ kind = 1 ∨ kind = 2 ∨ kind = 3 ∨ kind = 4 ∨ kind = 5) with rfl | rfl | rfl | rfl | rfl | rfl
 · exact sP
 · exact sQ
 · exact sR
 · exact sS
 · exact sT
 · exact sV
section
variable (db rd sb : Nat) (ma : Option Nat) (vt : Value) (ts : List Tm) (r : Nat → Value) (ls : Nat → List Edge)
theorem rI (kind : Nat) (hk : kind < 6) (eb : Nat) (v : Value) (w : World) (hD : Dat w db rd sb vt ts r ls) (hE : Blk w eb 95 #[.pointer (some ⟨db,0,none⟩),.pointer (some ⟨sb,0,none⟩),.map ma,.int .i64 0]) (hG : aH (gPK kind) w 0 v) :
    Calls prog 26 #[.pointer (some ⟨eb,0,none⟩),.agg #[v],fromV db sb ma] w (cS (fun R => R = cM vS vT vX vY kind (au ts ls) (af ts uP) (af ts uQ) (af ts uA)) (bR vS vT vX vY kind).length (bR vS vT vX vY kind) w) := by
 rcases (by omega : kind = 0 ∨ kind = 1 ∨ kind = 2 ∨ kind = 3 ∨ kind = 4 ∨ kind = 5) with rfl | rfl | rfl | rfl | rfl | rfl
 · exact Eh db rd sb ma vt ts r ls eb v w hD hE hG
 · exact Ei db rd sb ma vt ts r ls eb v w hD hE hG
 · exact Ej db rd sb ma vt ts r ls eb v w hD hE hG
 · exact Ek db rd sb ma vt ts r ls eb v w hD hE hG
 · exact El db rd sb ma vt ts r ls eb v w hD hE hG
 · exact Em db rd sb ma vt ts r ls eb v w hD hE hG
theorem tG (hD : Dat w db rd sb vt ts r ls) (kind : Nat) (hk : kind < 6) : (cM vS vT vX vY kind (au ts ls) (af ts uP) (af ts uQ) (af ts uA)).length ≤ 125 ∧ ∀ x ∈ cM vS vT vX vY kind (au ts ls) (af ts uP) (af ts uQ) (af ts uA),x.length = (bR vS vT vX vY kind).length ∧ ∀ n ∈ x,-1 ≤ n := by
 have tl := jS db rd sb vt ts r ls hD;have tr := il db rd sb vt ts r ls hD;have app : ∀ (a b : List (List Int)),(∀ x ∈ a,x.length = 2 ∧ ∀ n ∈ x,-1 ≤ n) → (∀ x ∈ b,x.length = 2 ∧ ∀ n ∈ x,-1 ≤ n) → ∀ x ∈ a ++ b,x.length = 2 ∧ ∀ n ∈ x,-1 ≤ n := fun a b ha hb x hx => (List.mem_append.1 hx).elim (ha x) (hb x);have al : ∀ (a b : List (List Int)),a.length ≤ 5 → b.length ≤ 5 → (a ++ b).length ≤ 10 := fun a b ha hb => by rw [List.length_append]; omega
 rcases (by omega : kind = 0 ∨ kind = 1 ∨ kind = 2 ∨ kind = 3 ∨ kind = 4 ∨ kind = 5) with rfl | rfl | rfl | rfl | rfl | rfl
 · exact ⟨Nat.le_trans cN (Nat.le_trans (Nat.mul_le_mul (tl _ _) (tl _ _)) de),cB (fun x hx => (tr true uP x hx).2)⟩
 · exact ⟨Nat.le_trans cN (Nat.le_trans (Nat.mul_le_mul (tl _ _) (tl _ _)) de),cB (fun x hx => (tr true uP x hx).2)⟩
 · exact ⟨Nat.le_trans (al _ _ (tl _ _) (tl _ _)) de,app _ _ (tr false uP) (tr false uQ)⟩
 · exact ⟨Nat.le_trans (tl _ _) de,tr true uA⟩
 · exact ⟨Nat.le_trans cN (Nat.le_trans (Nat.mul_le_mul (Nat.le_trans cN (Nat.mul_le_mul (tl _ _) (tl _ _))) (tl _ _)) de),cB (fun x hx => (cB (fun x hx => (tr true uP x hx).2) x hx).2)⟩
 · exact ⟨Nat.le_trans cN (Nat.le_trans (Nat.mul_le_mul (tl _ _) (al _ _ (tl _ _) (tl _ _))) de),cB (fun x hx => (tr true uP x hx).2)⟩
end
end
section
def kY (ss : List ByteArray) : Bool := (List.range (ss.length - 1)).all fun k => Op.bytesLess (ss.getD k ByteArray.empty).toList (ss.getD (k + 1) ByteArray.empty).toList
theorem wF (h : kY ss = true) {m : Nat} (hm : ss.length = m) : ∀ k,k + 1 < m → Op.bytesLess (ss.getD k ByteArray.empty).toList (ss.getD (k + 1) ByteArray.empty).toList = true := fun k hk => by
 unfold kY at h;rw [List.all_eq_true] at h;exact h k (List.mem_range.2 jj)
theorem rJ (kind : Nat) (hk : kind < 6) : kY (bR vS vT vX vY kind) = true ∧ (bR vS vT vX vY kind).length ≤ 4 ∧ gF (bR vS vT vX vY kind) [vX,vY] = true := by
 rcases (by omega : kind = 0 ∨ kind = 1 ∨ kind = 2 ∨ kind = 3 ∨ kind = 4 ∨ kind = 5) with rfl | rfl | rfl | rfl | rfl | rfl
 all_goals exact ⟨by decide +kernel,by decide,by decide +kernel⟩
theorem rK (hm : ss.length = m) (hm9 : m ≤ 9) (hs : kY ss = true) (hR : R.length ≤ 4096) (hr : ∀ x ∈ R,x.length = m ∧ ∀ n ∈ x,-1 ≤ n) (hT : aL w 0 m (.agg #[.slice V m c,vr]) ss R) : Calls prog 9 #[.agg #[.slice V m c,vr]] w (IsB true w) := by
 obtain ⟨vals,hv,hrr⟩ := aX hT;have hM := fX hr;exact qd c m 0 0 V ss vr vals R w jj hR (fun i hi => (hM i hi).1) (fun i hi k hk => (hM i hi).2 k hk) hrr (wF hs hm) hv
theorem Ep (h : ∀ x ∈ R,x.length = ss.length) : R.map (aJ (fun k => ij ss ([vX,vY].getD k ByteArray.empty)) 2) = ei ss [vX,vY] R := by
 unfold ei;apply List.map_congr_left;intro x hx;show [jF (ij ss) x vX,jF (ij ss) x vY] = [cQ ss x vX,cQ ss x vY];rw [mx (h x hx),mx (h x hx)]
theorem tH {nc : Nat} (hm : ss.length = m) (hm9 : m ≤ 9) (hvs : gF ss [vX,vY] = true) (hR : R.length ≤ 4096) (hr : ∀ x ∈ R,x.length = m ∧ ∀ n ∈ x,-1 ≤ n) (hT : aL w 0 m (.agg #[.slice V m c,vr]) ss R) (hg : Blk w g 9 #[.string vX,.string vY]) :
    Calls prog 11 #[.agg #[.slice V m c,vr],.slice (some ⟨g,0,none⟩) 2 nc] w (aQ w 2 [vX,vY] (ei ss [vX,vY] R)) := by
 obtain ⟨vals,hv,hrr⟩ := aX hT;have hM := fX hr;have hin := iy hvs;have hmem : ∀ k,k < 2 → [vX,vY].getD k ByteArray.empty ∈ [vX,vY] := fun k hk => by
  rcases (by omega : k = 0 ∨ k = 1) with rfl | rfl
  · exact List.mem_cons_self
  · exact List.mem_cons_of_mem _ List.mem_cons_self
 have h := qo (fun k => ij ss ([vX,vY].getD k ByteArray.empty)) 2 m c 0 0 2 nc V (some ⟨g,0,none⟩) ss [vX,vY] vr vals R w de jj rfl hm (fun k hk => (hin _ (hmem k hk)).1) (fun k hk e => by rw [← hm]; exact (hin _ (hmem k hk)).2 e) (fun i hi => (hM i hi).1) (fun i hi k hk => (hM i hi).2 k hk) hR
  (fun w1 hf => by
   have hb := hg.fr hf id;have hv := nJ g 2 nc [vX,vY] w1 de de (fun j hj => by
    rcases (by omega : j = 0 ∨ j = 1) with rfl | rfl
    · exact hb.cell 0
    · exact hb.cell 1) rfl
   rw [uM.vars] at hv;exact hv) hv hrr
 rw [Ep (fun x hx => by rw [hm]; exact (hr x hx).1)] at h;exact h
section
variable {w : World} {db rd sb : Nat} {vt : Value} {ts : List Tm} {r : Nat → Value} {ls : Nat → List Edge}
theorem Ck (hD : Dat w db rd sb vt ts r ls) (hts : ts.length ≤ 15) {kind : Nat} {p q a : Int} {x y : Int} (h : bZ kind p q a (ls 0) x y) : (0 ≤ x ∧ 0 ≤ y) ∧ x ≤ 1000000 ∧ y ≤ 1000000 := by
 have key : ∀ z ∈ gL (ls 0),z ≤ 1000000 := fun z hz => by
  rcases List.mem_append.1 hz with hz | hz
  · obtain ⟨k,hk,rfl⟩ := List.mem_map.1 hz;have := (hD.num k hk).2.1;omega
  · obtain ⟨k,hk,rfl⟩ := List.mem_map.1 hz;have := (hD.num k hk).2.2.2;omega
 have he := mH h;exact ⟨kX hD.pos h,key x he.1,key y he.2⟩
def jT (kind : Nat) (p q a : Int) (E : List Edge) (R : List (List Int)) : Prop := ∀ r,r ∈ R ↔ ∃ x y,r = [x,y] ∧ bZ kind p q a E x y
theorem kZ (hD : Dat w db rd sb vt ts r ls) {kind : Nat} {p q a : Int} {R : List (List Int)} (h : jT kind p q a (ls 0) R) : b7 2 R := fun x hx => by
 obtain ⟨u,v,rfl,hr⟩ := (h x).1 hx;have := kX hD.pos hr;exact ⟨rfl,fun n hn => by simp at hn; omega⟩
theorem kn (hD : Dat w db rd sb vt ts r ls) (hts : ts.length ≤ 15) {kind : Nat} {p q a : Int} {R : List (List Int)} (h : jT kind p q a (ls 0) R) : ∀ i,i < R.length → (R.getD i []).length = 2 ∧ ∀ k,k < 2 → -1 ≤ (R.getD i []).getD k 0 ∧ (R.getD i []).getD k 0 ≤ 1000000 := fun i hi => by
 obtain ⟨u,v,e,hr⟩ := (h _).1 (eA hi);have := Ck hD hts hr;rw [e];refine ⟨rfl,fun k hk => ?_⟩;rcases (by omega : k = 0 ∨ k = 1) with rfl | rfl
 · simp; omega
 · simp; omega
theorem rL (hD : Dat w db rd sb vt ts r ls) (kind : Nat) (hk : kind < 6) : jT kind (af ts uP) (af ts uQ) (af ts uA) (ls 0) (ei (bR vS vT vX vY kind) [vX,vY] (cM vS vT vX vY kind (au ts ls) (af ts uP) (af ts uQ) (af ts uA))) :=
 fun x => we de de de de de de kind hk (au ts ls) (ls 0) _ _ _ (hD.ofP uP) (hD.ofP uQ) (hD.ofP uA) hD.pos x
theorem rM (hD : Dat w db rd sb vt ts r ls) (hts : ts.length ≤ 15) {kind : Nat} {p q a : Int} {R : List (List Int)} (h : jT kind p q a (ls 0) R) (hl : R.length ≤ 4096) {W : World} {c : Nat} {V : Option Addr} {vr : Value} (h4 : 4 ≤ W.heap.size) (ht : Tb W) (hT : aL W 0 2 (.agg #[.slice V 2 c,vr]) [vX,vY] R) :
    Calls prog 12 #[.agg #[.slice V 2 c,vr]] W (dO W 2 [vX,vY] (bn R (dC R) R.length)) := by
 obtain ⟨vals,hv,hr⟩ := aX hT;have ht2 := kn hD hts h;exact oQ 2 c 0 0 V vr vals R [vX,vY] W de (fun e => by cases e) hl (fun i hi => (ht2 i hi).1) (fun i hi k hk => (ht2 i hi).2 k hk) h4 ht hv hr
theorem mL (hD : Dat w db rd sb vt ts r ls) {kind : Nat} {p q a : Int} {R : List (List Int)} (h : jT kind p q a (ls 0) R) : (bn R (dC R) R.length).Nodup ∧ jT kind p q a (ls 0) (bn R (dC R) R.length) := by
 obtain ⟨h1,h2⟩ := mj R (kZ hD h) R.length (Nat.le_refl _);exact ⟨h1,fun x => by rw [h2,List.take_of_length_le (Nat.le_refl _)]; exact h x⟩
theorem Cl (hD : Dat w db rd sb vt ts r ls) (hts : ts.length ≤ 15) {kind : Nat} {p q a : Int} {R1 R2 : List (List Int)} (h1 : jT kind p q a (ls 0) R1) (h2 : jT kind p q a (ls 0) R2) (n1 : R1.Nodup) (n2 : R2.Nodup) {W : World} {c1 c2 : Nat} {V1 V2 : Option Addr} {vr1 vr2 : Value} (h4 : 4 ≤ W.heap.size) (ht : Tb W) (hT1 : aL W 0 2 (.agg #[.slice V1 2 c1,vr1]) [vX,vY] R1) (hT2 : aL W 0 2 (.agg #[.slice V2 2 c2,vr2]) [vX,vY] R2) :
    Calls prog 10 #[.agg #[.slice V1 2 c1,vr1],.agg #[.slice V2 2 c2,vr2]] W (IsB true W) := by
 obtain ⟨vals1,hv1,hr1⟩ := aX hT1;obtain ⟨vals2,hv2,hr2⟩ := aX hT2;have t1 := kn hD hts h1;have t2 := kn hD hts h2;have he : ∀ x,x ∈ R1 ↔ x ∈ R2 := fun x => (h1 x).trans (h2 x).symm;have l1 := iE (hD.ll 0 de) R1 n1 (fun x hx => (h1 x).1 hx);have l2 := iE (hD.ll 0 de) R2 n2 (fun x hx => (h2 x).1 hx);exact vi 2 0 0 _ _ R1 R2 [vX,vY] W de ⟨by omega,fun i hi => (t1 i hi).1,fun i hi k hk => (t1 i hi).2 k hk⟩ ⟨by omega,fun i hi => (t2 i hi).1,fun i hi k hk => (t2 i hi).2 k hk⟩ (yN n1 n2 he) (mo (kZ hD h1) (kZ hD h2) n1 n2 he R1.length (Nat.le_refl _)) h4 ht
  ⟨V1,c1,vr1,vals1,rfl,(fun e => by cases e),hv1,hr1⟩ ⟨V2,c2,vr2,vals2,rfl,(fun e => by cases e),hv2,hr2⟩
end
end
def pS (j : Nat) : ByteArray := match j with | 0 => ⟨#[63,120,32,60,117,58,112,62,47,60,117,58,113,62,32,63,121,32,46]⟩ | 1 => ⟨#[63,120,32,60,117,58,112,62,47,94,60,117,58,112,62,32,63,121,32,46]⟩ | 2 => ⟨#[63,120,32,60,117,58,112,62,124,60,117,58,113,62,32,63,121,32,46]⟩ | 3 => ⟨#[63,120,32,94,60,117,58,97,62,32,63,121,32,46]⟩ | 4 => ⟨#[63,120,32,40,60,117,58,112,62,47,60,117,58,113,62,41,47,60,117,58,97,62,32,63,121,32,46]⟩ | _ => ⟨#[63,120,32,60,117,58,112,62,47,40,60,117,58,113,62,124,60,117,58,112,62,41,32,63,121,32,46]⟩
def gS (j : Nat) : ByteArray := match j with | 0 => ⟨#[63,120,32,60,117,58,112,62,32,63,116,32,46,32,63,116,32,60,117,58,113,62,32,63,121,32,46]⟩ | 1 => ⟨#[63,120,32,60,117,58,112,62,32,63,116,32,46,32,63,121,32,60,117,58,112,62,32,63,116,32,46]⟩ | 2 => ⟨#[123,32,63,120,32,60,117,58,112,62,32,63,121,32,46,32,125,32,85,78,73,79,78,32,123,32,63,120,32,60,117,58,113,62,32,63,121,32,46,32,125]⟩ | 3 => ⟨#[63,121,32,60,117,58,97,62,32,63,120,32,46]⟩ | 4 => ⟨#[63,120,32,60,117,58,112,62,32,63,116,32,46,32,63,116,32,60,117,58,113,62,32,63,115,32,46,32,63,115,32,60,117,58,97,62,32,63,121,32,46]⟩ | _ => ⟨#[63,120,32,60,117,58,112,62,32,63,116,32,46,32,123,32,63,116,32,60,117,58,113,62,32,63,121,32,46,32,125,32,85,78,73,79,78,32,123,32,63,116,32,60,117,58,112,62,32,63,121,32,46,32,125]⟩
abbrev hdT : ByteArray := ⟨#[82,69,71,73,83,84,69,82,32,82,83,84,82,69,65,77,32,60,117,58,111,62,32,65,83,32,83,69,76,69,67,84,32,63,120,32,87,72,69,82,69,32,123,32]⟩
abbrev tlT : ByteArray := ⟨#[32,125]⟩
theorem Fz (j : Nat) (hj : j < 6) (w : World) : (Instr.index 25 (.agg #[.string ⟨#[63,120,32,60,117,58,112,62,47,60,117,58,113,62,32,63,121,32,46]⟩,.string ⟨#[63,120,32,60,117,58,112,62,32,63,116,32,46,32,63,116,32,60,117,58,113,62,32,63,121,32,46]⟩,.string ⟨#[63,120,32,60,117,58,112,62,47,94,60,117,58,112,62,32,63,121,32,46]⟩,.string ⟨#[63,120,32,60,117,58,112,62,32,63,116,32,46,32,63,121,32,60,117,58,112,62,32,63,116,32,46]⟩,.string ⟨#[63,120,32,60,117,58,112,62,124,60,117,58,113,62,32,63,121,32,46]⟩,.string ⟨#[123,32,63,120,32,60,117,58,112,62,32,63,121,32,46,32,125,32,85,78,73,79,78,32,123,32,63,120,32,60,117,58,113,62,32,63,121,32,46,32,125]⟩,.string ⟨#[63,120,32,94,60,117,58,97,62,32,63,121,32,46]⟩,.string ⟨#[63,121,32,60,117,58,97,62,32,63,120,32,46]⟩,.string ⟨#[63,120,32,40,60,117,58,112,62,47,60,117,58,113,62,41,47,60,117,58,97,62,32,63,121,32,46]⟩,.string ⟨#[63,120,32,60,117,58,112,62,32,63,116,32,46,32,63,116,32,60,117,58,113,62,32,63,115,32,46,32,63,115,32,60,117,58,97,62,32,63,121,32,46]⟩,.string ⟨#[63,120,32,60,117,58,112,62,47,40,60,117,58,113,62,124,60,117,58,112,62,41,32,63,121,32,46]⟩,.string ⟨#[63,120,32,60,117,58,112,62,32,63,116,32,46,32,123,32,63,116,32,60,117,58,113,62,32,63,121,32,46,32,125,32,85,78,73,79,78,32,123,32,63,116,32,60,117,58,112,62,32,63,121,32,46,32,125]⟩]) (.int .u8 (j : Int))).run prog w = .ok (.agg #[.string (pS j),.string (gS j)]) w := by
 rcases (by omega : j = 0 ∨ j = 1 ∨ j = 2 ∨ j = 3 ∨ j = 4 ∨ j = 5) with rfl | rfl | rfl | rfl | rfl | rfl <;> kernel_rfl
theorem tI (j : Nat) (hj : j < 6) (s : ByteArray) (hs : s.data.toList = hdT.data.toList ++ (pS j).data.toList ++ tlT.data.toList) (w : World) (hg : Sg w) : Calls prog 5 #[.string s] w (aI (PQi [cC (aW j uP uQ uA) vX vY]) w) := by
 have key : ∀ t : ByteArray,hdT.data.toList ++ (pS j).data.toList ++ tlT.data.toList = t.data.toList → s = t := fun t h => by
  apply ByteArray.ext;apply Array.toList_inj.1;rw [hs,h]
 rcases (by omega : j = 0 ∨ j = 1 ∨ j = 2 ∨ j = 3 ∨ j = 4 ∨ j = 5) with rfl | rfl | rfl | rfl | rfl | rfl
 · obtain rfl := key pT0 dk;exact (wu w hg).mono (fun e w' ⟨cs,h1,h2,h3⟩ => ⟨cs,h1,kf h2,h3⟩)
 · obtain rfl := key pT1 dk;exact (ww w hg).mono (fun e w' ⟨cs,h1,h2,h3⟩ => ⟨cs,h1,kf h2,h3⟩)
 · obtain rfl := key pT2 dk;exact (wA w hg).mono (fun e w' ⟨cs,h1,h2,h3⟩ => ⟨cs,h1,kf h2,h3⟩)
 · obtain rfl := key pT3 dk;exact (wB w hg).mono (fun e w' ⟨cs,h1,h2,h3⟩ => ⟨cs,h1,kf h2,h3⟩)
 · obtain rfl := key pT4 dk;exact (wC w hg).mono (fun e w' ⟨cs,h1,h2,h3⟩ => ⟨cs,h1,kf h2,h3⟩)
 · obtain rfl := key pT5 dk;exact (wD w hg).mono (fun e w' ⟨cs,h1,h2,h3⟩ => ⟨cs,h1,kf h2,h3⟩)
theorem wG (j : Nat) (hj : j < 6) (s : ByteArray) (hs : s.data.toList = hdT.data.toList ++ (gS j).data.toList ++ tlT.data.toList) (w : World) (hg : Sg w) : Calls prog 5 #[.string s] w (aI (PQi (gPK j)) w) := by
 have key : ∀ t : ByteArray,hdT.data.toList ++ (gS j).data.toList ++ tlT.data.toList = t.data.toList → s = t := fun t h => by
  apply ByteArray.ext;apply Array.toList_inj.1;rw [hs,h]
 rcases (by omega : j = 0 ∨ j = 1 ∨ j = 2 ∨ j = 3 ∨ j = 4 ∨ j = 5) with rfl | rfl | rfl | rfl | rfl | rfl
 · obtain rfl := key gT0 dk;exact ye w hg
 · obtain rfl := key gT1 dk;exact yg w hg
 · obtain rfl := key gT2 dk;exact yh w hg
 · obtain rfl := key gT3 dk;exact yi w hg
 · obtain rfl := key gT4 dk;exact yj w hg
 · obtain rfl := key gT5 dk;exact yk w hg
theorem Cm (j : Nat) (hj : j < 6) : (pS j).size ≤ 100 ∧ (gS j).size ≤ 100 := by
 rcases (by omega : j = 0 ∨ j = 1 ∨ j = 2 ∨ j = 3 ∨ j = 4 ∨ j = 5) with rfl | rfl | rfl | rfl | rfl | rfl <;> decide +kernel
theorem rN (a b c : ByteArray) : (a ++ b ++ c).data.toList = a.data.toList ++ b.data.toList ++ c.data.toList := by
 simp [ByteArray.data_append]
theorem oB {Ps : List (World → Nat → List Value → Prop)} (HL : ∀ P ∈ Ps,cO P) {w : World} {B : Nat} {cs : List Value} (h : PQi Ps w B cs) : ∃ (g n c : Nat) (A : Option Addr),cs = [.string tRS,.string ⟨lUO.toArray⟩,.bool false,.slice (some ⟨g,0,none⟩) 1 1,.slice none 0 0,.slice A n c,.slice none 0 0] ∧ aH Ps w 0 (.slice A n c) := by
 obtain ⟨g,v,rfl,hG⟩ := h;obtain ⟨A,c,css,rfl,hrest⟩ := hG;exact ⟨g,_,c,A,rfl,aH.base HL (Nat.zero_le _) ⟨A,c,css,rfl,hrest⟩⟩
theorem FU (a : Option Addr) (len cap : Nat) (k : Int) (w : World) (hk : 0 ≤ k ∧ k < 256) (hin : mB w a len) (hlen : len ≤ maxLen) (hP : Pl w) (hC : Ch w) (hS : Sg w) (hT : Tb w) (h8 : 8 ≤ w.heap.size) : Calls prog 3 #[.slice a len cap,.int .u8 k] w (IsB true w) := by
 have HAW := Hd (fun w => tF w);obtain ⟨j,hj,hjk⟩ : ∃ j : Nat,j < 6 ∧ k % 6 = (j : Int) := ⟨(k % 6).toNat,by omega,by omega⟩;have hix := fun w => Fz j hj w;rw [← hjk] at hix;have hsz := Cm j hj;have q1 : ¬ 9223372036854775807 < 44 + (pS j).size := jj;have q2 : ¬ 9223372036854775807 < 44 + (pS j).size + 2 := jj;have q3 : ¬ 9223372036854775807 < 44 + (gS j).size := jj;have q4 : ¬ 9223372036854775807 < 44 + (gS j).size + 2 := jj;have HP1 := Hd (fun w hg => tI j hj (hdT ++ pS j ++ tlT) (rN _ _ _) w hg);have HP2 := Hd (fun w hg => wG j hj (hdT ++ gS j ++ tlT) (rN _ _ _) w hg);unfold aI at HP1 HP2;have HIN := Hd hin;have HLEN := Hd hlen;have HPL := Hd hP;have HCH := Hd hC;have HSG := Hd hS;have HTB := Hd hT;have HJ := Hd hj;have HLW1 := Hd (show ∀ P ∈ [cC (aW j uP uQ uA) vX vY],cO P from fun P hP => by rw [List.mem_singleton.1 hP]; exact aF _ _ _);have HLW2 := Hd (Cj j hj);clear hjk hin hlen hP hC hS hT hsz;go_enter func3,ntmps3;go_wp2_with fail;refine (HAW _).mono ?_;rintro e w1 ⟨rfl,hf1⟩;have HF1 := Hd hf1;clear hf1;go_wp2_with fail;refine (HP1 _ ((HSG.frF HF1).frF ((Fr.refl _ w1).alloc _))).mono ?_;rintro e w2 ⟨cs,rfl,hq2,hf2⟩;obtain ⟨pg,pn,pc,pA,rfl,hG⟩ := oB HLW1.out hq2;have hx2 := (Blk.new w1 24 #[.string (pS j),.string (gS j)]).fr hf2 id;have x0 := hx2.c1;have hxl := hx2.lt;have HF2 := Hd ((HF1.alloc (.cells #[.string (pS j),.string (gS j)] 24)).trans' hf2);have HG2 := Hd hG;clear hq2 hf2 hG hx2;go_wp2_with fail;refine (HP2 _ ((HSG.frF HF2).frF ((Fr.refl _ w2).alloc _))).mono ?_;rintro e w3 ⟨cs,rfl,hq3,hf3⟩;obtain ⟨qg,qn,qc,qA,rfl,hG⟩ := oB HLW2.out hq3;have F23 : Fr (fun _ => False) w2 w3 := ((Fr.refl _ w2).alloc _).trans' hf3;have HB3 := Hd ((Blk.new w2 33 #[.string tRS,.string ⟨lUO.toArray⟩,.bool false,.slice (some ⟨pg,0,none⟩) 1 1,.slice none 0 0,.slice pA pn pc,.slice none 0 0]).fr hf3 id);have HF3 := Hd (HF2.trans' F23);have HGP := Hd (HG2.low HLW1 (F23.mono uu));have HGQ := Hd hG;clear hq3 hf3 hG F23 x0 hxl;go_wp2_with fail;have FQ := Fr.a1 w3 (.cells #[.string tRS,.string ⟨lUO.toArray⟩,.bool false,.slice (some ⟨qg,0,none⟩) 1 1,.slice none 0 0,.slice qA qn qc,.slice none 0 0] 33);refine (ws a len cap _ (HIN.frF (HF3.trans' FQ)) HLEN).mono ?_;rintro e w4 ⟨vg,zs,rfl,hts,hz5,hzok,hf4⟩;obtain ⟨gA,gc,hvg⟩ := ad hts;subst hvg;have F34 : Fr (fun _ => False) w3 w4 := FQ.trans' hf4;have HB4 := Hd (HB3.fr F34 id);have HQ4 := Hd ((Blk.new w3 33 #[.string tRS,.string ⟨lUO.toArray⟩,.bool false,.slice (some ⟨qg,0,none⟩) 1 1,.slice none 0 0,.slice qA qn qc,.slice none 0 0]).fr hf4 id);have HF4 := Hd (HF3.trans' F34);have hs4 := HF4.size;have HLOAD := Hd (zM gA gc _ zs w4 (HPL.fr HF4.out id) jj hts hz5 hzok);have HGP4 := Hd (HGP.low HLW1 (F34.mono uu));have HGQ4 := Hd (HGQ.low HLW2 (F34.mono uu));clear hts hz5 hzok hf4 FQ F34;go_wp2_with fail;refine HLOAD.mono ?_;rintro e w5 ⟨db,rd,sb,mm,vt,xx,ts,r,ls,os,rfl,hI⟩
 have F45 : Fr (fun _ => False) w4 w5 := hI.fr.shut (Nat.le_refl _);have F05 := HF4.trans' F45;have HD5 := Hd (show Dat w5 db rd sb vt ts r ls from ⟨⟨hI.dict.blk,ai hI.dict.row (Nat.zero_le _),hI.dict.map,Nat.zero_le _,Nat.zero_le _⟩,hI.st.base (Nat.zero_le _),HPL.fr F05 id,HCH.fr F05 id,hI.ll,hI.same,hI.num⟩);have HTS := Hd hI.tl;have hb5 := HB4.fr F45 id;have hq5 := HQ4.fr F45 id;have HGP5 := Hd (HGP4.low HLW1 (F45.mono uu));have HGQ5 := Hd (HGQ4.low HLW2 (F45.mono uu));have p5 := hb5.c5;have p5l := hb5.lt;have HQ5 := Hd hq5;have HF5 := Hd F05;clear hI F45 F05 hb5 hq5 hs4;go_wp2_with fail;have FA := Fr.a1 w5 (.cells #[.pointer (some ⟨db,0,none⟩),.pointer (some ⟨sb,0,none⟩),.map (some mm)] 41);refine (rB db sb (some mm) pA pn pc 2 [vX,vY] _ _ (fun eb W hf hE => tE db rd sb (some mm) vt ts r ls j HJ.out eb _ W (HD5.frF (FA.trans' hf)) hE (HGP5.low HLW1 ((FA.trans' hf).mono uu)))).mono ?_;rintro e w6 ⟨R1,hr1,tv1,rfl,⟨V1,c1,vr1,vals1,rfl,hv1,hrr1⟩,hf6⟩;obtain ⟨A1,c1',e1⟩ := ad hrr1.own;subst e1;have F56 := FA.trans' hf6;have HR1 := Hd hr1;have HT1 := Hd (show aL w6 0 2 (.agg #[.slice V1 2 c1,.slice A1 R1.length c1']) [vX,vY] R1 from ⟨V1,c1,_,vals1,rfl,ai hv1 (Nat.zero_le _),hrr1.base (Nat.zero_le _)⟩);have hd6 := (Blk.new w5 41 #[.pointer (some ⟨db,0,none⟩),.pointer (some ⟨sb,0,none⟩),.map (some mm)]).fr hf6 id;have d0 := hd6.c0;have d1 := hd6.c1;have d2 := hd6.c2;have dl := hd6.lt;have hq6 := HQ5.fr F56 id;have p6 := hq6.c5;have p6l := hq6.lt;have HF56 := Hd F56;clear hv1 hrr1 hf6 FA F56 hd6 hq6 hr1 p5 p5l;go_wp2_with fail;have FB := Fr.a1 w6 (.cells #[.slice V1 2 c1,.slice A1 R1.length c1'] 47);refine (rB db sb (some mm) qA qn qc (bR vS vT vX vY j).length (bR vS vT vX vY j) _ _ (fun eb W hf hE => rI db rd sb (some mm) vt ts r ls j HJ.out eb _ W (HD5.frF ((HF56.trans' FB).trans' hf)) hE (HGQ5.low HLW2 (((HF56.trans' FB).trans' hf).mono uu)))).mono ?_;rintro e w7 ⟨R2,hr2,tv2,rfl,⟨V2,c2,vr2,vals2,rfl,hv2,hrr2⟩,hf7⟩;obtain ⟨A2,c2',e2⟩ := ad hrr2.own;subst e2;have F67 := FB.trans' hf7;have F57 := HF56.trans' F67;have F7 := HF5.trans' F57;have h14 := (Blk.new w6 47 #[.slice V1 2 c1,.slice A1 R1.length c1']).fr hf7 id;obtain ⟨m2,hm2⟩ : ∃ m2,m2 = (bR vS vT vX vY j).length := ⟨_,rfl⟩;have HT1' := Hd (HT1.frF F67);have HT2 := Hd (show aL w7 0 (bR vS vT vX vY j).length (.agg #[.slice V2 (bR vS vT vX vY j).length c2,.slice A2 R2.length c2']) (bR vS vT vX vY j) R2 from ⟨V2,c2,_,vals2,rfl,ai hv2 (Nat.zero_le _),hrr2.base (Nat.zero_le _)⟩);rw [← hm2] at HT2 ⊢;have HM2 := Hd hm2;have HR2 := Hd hr2;have HD7 := Hd (HD5.frF F57);have HB14 := Hd h14;have HF7 := Hd F7;clear hv2 hrr2 hf7 FB F67 F57 F7 h14 hm2 hr2 d0 d1 d2 dl p6 p6l;go_wp2_with fail;obtain ⟨W8,hW8⟩ : ∃ W8,W8 = w7.alloc (.cells #[.slice V2 m2 c2,.slice A2 R2.length c2'] 47) := ⟨_,rfl⟩;rw [← hW8];have F8 : Fr (fun _ => False) w7 W8 := by rw [hW8]; exact (Fr.refl _ w7).alloc _
 have B16 : Blk W8 w7.heap.size 47 #[.slice V2 m2 c2,.slice A2 R2.length c2'] := by rw [hW8]; exact Blk.new w7 47 _
 have B14 := HB14.fr F8 id;have HSX := Hd (show ∀ wy,Fr (fun _ => False) W8 wy → wy.cell? ⟨w6.heap.size,0,none⟩ = some (.slice V1 2 c1) ∧ wy.cell? ⟨w6.heap.size,1,none⟩ = some (.slice A1 R1.length c1') ∧ wy.cell? ⟨w7.heap.size,0,none⟩ = some (.slice V2 m2 c2) ∧ wy.cell? ⟨w7.heap.size,1,none⟩ = some (.slice A2 R2.length c2') from
  fun wy hf => ⟨(B14.fr hf id).cell 0,(B14.fr hf id).cell 1,(B16.fr hf id).cell 0,(B16.fr hf id).cell 1⟩)
 have F08 := HF7.trans' F8;have HF8 := Hd F08;have hD8 := HD7.frF F8;have hvs := rJ j HJ.out;have hrr := tG db rd sb vt ts r ls hD8 j HJ.out;rw [← HR2.out,← HM2.out] at hrr;have hts := HTS.out;have hp1 : jT j (af ts uP) (af ts uQ) (af ts uA) (ls 0) R1 := HR1.2;have hl1 := iE (hD8.ll 0 de) R1 HR1.1 (fun x hx => (hp1 x).1 hx);have hp2 := rL hD8 j HJ.out;rw [← HR2.out] at hp2;have hn1 := kZ hD8 hp1;have hdp := mL hD8 hp2;have hlp : (ei (bR vS vT vX vY j) [vX,vY] R2).length ≤ 4096 := by unfold ei; rw [List.length_map]; omega
 have G1 := Hd (fun W (hf : Fr (fun _ => False) W8 W) => rK (c := c1) (V := V1) (vr := .slice A1 R1.length c1') (ss := [vX,vY]) (R := R1) (w := W) rfl de dk jj (fun x hx => ⟨(hn1 x hx).1,fun n hn => by have := (hn1 x hx).2 n hn; omega⟩) ((HT1'.frF F8).frF hf));have G2 := Hd (fun W (hf : Fr (fun _ => False) W8 W) => rK (m := m2) (c := c2) (V := V2) (vr := .slice A2 R2.length c2') (ss := bR vS vT vX vY j) (R := R2) (w := W) HM2.symm (by have := HM2.out; have := hvs.2.1; omega) hvs.1 jj hrr.2 ((HT2.frF F8).frF hf));have G3 := Hd (fun W g (hf : Fr (fun _ => False) W8 W) (hg : Blk W g 9 #[.string vX,.string vY]) => tH (m := m2) (c := c2) (g := g) (nc := 2) (V := V2) (vr := .slice A2 R2.length c2') (ss := bR vS vT vX vY j) (R := R2) (w := W) HM2.symm (by have := HM2.out; have := hvs.2.1; omega) hvs.2.2 jj hrr.2 ((HT2.frF F8).frF hf) hg);have G4 := Hd (fun W c V vr (hf : Fr (fun _ => False) W8 W) (hT : aL W 0 2 (.agg #[.slice V 2 c,vr]) [vX,vY] (ei (bR vS vT vX vY j) [vX,vY] R2)) => rM hD8 hts hp2 hlp (W := W) (c := c) (V := V) (vr := vr) (by have := F08.size; have := hf.size; omega) ((HTB.frF F08).frF hf) hT);have G5 := Hd (fun W c V vr (hf : Fr (fun _ => False) W8 W) (hT : aL W 0 2 (.agg #[.slice V 2 c,vr]) [vX,vY] (bn (ei (bR vS vT vX vY j) [vX,vY] R2) (dC (ei (bR vS vT vX vY j) [vX,vY] R2)) (ei (bR vS vT vX vY j) [vX,vY] R2).length)) => Cl hD8 hts hp1 hdp.2 HR1.1 hdp.1 (W := W) (c1 := c1) (c2 := c) (V1 := V1) (V2 := V) (vr1 := .slice A1 R1.length c1') (vr2 := vr) (by have := F08.size; have := hf.size; omega) ((HTB.frF F08).frF hf) ((HT1'.frF F8).frF hf) hT);unfold aQ at G3;unfold dO at G4;generalize ei (bR vS vT vX vY j) [vX,vY] R2 = RP at *;generalize bn RP (dC RP) RP.length = RD at *;clear hW8 F8 B16 B14 F08 hD8 hvs hrr hts hp1 hl1 hp2 hn1 hdp hlp hix q1 q2 q3 q4 h8 hk;refine wp_region_noPanic ?_;refine wp_region_held_drew (S := (fun wy => wy.cell? ⟨w6.heap.size,0,none⟩ = some (.slice V1 2 c1) ∧ wy.cell? ⟨w6.heap.size,1,none⟩ = some (.slice A1 R1.length c1') ∧ wy.cell? ⟨w7.heap.size,0,none⟩ = some (.slice V2 m2 c2) ∧ wy.cell? ⟨w7.heap.size,1,none⟩ = some (.slice A2 R2.length c2'))) kr ?_ (fun hHeld => ?_)
 · try dsimp only
   exact HSX _ (Fr.refl (fun _ => False) W8).drew
 refine oT 0 ?_;refine oT 1 ?_;refine oT 2 ?_;refine oT 3 ?_;refine oT 4 ?_;refine oT 5 ?_;refine oT 6 ?_;refine oT 7 ?_;refine oR [8] ?_;refine oC (fun K hK => ?_) ?_
 · go_simp;go_at_call 9;refine (G1 _ (Fr.refl (fun _ => False) W8).drew).mono ?_;rintro e_a w_a ⟨rfl,hf_a⟩;have F_a : Fr (fun _ => False) W8 w_a := hf_a.drew_l;refine oK hK ?_ fun hHeld => ?_
   · try dsimp only
     exact HSX _ F_a
   clear hK K;refine oT 9 ?_;refine oT 10 ?_;refine oT 11 ?_;refine oR [12] ?_;refine oC (fun K hK => ?_) ?_
   · go_simp;go_at_call 9;refine (G2 _ F_a).mono ?_;rintro e_b w_b ⟨rfl,hf_b⟩;have F_b : Fr (fun _ => False) W8 w_b := F_a.trans' hf_b;refine oK hK ?_ fun hHeld => ?_
     · try dsimp only
       exact HSX _ F_b
     clear hK K;refine oT 13 ?_;refine oT 14 ?_;refine oT 15 ?_;refine oT 16 ?_;refine oR [17] ?_;refine oC (fun K hK => ?_) ?_
     · go_simp;have F_g : Fr (fun _ => False) W8 (w_b.alloc (.cells #[.string vX,.string vY] 9)) := F_b.alloc _;have hbx := Blk.new w_b 9 #[.string vX,.string vY];refine oK hK ?_ fun hHeld => ?_
       · try dsimp only
         exact HSX _ F_g
       clear hK K;refine oR [18] ?_;refine oC (fun K hK => ?_) ?_
       · go_simp;go_at_call 11;refine (G3 _ w_b.heap.size F_g hbx).mono ?_;rintro e_c w_c ⟨tv_c,rfl,⟨Vc,cc,vrc,valsc,rfl,hvc,hrc⟩,hf_c⟩;have F_c : Fr (fun _ => False) W8 w_c := F_g.trans' hf_c;refine oK hK ?_ fun hHeld => ?_
         · try dsimp only
           exact HSX _ F_c
         clear hK K;refine oR [19] ?_;refine oC (fun K hK => ?_) ?_
         · go_simp;go_at_call 12;refine (G4 _ cc Vc vrc F_c ⟨Vc,cc,vrc,valsc,rfl,ai hvc (Nat.zero_le _),hrc.base (Nat.zero_le _)⟩).mono ?_;rintro e_d w_d ⟨Vd,cd,vrd,valsd,rfl,_,hvd,hrd,hf_d⟩;have F_d : Fr (fun _ => False) W8 w_d := F_c.trans' hf_d;refine oK hK ?_ fun hHeld => ?_
           · try dsimp only
             exact HSX _ F_d
           clear hK K;refine oR [20] ?_;refine oC (fun K hK => ?_) ?_
           · go_simp;go_at_call 10;refine (G5 _ cd Vd vrd F_d ⟨Vd,cd,vrd,valsd,rfl,ai hvd (Nat.zero_le _),hrd.base (Nat.zero_le _)⟩).mono ?_;rintro e_e w_e ⟨rfl,hf_e⟩;have F_e : Fr (fun _ => False) W8 w_e := F_d.trans' hf_e;refine oK hK ?_ fun hHeld => ?_
             · try dsimp only
               exact HSX _ F_e
             clear hK K;refine oT 21 ?_;refine oR [22] ?_;refine oC (fun K hK => ?_) ?_
             · go_simp;refine oK hK ?_ fun hHeld => ?_
               · try dsimp only
                 exact HSX _ F_e
               clear hK K;refine oD (NoPanic.normal ?_);go_wp2_with fail;go_ret;exact ⟨rfl,HF8.trans' F_e⟩
             exact .nil
           exact .nil
         exact .nil
       exact .nil
     exact .nil
   exact .nil
 exact .nil
end Go.Proofs.YtfaapkpebnagmaaGreatDoor
