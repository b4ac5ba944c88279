/- Texts of the proof, one behind the other: Pd, Pe, Pf, Pg, Tb, Va, Vb, Xo. -/
import Derived.Test.YtfaapkpebnagmaaGreatDoorXt
namespace Go.Proofs.YtfaapkpebnagmaaGreatDoor
open _root_.Go.Proofs.Tryz
open Go.RowKit Go
set_option linter.unusedVariables false
set_option linter.unusedSimpArgs false
set_option maxRecDepth 100000
set_option maxHeartbeats 400000000
variable {E : List Edge} {w w0 w' : World} {c fb mb re ro rb ce co kind B me m : Nat} {a p q n e0 : Int} {l A : List (List Int)} {le : List (Ent Edge)} {lo : List (Ent Int)} {om : Nat → List (Ent Edge) × Nat} {S : Int → List Edge} {K : Nat → Prop} {r : List Int}
theorem oj {α : Type} {K : α → Value} {P : Program} {r : Nat} {l : List (Ent α)} (h : be K w r l c) (T k e : TypeId) (hu : P.underlying T = some (.map k e)) (ty : TypeId) : (Builtin.len_ #[T] ty #[.map (some r)]).run P w = .ok (.int .i64 (l.length : Int)) w := by
 have hget : (getObj r).run P w = .ok (.map (l.map (Ent.me K)).toArray c) w := by simp [getObj,Sem.run,h.1]
 simp [Builtin.len_,run_underlying hu,hget,goInt,Result.andThen]
structure Ph (kind : Nat) (p q a : Int) (E : List Edge) (w0 : World) (Z : Nat → Prop) (fb mb re ro rb : Nat) (wr : World) (le1 : List (Ent Edge)) (ce1 : Nat) (o0 : Int → List Edge) (k : Edge) (j : Nat) (lo : List (Ent Int)) (co : Nat) (om : Nat → List (Ent Edge) × Nat) (l : List (Ent Place)) (c : Nat) : Prop where
 fo : FoN wr fb mb re ro rb le1 ce1 lo co om (if j = 0 then k.1 else k.2.2)
 mw : MW w0 wr
 inj : jb lo
 best : bQ wr rb l c
 outs : ∀ m k',k' ∈ outs lo om m ↔ k' ∈ o0 m ∨ (k' = k ∧ ((1 ≤ j ∧ m = k.1) ∨ (2 ≤ j ∧ m = k.2.2)))
 one : 1 ≤ j → k.1 ∈ keysOf lo
 two : 2 ≤ j → k.2.2 ∈ keysOf lo
 start : ∀ n ∈ keysOf lo,∀ s ∈ iF kind,(n,n,s) ∈ keysOf l
 closed : ∀ x ∈ keysOf l,∀ z,d9 (nxK kind p q a) o0 x z → z ∈ keysOf l
 sound : ∀ y ∈ keysOf l,QK kind p q a E lo y
 low : ∀ e ∈ lo,∀ r,e.v = .map (some r) → Z r
theorem BO (a b : Int) (w : World) : (Instr.index 426 (.agg #[.int .i64 a,.int .i64 b]) (.int .i64 0)).run prog w = .ok (.int .i64 a) w := kr
theorem BP (a b : Int) (w : World) : (Instr.index 426 (.agg #[.int .i64 a,.int .i64 b]) (.int .i64 1)).run prog w = .ok (.int .i64 b) w := kr
theorem Fi (a b : Int) (j : Nat) (hj : j < 2) (w : World) : (Instr.index 426 (.agg #[.int .i64 a,.int .i64 b]) (.int .i64 (j : Int))).run prog w = .ok (.int .i64 (if j = 0 then a else b)) w := by
 have : j = 0 ∨ j = 1 := jj;rcases this with rfl | rfl
 · exact BO a b w
 · exact BP a b w
def BQ (kind : Nat) (p q a : Int) (E : List Edge) (w0 : World) (fb mb re ro rb : Nat) (le : List (Ent Edge)) (lo : List (Ent Int)) (k : Edge) (w : World) (e : Ending) (w' : World) : Prop :=
 e = .returned (.int .i64 0) ∧ ∃ le' ce' lo' co' om' l' c',FI kind p q a E w0 fb mb re ro rb w' le' ce' lo' co' om' l' c' ∧ keysOf le' = keysOf le ++ [k] ∧ Fr (fun j => j = re ∨ j = rb ∨ j = ro ∨ ∃ e ∈ lo,e.v = .map (some j)) w w'
theorem D6 {l : List (Ent Place)} (hMK : b6 w0 B K mb (mvK kind p q a) 0 e0) (hrb : w0.heap.size ≤ rb) (hro : w0.heap.size ≤ ro) (hre : w0.heap.size ≤ re)
    (k : Edge) (w : World) (h : FI kind p q a E w0 fb mb re ro rb w le ce lo co om l c) (hk : k ∉ keysOf le) (hkE : k ∈ E) (hle : le.length < 10000) (h0 : 0 ≤ k.1 ∧ 0 ≤ k.2.1 ∧ 0 ≤ k.2.2) :
    Calls prog 285 #[.pointer (some ⟨fb,0,none⟩),.agg #[.int .i64 k.1,.int .i64 k.2.1,.int .i64 k.2.2],.int .i64 aA] w (BQ kind p q a E w0 fb mb re ro rb le lo k w) := by
 obtain ⟨Z,hZ⟩ : ∃ Z : Nat → Prop,Z = fun r => (∃ e' ∈ lo,e'.v = .map (some r)) ∨ w.heap.size ≤ r := ⟨_,rfl⟩;have HZ0 := Hd (show ∀ r,Z r → w0.heap.size ≤ r from fun r hr => by
  rw [hZ] at hr;rcases hr with ⟨e',he',hv⟩ | h2
  · exact h.low e' he' r hv
  · have := h.mw.size; omega)
 have HZ1 := Hd (show ∀ e' ∈ lo,∀ r,e'.v = .map (some r) → Z r from fun e' he' r hv => by rw [hZ]; exact .inl ⟨e',he',hv⟩);have HZ2 := Hd (show ∀ r,w.heap.size ≤ r → Z r from fun r hr => by rw [hZ]; exact .inr hr);have HZ3 := Hd (show ∀ r,r < w.heap.size → Z r → ∃ e' ∈ lo,e'.v = .map (some r) from fun r h1 hr => by
  rw [hZ] at hr;exact hr.elim id (fun h => absurd h1 jj))
 clear hZ;have hf0 := Fr.a1 w (.cells #[.int .i64 k.1,.int .i64 k.2.1,.int .i64 k.2.2] 71);have hF0 := h.fo.fr (hf0.mono uu);have hx := Blk.new w 71 #[.int .i64 k.1,.int .i64 k.2.1,.int .i64 k.2.2];have hno : b5 le k = false := by
  cases hh : b5 le k with
  | false => rfl
  | true => exact absurd ((cH k le).1 hh) hk
 obtain ⟨W1,hW1⟩ : ∃ W1,W1 = w.alloc (.cells #[.int .i64 k.1,.int .i64 k.2.1,.int .i64 k.2.2] 71) := ⟨_,rfl⟩;rw [← hW1] at hf0 hF0 hx;have hlk : ∀ W,Fr (fun _ => False) W1 W → (Instr.lookup 154 (.map (some re)) (.agg #[.int .i64 k.1,.int .i64 k.2.1,.int .i64 k.2.2]) true).run prog W = .ok (.tuple #[.int .i64 0,.bool false]) W := fun W hW => by
  have := bM qF (hF0.edges.fr hW id) 154 3 underlying154 (.int .i64 0) (lD W) k true;rw [(bV k le).2 hno] at this;exact this
 have f3 := hF0.blk.c3;have f1 := hF0.blk.c1;have x0 := hx.c0;have x1 := hx.c1;have x2 := hx.c2;have HRI := Hd (fun W => ry k W h0);have HFI := Hd h;have HF0 := Hd hF0;have HX := Hd hx;have HFR := Hd hf0;have HSX := Hd (show ∀ wy,Fr (fun _ => False) W1 wy → Fr (fun _ => False) W1 wy ∧ wy.cell? ⟨fb,3,none⟩ = some (.map (some re)) ∧ wy.cell? ⟨fb,1,none⟩ = some (.int .i64 10000) ∧ wy.cell? ⟨w.heap.size,0,none⟩ = some (.int .i64 k.1) ∧ wy.cell? ⟨w.heap.size,1,none⟩ = some (.int .i64 k.2.1) ∧ wy.cell? ⟨w.heap.size,2,none⟩ = some (.int .i64 k.2.2) ∧ (Instr.lookup 154 (.map (some re)) (.agg #[.int .i64 k.1,.int .i64 k.2.1,.int .i64 k.2.2]) true).run prog wy = .ok (.tuple #[.int .i64 0,.bool false]) wy from fun wy hf => ⟨hf,aG hf f3,aG hf f1,aG hf x0,aG hf x1,aG hf x2,hlk wy hf⟩);clear hlk h hF0 hx hf0 h0;go_enter func285,ntmps285;go_wp2_with fail;rw [← hW1];clear hW1
 go_region_held3 (fun wy => Fr (fun _ => False) W1 wy ∧ wy.cell? ⟨fb,3,none⟩ = some (.map (some re)) ∧ wy.cell? ⟨fb,1,none⟩ = some (.int .i64 10000) ∧ wy.cell? ⟨w.heap.size,0,none⟩ = some (.int .i64 k.1) ∧ wy.cell? ⟨w.heap.size,1,none⟩ = some (.int .i64 k.2.1) ∧ wy.cell? ⟨w.heap.size,2,none⟩ = some (.int .i64 k.2.2) ∧ (Instr.lookup 154 (.map (some re)) (.agg #[.int .i64 k.1,.int .i64 k.2.1,.int .i64 k.2.2]) true).run prog wy = .ok (.tuple #[.int .i64 0,.bool false]) wy) (exact HSX _ fw) (fail)
 go_wp2_with fail;refine (HRI _).mono ?_;rintro e2 w2 ⟨rfl,hf2⟩;have F2 := (Fr.refl (fun _ => False) W1).drew.trans' hf2;go_wp2_with fail;clear f3 f1 x0 x1 x2;have g3 : w2.cell? ⟨fb,3,none⟩ = some (.map (some re)) := (HSX _ F2).2.1;have hlen : ∀ wy,Fr (fun _ => False) W1 wy → ∀ ty,(Builtin.len_ #[154] ty #[.map (some re)]).run prog wy = .ok (.int .i64 (le.length : Int)) wy := fun wy hf ty => oj (HF0.edges.fr hf id) 154 71 3 underlying154 ty;have HLN := Hd hlen;have hle2 : ¬ (10000 : Int) ≤ (le.length : Int) := jj;have HS2 := Hd (show ∀ wy,Fr (fun _ => False) W1 wy → Fr (fun _ => False) W1 wy ∧ wy.cell? ⟨fb,3,none⟩ = some (.map (some re)) ∧ wy.cell? ⟨fb,1,none⟩ = some (.int .i64 10000) ∧ (∀ ty,(Builtin.len_ #[154] ty #[.map (some re)]).run prog wy = .ok (.int .i64 (le.length : Int)) wy) from fun wy hf => ⟨hf,(HSX.out wy hf).2.1,(HSX.out wy hf).2.2.1,HLN.out wy hf⟩);clear hlen
 go_region_held3 (fun wy => Fr (fun _ => False) W1 wy ∧ wy.cell? ⟨fb,3,none⟩ = some (.map (some re)) ∧ wy.cell? ⟨fb,1,none⟩ = some (.int .i64 10000) ∧ (∀ ty,(Builtin.len_ #[154] ty #[.map (some re)]).run prog wy = .ok (.int .i64 (le.length : Int)) wy)) (first | exact HS2 _ F2.drew | exact HS2 _ F2) (fail)
 have hFo2 := HF0.fr (F2.mono (T := fun j => j = rb) uu);have g2 := hFo2.blk.c2;have hfv : ¬ aA < -9223372036854775808 := de;go_wp2_with fail;obtain ⟨w3,hw3⟩ : ∃ w3,w3 = w2.drew.drew := ⟨_,rfl⟩;have F3 : Fr (fun _ => False) W1 w3 := by rw [hw3]; exact F2.drew.drew
 have hup := bK (P := prog) qF (HF0.edges.fr F3 id) 154 3 underlying154 k (.int .i64 aA);rw [ja _ _ _ _ hno,hno,if_neg Bool.false_ne_true] at hup;obtain ⟨W4,hW4⟩ : ∃ W4,W4 = fS w3 re (.map ((le ++ [(⟨k,.int .i64 aA,ce⟩ : Ent Edge)]).map (Ent.me k3)).toArray (ce + 1)) := ⟨_,rfl⟩;rw [← hW4] at hup;have hu : (Instr.mapUpdate 154 (.map (some re)) (.agg #[.int .i64 k.1,.int .i64 k.2.1,.int .i64 k.2.2]) (.int .i64 aA)).run prog w3 = .ok () W4 := hup.1;have F4 : Fr (fun j => j = re) W1 W4 := by
  rw [hW4];exact (F3.mono uu).trans' (be.set_fr _ _ _)
 have hx4 := HX.fr F4 (fun h => HF0.edges.ne_blk HX.out h.symm);have hb4 := HF0.blk.fr F4 (fun h => HF0.edges.ne_blk HF0.blk h.symm);have HS3 := Hd (HSX.out w3 F3);have HS4 := Hd (show W4.cell? ⟨fb,3,none⟩ = some (.map (some re)) ∧ W4.cell? ⟨w.heap.size,0,none⟩ = some (.int .i64 k.1) ∧ W4.cell? ⟨w.heap.size,1,none⟩ = some (.int .i64 k.2.1) ∧ W4.cell? ⟨w.heap.size,2,none⟩ = some (.int .i64 k.2.2) from ⟨hb4.cell 3,hx4.cell 0,hx4.cell 1,hx4.cell 2⟩);have HF4 := Hd F4;have HX4 := Hd hx4;have HG4 := Hd hup.2;clear F2 F3 F4 hx4 hb4 hup hW4 hFo2 g2 g3 hle2;rw [hw3] at hu HS3;clear hw3
 go_region_held3 (fun wy => wy.cell? ⟨fb,3,none⟩ = some (.map (some re)) ∧ wy.cell? ⟨w.heap.size,0,none⟩ = some (.int .i64 k.1) ∧ wy.cell? ⟨w.heap.size,1,none⟩ = some (.int .i64 k.2.1) ∧ wy.cell? ⟨w.heap.size,2,none⟩ = some (.int .i64 k.2.2)) (first | exact HS4.out | exact ⟨HS3.2.1,HS3.2.2.2.1,HS3.2.2.2.2.1,HS3.2.2.2.2.2.1⟩) (fail)
 have HED := Hd (BN k W4);have hb4 := HF0.blk.fr HF4 (fun h => HF0.edges.ne_blk HF0.blk h.symm);clear HS3 HS2 HSX HLN hu hb4;go_wp2_with (go_at_call 326; refine HED.mono ?_; rintro e5 w5 ⟨rfl,hf5⟩);have hsub : ∀ k' ∈ keysOf (le ++ [(⟨k,.int .i64 aA,ce⟩ : Ent Edge)]),k' ∈ E := fun k' hk' => by
  rw [bN] at hk';rcases List.mem_append.1 hk' with h | h
  · exact HFI.sub k' h
  · rw [List.mem_singleton.1 h]; exact hkE
 have HSUB := Hd hsub;have HKL := Hd (show k ∈ keysOf (le ++ [(⟨k,.int .i64 aA,ce⟩ : Ent Edge)]) by rw [bN]; exact List.mem_append_right _ (List.mem_singleton.2 rfl));have hF04 : Fr (fun j => j = re) w w5 := ((HFR.mono uu).trans' HF4).trans hf5 uu;have HPH := Hd (show Ph kind p q a E w0 Z fb mb re ro rb w5 (le ++ [(⟨k,.int .i64 aA,ce⟩ : Ent Edge)]) (ce + 1) (outs lo om) k 0 lo co om l c from by
  have hN := (HFI.fo.toN k.1);have hne := HFI.fo.ne;refine ⟨⟨hN.blk.fr hF04 (fun h => HFI.fo.edges.ne_blk HFI.fo.blk h.symm),HG4.fr hf5 id,fun e he => ?_,hN.out.fr hF04 hne.2.2.2,fun e he => ?_,hne⟩,HFI.mw.trans hF04 (fun i hi h => by have h : i = re := h; omega),HFI.inj,HFI.best.fr hF04 (fun h => hne.1 h.symm),fun m k' => ?_,fun h => absurd h jj,fun h => absurd h jj,HFI.start,HFI.closed,HFI.sound,HZ1⟩
  · rcases List.mem_append.1 he with h | h
    · exact HFI.fo.ev e h
    · rw [List.mem_singleton.1 h]
  · obtain ⟨r,h1,h2,h3,h4,h5,h6,h7⟩ := hN.ov e he;refine ⟨r,h1,h2.fr hF04 h4,h3,h4,h5,h6,fun k' hk' => ?_⟩;rw [bN];exact ⟨List.mem_append_left _ (h7 k' hk').1,(h7 k' hk').2⟩
  · constructor
    · exact .inl
    · rintro (h | ⟨_,h | h⟩)
      · exact h
      · exact absurd h.1 jj
      · exact absurd h.1 jj)
 have HX5 := Hd (HX4.fr hf5 id);have HF5 := Hd (show Fr (fun j => j = re ∨ j = rb ∨ j = ro ∨ Z j) w w5 from hF04.mono (fun j _ h => .inl h));generalize hle1 : le ++ [(⟨k,.int .i64 aA,ce⟩ : Ent Edge)] = le1 at *;have HLE1 := Hd hle1;clear hsub hf5 hF04 HS4 HX4 HF4 HG4 HED hle1 HX HFR HF0;go_wp2_with fail
 go_loopg [65] (2) (fun gk iv wr => ∃ (j : Nat) (lo1 : List (Ent Int)) (co1 : Nat) (om1 : Nat → List (Ent Edge) × Nat) (l1 : List (Ent Place)) (c1 : Nat),gk + j = 2 ∧ iv = .int .i64 (j : Int) ∧ Ph kind p q a E w0 Z fb mb re ro rb wr le1 (ce + 1) (outs lo om) k j lo1 co1 om1 l1 c1 ∧ Blk wr w.heap.size 71 #[.int .i64 k.1,.int .i64 k.2.1,.int .i64 k.2.2] ∧ Fr (fun j => j = re ∨ j = rb ∨ j = ro ∨ Z j) w wr)
 case atStart => exact ⟨0,lo,co,om,l,c,rfl,rfl,HPH,HX5,HF5⟩
 case round =>
  clear HPH HX5 HF5;obtain ⟨j,lo1,co1,om1,l1,c1,hgk,rfl,hph,hbx,hfr⟩ := hrel;have HPH := Hd hph;have HBX := Hd hbx;have HFRR := Hd hfr;have hbxl := hbx.lt;by_cases hj : j < 2
  · have hj2 : (j : Int) < 2 := jj;obtain ⟨n,hn⟩ : ∃ n,n = (if j = 0 then k.1 else k.2.2) := ⟨_,rfl⟩;have hix : ∀ W,(Instr.index 426 (.agg #[.int .i64 k.1,.int .i64 k.2.2]) (.int .i64 (j : Int))).run prog W = .ok (.int .i64 n) W := fun W => by rw [hn]; exact Fi _ _ j hj W
    have HNC := Hd (yE hMK hrb hro n wr (by rw [hn]; exact hph.fo) hph.mw hph.best hph.sound hph.inj HSUB);have HNN := Hd hn;clear hn hph hbx hfr;go_wp2_with (go_at_call 327; refine HNC.mono ?_; rintro e6 w6 ⟨rfl,lo2,co2,om2,l2,c2,hfo2,hinj2,hb2,hn2,hkm2,hkl2,hout2,hext2,hq2,hst2,hnew2,hf6⟩);have hlow2 : ∀ e ∈ lo2,∀ r,e.v = .map (some r) → Z r := fun e he r hr => by
     rcases hnew2 e he r hr with h | h
     · exact HPH.low e h r hr
     · exact HZ2.out r (Nat.le_trans HFRR.size h)
    obtain ⟨en,hen,hek⟩ := List.mem_map.1 hn2;obtain ⟨rn,hv,hgm,hne1,hne2,hne3,htrue,hcl⟩ := hfo2.ov en hen;have hgo : bc lo2 n = some (.map (some rn)) := by rw [← hek,gX hfo2.out.2.1 hen,hv]
    have hrnZ := hlow2 en hen rn hv;have hrn0 := HZ0.out rn hrnZ;have hx6 := HBX.fr hf6 (fun h => h.elim (fun h => HPH.best.1.ne_blk HBX.out h.symm) (fun h => HPH.fo.out.ne_blk HBX.out h.symm));have hlk : ∀ W,be k1 W ro lo2 co2 → (Instr.lookup 422 (.map (some ro)) (.int .i64 n) false).run prog W = .ok (.map (some rn)) W := fun W hW => by
     have := bM qE hW 422 429 underlying422 (.map none) (kT W) n false;rw [hgo] at this;exact this
    have hup := bK (P := prog) qF (hgm.fr (Fr.refl (fun _ => False) w6).drew id) 429 4 underlying429 k (.bool true);obtain ⟨W7,hW7⟩ : ∃ W7,W7 = fS w6.drew rn (.map ((ep (om2 rn).1 k (.bool true) (om2 rn).2).map (Ent.me k3)).toArray (if b5 (om2 rn).1 k then (om2 rn).2 else (om2 rn).2 + 1)) := ⟨_,rfl⟩;rw [← hW7] at hup;have hu : (Instr.mapUpdate 429 (.map (some rn)) (.agg #[.int .i64 k.1,.int .i64 k.2.1,.int .i64 k.2.2]) (.bool true)).run prog w6.drew = .ok () W7 := hup.1;have hk1in : k.1 ∈ keysOf lo2 := by
     by_cases h0 : j = 0
     · rw [HNN.out,if_pos h0] at hn2; exact hn2
     · exact hkm2 _ (HPH.one jj)
    have hput := D5 (n1 := k.2.2) hfo2 hgo (Fr.refl (fun _ => False) w6).drew HKL (.inl hk1in) (.inr rfl) _ (by rw [← hW7]; exact hup.2);rw [← hW7] at hput;obtain ⟨hfo7,hrnb,hf7⟩ := hput;have hx7 := hx6.fr hf7 (fun h => hgm.ne_blk hx6 h.symm);have HPH2 := Hd (show Ph kind p q a E w0 Z fb mb re ro rb W7 le1 (ce + 1) (outs lo om) k (j + 1) lo2 co2 (kC om2 rn k) l2 c2 from by
     refine ⟨?_,(HPH.mw.trans hf6 (fun i hi h => by rcases h with h | h <;> omega)).trans hf7 (fun i hi h => by have h : i = rn := h; omega),hinj2,hb2.fr hf7 (fun h => hrnb h.symm),fun m k' => ?_,fun _ => hk1in,fun h2 => ?_,fun m hm s hs => ?_,fun x hx z hz => ?_,hq2,hlow2⟩
     · rw [if_neg jj]; exact hfo7
     · rw [yF hgo hinj2,hout2,HPH.out.outs];constructor
       · rintro ((h | ⟨h1,h | h⟩) | ⟨h1,h2⟩)
         · exact .inl h
         · exact .inr ⟨h1,.inl ⟨by omega,h.2⟩⟩
         · exact .inr ⟨h1,.inr ⟨by omega,h.2⟩⟩
         · rw [HNN.out] at h2;by_cases h0 : j = 0
           · rw [if_pos h0] at h2;exact .inr ⟨h1,.inl ⟨by omega,h2⟩⟩
           · rw [if_neg h0] at h2;exact .inr ⟨h1,.inr ⟨by omega,h2⟩⟩
       · rintro (h | ⟨h1,h | h⟩)
         · exact .inl (.inl h)
         · by_cases h0 : j = 0
           · exact .inr ⟨h1,by rw [HNN.out,if_pos h0]; exact h.2⟩
           · exact .inl (.inr ⟨h1,.inl ⟨by omega,h.2⟩⟩)
         · by_cases h0 : j = 0
           · exact absurd h.1 jj
           · exact .inr ⟨h1,by rw [HNN.out,if_neg h0]; exact h.2⟩
     · rw [HNN.out,if_neg jj] at hn2; exact hn2
     · by_cases hm1 : m ∈ keysOf lo1
       · exact hext2.1 _ (HPH.start m hm1 s hs)
       · rcases hkl2 m hm with h | rfl
         · exact absurd h hm1
         · exact hst2 hm1 s hs
     · by_cases hx1 : x ∈ keysOf l1
       · exact hext2.1 _ (HPH.closed x hx1 z hz)
       · exact hext2.2 x hx hx1 z (hz.sub fun m k' hk' => by rw [hout2,HPH.out.outs]; exact .inl hk'))
    have HX7 := Hd hx7;have HF7 := Hd (show Fr (fun j => j = re ∨ j = rb ∨ j = ro ∨ Z j) w W7 from (HFRR.trans' (hf6.mono (fun i _ h => .inr (h.elim .inl (fun h => .inr (.inl h)))))).trans' (hf7.mono (fun i _ h => by have h : i = rn := h; rw [h]; exact .inr (.inr (.inr hrnZ)))));have hb6 := hfo2.blk;have hb7 := hfo7.blk;have HS6 := Hd (show w6.drew.cell? ⟨fb,4,none⟩ = some (.map (some ro)) ∧ w6.drew.cell? ⟨w.heap.size,0,none⟩ = some (.int .i64 k.1) ∧ w6.drew.cell? ⟨w.heap.size,1,none⟩ = some (.int .i64 k.2.1) ∧ w6.drew.cell? ⟨w.heap.size,2,none⟩ = some (.int .i64 k.2.2) ∧ (Instr.lookup 422 (.map (some ro)) (.int .i64 n) false).run prog w6.drew = .ok (.map (some rn)) w6.drew from ⟨hb6.cell 4,hx6.cell 0,hx6.cell 1,hx6.cell 2,hlk _ (hfo2.out.fr (Fr.refl (fun _ => False) w6).drew id)⟩);have HS7 := Hd (show W7.cell? ⟨fb,4,none⟩ = some (.map (some ro)) ∧ W7.cell? ⟨w.heap.size,0,none⟩ = some (.int .i64 k.1) ∧ W7.cell? ⟨w.heap.size,1,none⟩ = some (.int .i64 k.2.1) ∧ W7.cell? ⟨w.heap.size,2,none⟩ = some (.int .i64 k.2.2) ∧ (Instr.lookup 422 (.map (some ro)) (.int .i64 n) false).run prog W7 = .ok (.map (some rn)) W7 from ⟨hb7.cell 4,hx7.cell 0,hx7.cell 1,hx7.cell 2,hlk _ hfo7.out⟩);clear hfo2 hinj2 hb2 hn2 hkm2 hkl2 hout2 hext2 hq2 hst2 hnew2 hf6 hlow2 hen hek hv hgm hne1 hne2 hne3 htrue hcl hgo hrn0 hrnZ hx6 hlk hup hW7 hk1in hfo7 hrnb hf7 hx7 hb6 hb7 HPH HBX HFRR HNC hix
    go_region_held3 (fun wy => wy.cell? ⟨fb,4,none⟩ = some (.map (some ro)) ∧ wy.cell? ⟨w.heap.size,0,none⟩ = some (.int .i64 k.1) ∧ wy.cell? ⟨w.heap.size,1,none⟩ = some (.int .i64 k.2.1) ∧ wy.cell? ⟨w.heap.size,2,none⟩ = some (.int .i64 k.2.2) ∧ (Instr.lookup 422 (.map (some ro)) (.int .i64 n) false).run prog wy = .ok (.map (some rn)) wy) (first | exact HS6.out | exact HS7) (fail)
    clear hu HS6 HS7;go_wp2_with fail
    go_roundg (2 - (j + 1))
    case measure => omega
    case rel => exact ⟨j + 1,lo2,co2,kC om2 rn k,l2,c2,by omega,by go_num,HPH2,HX7,HF7⟩
  · obtain rfl : j = 2 := jj;have hin2 := HPH.two jj;have hFo : Fo wr fb mb re ro rb le1 (ce + 1) lo1 co1 om1 := by
     have h := HPH.fo;rw [if_neg jj] at h;exact h.toFo hin2
    have c5 := hFo.blk.c5;have HFo := Hd hFo;have HCL := Hd (yG wr HPH.best.1);clear hph hbx hfr hFo hin2;have hrg : ∀ W,be k3 W wr.heap.size l1 c1 → (Instr.range 423 (.map (some wr.heap.size))).run prog W = .ok (.pointer (some ⟨W.heap.size,0,none⟩)) (W.alloc (.mapIter (some wr.heap.size) c1 #[] c1)) := fun W hW => (ef (α := Place) hW 423 432 3 underlying423).1;go_wp2_with (go_at_call 328; refine HCL.mono ?_; rintro e6 w6 ⟨rfl,hg6,hf6⟩; have hr6 := hrg w6 hg6);have hit6 : bp (α := Place) (w6.alloc (.mapIter (some wr.heap.size) c1 #[] c1)) w6.heap.size wr.heap.size c1 [] := heap_alloc_new w6 _;have F67 := Fr.a1 w6 (.mapIter (some wr.heap.size) c1 #[] c1);have HG7 := Hd (hg6.fr F67 id);have HF7 := Hd (HFo.fr ((hf6.trans' F67).mono uu));have HB7 := Hd (HPH.best.fr (hf6.trans' F67) id);have HX7 := Hd (HBX.fr (hf6.trans' F67) id);have HM7 := Hd (HPH.mw.trans' (hf6.trans' F67));have HFW := Hd (HFRR.andF (hf6.trans' F67));have hrbl := HPH.best.1.lt;have hfo7 := HF7.blk;have HIT7 := Hd hit6;have hsz7 := al1 w6 (.mapIter (some wr.heap.size) c1 #[] c1);have hcl1 := hg6.lt;clear hg6 hf6 hr6 hrg hit6 F67 c5 HCL HBX HFRR hfo7;have hirb : w6.heap.size ≠ rb := jj;have hcrb : wr.heap.size ≠ rb := jj;have hcri : wr.heap.size ≠ w6.heap.size := jj;have hbi : w.heap.size ≠ w6.heap.size := jj;have hri1 : w.heap.size ≤ w6.heap.size := jj;have hri0 : w0.heap.size ≤ w6.heap.size := jj;clear hsz7 hcl1;generalize (w6.alloc (.mapIter (some wr.heap.size) c1 #[] c1)) = w7 at *;generalize w6.heap.size = ri at *;generalize wr.heap.size = rc at *;have hnode : ∀ x : Place,x.2.1 = k.1 ∨ x.2.1 = k.2.2 → k ∈ outs lo1 om1 x.2.1 := fun x hx => by
     rw [HPH.out.outs];rcases hx with h | h
     · exact .inr ⟨rfl,.inl ⟨by omega,h⟩⟩
     · exact .inr ⟨rfl,.inr ⟨by omega,h⟩⟩
    have HND := Hd hnode;have HENV := Hd (yA (kind := kind) (p := p) (q := q) (a := a) (E := E) (rb := rb) hMK hrb (lo := lo1) (om := om1) (fun m k' hk' => by
     have h := uE HFo.out m k' hk';exact ⟨HSUB _ h.1,h.2.1,h.2.2⟩))
    clear hnode;go_wp2_with fail
    go_loopw [] (fun wr => ∃ (seen : List (Ent Place)) (la : List (Ent Place)) (ca : Nat),bp wr ri rc c1 seen ∧ (∀ e ∈ seen,e ∈ l1) ∧ (seen.map (·.b)).Nodup ∧ bQ wr rb la ca ∧ Ext (d9 (nxK kind p q a) (outs lo1 om1)) (keysOf l1) (keysOf la) ∧ (∀ y ∈ keysOf la,QK kind p q a E lo1 y) ∧ (∀ e ∈ seen,e.k.2.1 = k.1 ∨ e.k.2.1 = k.2.2 → ∀ y,ju (nxK kind p q a) k e.k y → y ∈ keysOf la) ∧ Fr (fun j => j = rb ∨ j = ri) w7 wr) (fun wr => l1.length - (wr.iterSeen ri).size)
    case atStart => exact ⟨[],l1,c1,HIT7,(fun e he => by cases he),List.nodup_nil,HB7,Ext.refl _,HPH.sound,(fun e he => by cases he),Fr.refl _ _⟩
    case round =>
     obtain ⟨seen,la,ca,hit,hsubs,hnd,hba,hext,hq,hdone,hfr⟩ := hrel;have HFR0 := Hd hfr;have HBA := Hd hba;have HEX := Hd hext;have HQA := Hd hq;have HDO := Hd hdone;have hgr := HG7.fr hfr (fun h => h.elim hcrb hcri);rcases dV (P := prog) hgr hit hsubs 0 with ⟨hall,hrun⟩ | ⟨e,he,hes,w8,hrun,hit8,hg8,hf8⟩
     · have hnx : ∀ ty,(Instr.next (.pointer (some ⟨ri,0,none⟩)) false ty).run prog wr = _ := fun _ => hrun;have HEND := Hd (show ∀ x ∈ keysOf l1,x.2.1 = k.1 ∨ x.2.1 = k.2.2 → ∀ y,ju (nxK kind p q a) k x y → y ∈ keysOf la from fun x hx hn y hy => by
        obtain ⟨e,he,rfl⟩ := List.mem_map.1 hx;exact hdone e (hall e he) hn y hy)
       clear hrun hall hit hsubs hnd hba hext hq hdone hfr hgr;go_wp2_with fail;go_ret;have hfi : Fr (fun j => j = re ∨ j = rb ∨ j = ro ∨ Z j) w _ := HFW.trans HFR0 (fun i hi h => h.elim (fun h => .inr (.inl h)) (fun h => absurd h jj));refine ⟨rfl,le1,ce + 1,lo1,co1,om1,la,ca,⟨?_,HM7.trans HFR0 (fun i hi h => by rcases h with h | h <;> omega),HPH.inj,HBA,fun k' hk' => ?_,HSUB,fun m hm s hs => HEX.1 _ (HPH.start m hm s hs),fun x hx z ⟨k',hk',hs⟩ => ?_,HQA,fun e he r hr => HZ0.out r (HPH.low e he r hr)⟩,?_,hfi.mono (fun i hi h => h.imp id (fun h => h.imp id (fun h => h.imp id (HZ3.out i hi))))⟩
       · have h1 : Fr (fun j => j = rb ∨ j = ri) w7 _ := HFR0.out;have hF := HF7.out;refine ⟨hF.blk.fr h1 (fun h => h.elim hF.ne.2.2.1 (fun h => ?_)),hF.edges.fr h1 (fun h => h.elim hF.ne.1 (fun h => ?_)),hF.ev,hF.out.fr h1 (fun h => h.elim hF.ne.2.1 (fun h => ?_)),fun e he => ?_,hF.ne⟩
         · have h2 := HIT7.out;have h3 := hF.blk;unfold bp at h2;unfold Blk at h3;rw [h,h2] at h3;cases h3
         · have h2 := HIT7.out;have h3 := hF.edges.1;unfold bp at h2;rw [h,h2] at h3;cases h3
         · have h2 := HIT7.out;have h3 := hF.out.1;unfold bp at h2;rw [h,h2] at h3;cases h3
         · obtain ⟨r,g1,g2,g3,g4⟩ := hF.ov e he;refine ⟨r,g1,g2.fr h1 (fun h => h.elim g3 (fun h => ?_)),g3,g4⟩;have h2 := HIT7.out;have h3 := g2.1;unfold bp at h2;rw [h,h2] at h3;cases h3
       · rw [← HLE1.out,bN] at hk';rw [HPH.out.outs,HPH.out.outs];rcases List.mem_append.1 hk' with h | h
         · have := HFI.full k' h;exact ⟨.inl this.1,.inl this.2⟩
         · rw [List.mem_singleton.1 h];exact ⟨.inr ⟨rfl,.inl ⟨by omega,rfl⟩⟩,.inr ⟨rfl,.inr ⟨by omega,rfl⟩⟩⟩
       · by_cases hx1 : x ∈ keysOf l1
         · rw [HPH.out.outs] at hk';rcases hk' with h | ⟨rfl,h⟩
           · exact HEX.1 _ (HPH.closed x hx1 z ⟨k',h,hs⟩)
           · exact HEND.out x hx1 (h.imp (fun h => h.2) (fun h => h.2)) z hs
         · exact HEX.2 x hx hx1 z ⟨k',hk',hs⟩
       · rw [← HLE1.out,bN]
     · have hnx : ∀ ty,(Instr.next (.pointer (some ⟨ri,0,none⟩)) false ty).run prog wr = _ := fun _ => hrun;have hen8 := dt (P := prog) hg8 hit8 he;have hev := HPH.best.2 e he;have HAL := Hd (fun (w : World) (l : List (Ent Place)) (c : Nat) (h1 : Fo w fb mb re ro rb le1 (ce + 1) lo1 co1 om1) (h2 : MW w0 w) (h3 : bQ w rb l c) (h4 : ∀ y ∈ keysOf l,QK kind p q a E lo1 y) h5 hx => ru HENV (uD HENV (eq (UK (keysOf lo1)) (keysOf la))) e.k k w l c h1 h2 h3 h4 (HPH.sound e.k (List.mem_map.2 ⟨e,he,rfl⟩)) (HND.out e.k hx) HKL.out h5);have hcome := eE HG7.2.2.1 hsubs hnd he hes;have HC := Hd hcome;have HMS := Hd hit.seen;have HSUBS := Hd hsubs;have HIT8 := Hd hit8;have F78 : Fr (fun j => j = rb ∨ j = ri) w7 w8 := hfr.trans hf8 (fun i _ h => .inr h);have HB8 := Hd (hba.fr hf8 (fun h => hirb h.symm));have HF8 := Hd F78;have hx8 := HX7.fr F78 (fun h => h.elim (fun h => HB7.1.ne_blk HX7.out h.symm) hbi);have hGI : ∀ r (o : Obj),w7.heap[r]? = some o → (∀ a b c d,o ≠ .mapIter a b c d) → r ≠ ri := fun r o h1 h2 h3 => by
        have h4 := HIT7.out;unfold bp at h4;rw [h3,h4] at h1;injection h1 with h1;exact h2 _ _ _ _ h1.symm
       have hFo8 : Fo w8 fb mb re ro rb le1 (ce + 1) lo1 co1 om1 := by
        have hF := HF7.out;refine ⟨hF.blk.fr F78 (fun h => h.elim hF.ne.2.2.1 (hGI _ _ hF.blk (fun _ _ _ _ h => by cases h))),hF.edges.fr F78 (fun h => h.elim hF.ne.1 (hGI _ _ hF.edges.1 (fun _ _ _ _ h => by cases h))),hF.ev,hF.out.fr F78 (fun h => h.elim hF.ne.2.1 (hGI _ _ hF.out.1 (fun _ _ _ _ h => by cases h))),fun e he => ?_,hF.ne⟩;obtain ⟨r,g1,g2,g3,g4⟩ := hF.ov e he;exact ⟨r,g1,g2.fr F78 (fun h => h.elim g3 (hGI _ _ g2.1 (fun _ _ _ _ h => by cases h))),g3,g4⟩
       have HFo8 := Hd hFo8;have HM8 := Hd (HM7.trans F78 (fun i hi h => by rcases h with h | h <;> omega));have k0 := hx8.c0;have k1' := hx8.c1;have k2' := hx8.c2;have hl8 := hx8.lt;have HE := Hd he;rw [hev] at hrun hen8;simp only [k3] at hrun hen8 hnx;have hrel2 : ∀ (l6 : List (Ent Place)) (c6 : Nat) (w9 : World),bQ w9 rb l6 c6 → Ext (d9 (nxK kind p q a) (outs lo1 om1)) (keysOf la) (keysOf l6) → (∀ y ∈ keysOf l6,QK kind p q a E lo1 y) → (e.k.2.1 = k.1 ∨ e.k.2.1 = k.2.2 → ∀ y,ju (nxK kind p q a) k e.k y → y ∈ keysOf l6) → Fr (fun j => j = rb) (w8.alloc (.cells #[.int .i64 e.k.1,.int .i64 e.k.2.1,.int .i64 e.k.2.2] 432)) w9 →
        (∃ (seen : List (Ent Place)) (la : List (Ent Place)) (ca : Nat),bp w9 ri rc c1 seen ∧ (∀ e ∈ seen,e ∈ l1) ∧ (seen.map (·.b)).Nodup ∧ bQ w9 rb la ca ∧ Ext (d9 (nxK kind p q a) (outs lo1 om1)) (keysOf l1) (keysOf la) ∧ (∀ y ∈ keysOf la,QK kind p q a E lo1 y) ∧ (∀ e ∈ seen,e.k.2.1 = k.1 ∨ e.k.2.1 = k.2.2 → ∀ y,ju (nxK kind p q a) k e.k y → y ∈ keysOf la) ∧ Fr (fun j => j = rb ∨ j = ri) w7 w9) ∧ l1.length - (w9.iterSeen ri).size < l1.length - (wr.iterSeen ri).size := fun l6 c6 w9 h1 h2 h3 h4 h5 => by
        have hi9 := (HIT8.fr (S := fun _ => False) ((Fr.refl _ w8).alloc (.cells #[.int .i64 e.k.1,.int .i64 e.k.2.1,.int .i64 e.k.2.2] 432)) id).fr h5 hirb;refine ⟨⟨seen ++ [e],l6,c6,hi9,fun x hx => ?_,HC.1,h1,HEX.trans h2,h3,fun x hx hn y hy => ?_,(HF8.andF ((Fr.refl _ w8).alloc _)).trans h5 (fun i _ h => .inl h)⟩,?_⟩
        · rcases List.mem_append.1 hx with h | h
          · exact HSUBS.out x h
          · rw [List.mem_singleton.1 h]; exact HE.out
        · rcases List.mem_append.1 hx with h | h
          · exact h2.1 _ (HDO.out x h hn y hy)
          · rw [List.mem_singleton.1 h] at hn hy;exact h4 hn y hy
        · rw [HMS.out,hi9.seen];have := HC.2;simp only [List.length_append,List.length_cons,List.length_nil];omega
       have HREL := Hd hrel2;clear hit hsubs hnd hba hext hq hdone hfr hgr hrun hes hit8 hg8 hf8 hx8 F78 hcome hGI hFo8 hrel2 hev;by_cases hc1 : e.k.2.1 = k.1
       · have d1 : (e.k.2.1 == k.1) = true := by simpa using hc1
         have HC1 := Hd hc1;clear hc1;go_wp2_with (go_at_call 329; refine (HAL _ la ca (HFo8.fr ((Fr.refl (fun j => j = rb) _).alloc _)) (HM8.trans' ((Fr.refl _ _).alloc _)) (HB8.fr (S := fun _ => False) ((Fr.refl _ _).alloc _) id) HQA (Nat.le_refl _) (.inl HC1)).mono ?_; rintro e9 w9 ⟨rfl,l6,c6,hb6,hext6,hq6,hin6,hf6⟩);have HR := Hd (HREL.out l6 c6 w9 hb6 hext6 hq6 (fun _ => hin6) hf6);go_roundw
         case rel => exact HR.1
         case measure => exact HR.2
       · by_cases hc2 : e.k.2.1 = k.2.2
         · have d1 : (e.k.2.1 == k.1) = false := by simpa using hc1
           have d2 : (e.k.2.1 == k.2.2) = true := by simpa using hc2
           have HC2 := Hd hc2;clear hc1 hc2;go_wp2_with (go_at_call 329; refine (HAL _ la ca (HFo8.fr ((Fr.refl (fun j => j = rb) _).alloc _)) (HM8.trans' ((Fr.refl _ _).alloc _)) (HB8.fr (S := fun _ => False) ((Fr.refl _ _).alloc _) id) HQA (Nat.le_refl _) (.inr HC2)).mono ?_; rintro e9 w9 ⟨rfl,l6,c6,hb6,hext6,hq6,hin6,hf6⟩);have HR := Hd (HREL.out l6 c6 w9 hb6 hext6 hq6 (fun _ => hin6) hf6);go_roundw
           case rel => exact HR.1
           case measure => exact HR.2
         · have d1 : (e.k.2.1 == k.1) = false := by simpa using hc1
           have d2 : (e.k.2.1 == k.2.2) = false := by simpa using hc2
           have HR := Hd (HREL.out la ca _ (HB8.fr (S := fun _ => False) ((Fr.refl _ _).alloc _) id) (Ext.refl _) HQA (fun h => h.elim (fun h => absurd h hc1) (fun h => absurd h hc2)) (Fr.refl _ _));clear hc1 hc2;go_wp2_with fail;go_roundw
           case rel => exact HR.1
           case measure => exact HR.2
def BR (kind : Nat) (p q a : Int) (E : List Edge) (w : World) (e : Ending) (w' : World) : Prop := ∃ (w0 : World) (B : Nat) (K : Nat → Prop) (fb mb re ro rb : Nat),e = .returned (.tuple #[.pointer (some ⟨fb,0,none⟩),.int .i64 0]) ∧ b6 w0 B K mb (mvK kind p q a) 0 (BA kind : Int) ∧ Fr (fun _ => False) w w0 ∧
 w0.heap.size ≤ re ∧ w0.heap.size ≤ ro ∧ w0.heap.size ≤ rb ∧ w0.heap.size ≤ fb ∧ FI kind p q a E w0 fb mb re ro rb w' [] 0 [] 0 (fun _ => ([],0)) [] 0 ∧ Fr (fun _ => False) w w'
theorem D7 (φ : ByteArray → Int) (kind : Nat) (hkind : kind < 6) (pb qb ab : ByteArray) (h0 : 0 ≤ φ pb ∧ 0 ≤ φ qb ∧ 0 ≤ φ ab) (E : List Edge) (S : Nat → Prop) (w : World) (l : List Value) (h : TBt (nF φ) nZ 332 w S (aW kind pb qb ab) l) :
    Calls prog 283 #[.agg l.toArray,.int .i64 10000] w (BR kind (φ pb) (φ qb) (φ ab) E w) := by
 have hfine : ∃ n,n ≤ 200 ∧ dy φ (aW kind pb qb ab) 3 n := by
  obtain ⟨h1,h2,h3⟩ := h0;have lf : ∀ k i d,(k = 0 ∨ k = 1) → 0 ≤ φ i → dy φ (.leaf k i) (d + 1) 1 := fun k i d hk hn => .leaf k i d hk hn
  match kind,hkind with
  | 0,_ => exact ⟨_,by decide,.node 2 _ 2 _ (.inl rfl) (by simp) (by simp) (.cons _ _ _ _ _ (lf _ _ _ (.inl rfl) h1) (.cons _ _ _ _ _ (lf _ _ _ (.inl rfl) h2) (.nil _)))⟩
  | 1,_ => exact ⟨_,by decide,.node 2 _ 2 _ (.inl rfl) (by simp) (by simp) (.cons _ _ _ _ _ (lf _ _ _ (.inl rfl) h1) (.cons _ _ _ _ _ (lf _ _ _ (.inr rfl) h1) (.nil _)))⟩
  | 2,_ => exact ⟨_,by decide,.node 3 _ 2 _ (.inr rfl) (by simp) (by simp) (.cons _ _ _ _ _ (lf _ _ _ (.inl rfl) h1) (.cons _ _ _ _ _ (lf _ _ _ (.inl rfl) h2) (.nil _)))⟩
  | 3,_ => exact ⟨_,by decide,lf _ _ _ (.inr rfl) h3⟩
  | 4,_ => exact ⟨_,by decide,.node 2 _ 2 _ (.inl rfl) (by simp) (by simp) (.cons _ _ _ _ _ (.node 2 _ 1 _ (.inl rfl) (by simp) (by simp) (.cons _ _ _ _ _ (lf _ _ _ (.inl rfl) h1) (.cons _ _ _ _ _ (lf _ _ _ (.inl rfl) h2) (.nil _)))) (.cons _ _ _ _ _ (lf _ _ _ (.inl rfl) h3) (.nil _)))⟩
  | 5,_ => exact ⟨_,by decide,.node 2 _ 2 _ (.inl rfl) (by simp) (by simp) (.cons _ _ _ _ _ (lf _ _ _ (.inl rfl) h1) (.cons _ _ _ _ _ (.node 3 _ 1 _ (.inr rfl) (by simp) (by simp) (.cons _ _ _ _ _ (lf _ _ _ (.inl rfl) h2) (.cons _ _ _ _ _ (lf _ _ _ (.inl rfl) h1) (.nil _)))) (.nil _)))⟩
 obtain ⟨n,hn,hF⟩ := hfine;have HC := Hd (fun w1 l1 (h1 : TBt (nF φ) nZ 332 w1 S (aW kind pb qb ab) l1) => sX φ (aW kind pb qb ab) 3 n hF de hn (mvK kind (φ pb) (φ qb) (φ ab)) (BA kind) (FL φ kind pb qb ab) (Nat.le_trans (yl _ _ _ _) jj) S w1 l1 h1);obtain ⟨N,A,c,L,rfl,hp,hpn⟩ := dh h;clear hp hpn;generalize fq (aW kind pb qb ab) = k at *;generalize (cp (aW kind pb qb ab)).length = m at *;have hf0 := Fr.a1 w (.cells #[.int .i64 k,.int .i64 N,.slice A m c] 332);have hx := Blk.new w 332 #[.int .i64 k,.int .i64 N,.slice A m c];have HF := Hd hf0;have HCC := Hd (HC _ _ (h.fr hf0 ii));have x0 := hx.c0;have x1 := hx.c1;have x2 := hx.c2;have hm1 : ∀ w,(Instr.makeMap 154 none).run prog w = .ok (.map (some w.heap.size)) (w.alloc (.map #[] 0)) := fun w => rfl;have hm2 : ∀ w,(Instr.makeMap 422 none).run prog w = .ok (.map (some w.heap.size)) (w.alloc (.map #[] 0)) := fun w => rfl;have hm3 : ∀ w,(Instr.makeMap 423 none).run prog w = .ok (.map (some w.heap.size)) (w.alloc (.map #[] 0)) := fun w => rfl;clear h hf0 hx hF hn HC;go_enter func283,ntmps283;go_wp2_with fail;refine HCC.mono ?_;rintro e2 w2 ⟨mb,hmb,rfl,hM2,hf2⟩;have HF2 := Hd (HF.trans' hf2);have HM2 := Hd hM2;have hf5 := Fr.a4 w2 (.map #[] 0) (.map #[] 0) (.map #[] 0) (.cells #[.pointer (some ⟨mb,0,none⟩),.int .i64 10000,.int .i64 (-9223372036854775808),.map (some w2.heap.size),.map (some (w2.heap.size + 1)),.map (some (w2.heap.size + 1 + 1))] 425);have z1 := al1 w2 (.map #[] 0);have z2 := al2 w2 (.map #[] 0) (.map #[] 0);have z3 := al3 w2 (.map #[] 0) (.map #[] 0) (.map #[] 0);have g1 := (((be.new k3 w2).fr ((Fr.refl (fun _ => False) _).alloc (.map #[] 0)) id).fr ((Fr.refl (fun _ => False) _).alloc (.map #[] 0)) id).fr ((Fr.refl (fun _ => False) _).alloc (.cells #[.pointer (some ⟨mb,0,none⟩),.int .i64 10000,.int .i64 (-9223372036854775808),.map (some w2.heap.size),.map (some (w2.heap.size + 1)),.map (some (w2.heap.size + 1 + 1))] 425)) id;have g2 := ((be.new k1 (w2.alloc (.map #[] 0))).fr ((Fr.refl (fun _ => False) _).alloc (.map #[] 0)) id).fr ((Fr.refl (fun _ => False) _).alloc (.cells #[.pointer (some ⟨mb,0,none⟩),.int .i64 10000,.int .i64 (-9223372036854775808),.map (some w2.heap.size),.map (some (w2.heap.size + 1)),.map (some (w2.heap.size + 1 + 1))] 425)) id;have g3 := (be.new k3 ((w2.alloc (.map #[] 0)).alloc (.map #[] 0))).fr ((Fr.refl (fun _ => False) _).alloc (.cells #[.pointer (some ⟨mb,0,none⟩),.int .i64 10000,.int .i64 (-9223372036854775808),.map (some w2.heap.size),.map (some (w2.heap.size + 1)),.map (some (w2.heap.size + 1 + 1))] 425)) id;have g4 := Blk.new (((w2.alloc (.map #[] 0)).alloc (.map #[] 0)).alloc (.map #[] 0)) 425 #[.pointer (some ⟨mb,0,none⟩),.int .i64 10000,.int .i64 (-9223372036854775808),.map (some w2.heap.size),.map (some (w2.heap.size + 1)),.map (some (w2.heap.size + 1 + 1))];rw [z1] at g2;rw [z2] at g3;rw [z3] at g4;have HFI := Hd (show FI kind (φ pb) (φ qb) (φ ab) E w2 (w2.heap.size + 1 + 1 + 1) mb w2.heap.size (w2.heap.size + 1) (w2.heap.size + 1 + 1) _ [] 0 [] 0 (fun _ => ([],0)) [] 0 from
  ⟨⟨g4,g1,fun e he => (by cases he),g2,fun e he => (by cases he),by omega,by omega,by omega,by omega⟩,hf5,fun e he => (by cases he),⟨g3,fun e he => (by cases he)⟩,fun k hk => (by cases hk),fun k hk => (by cases hk),fun k hk => (by cases hk),fun k hk => (by cases hk),fun k hk => (by cases hk),fun k hk => (by cases hk)⟩)
 have HF5 := Hd (HF2.trans' hf5);clear hM2 hf2 hf5 g1 g2 g3 g4 x0 x1 x2;go_wp2_with fail;go_ret2;exact ⟨w2,_,_,_,mb,_,_,_,rfl,HM2,HF2,by omega,by omega,by omega,by omega,HFI,HF5⟩
theorem yH : KeyLaw prog k2 335 := KeyLaw.str2 underlying335 kr de ⟨rfl,rfl⟩ ⟨underlying3,underlying3⟩
def vZ (R : Int → Int → Prop) (w : World) (e : Ending) (w' : World) : Prop := ∃ (r c : Nat) (L : List (Ent (Int × Int))),e = .returned (.map (some r)) ∧ be k2 w' r L c ∧ (∀ x y,(x,y) ∈ keysOf L ↔ R x y) ∧ Fr (fun _ => False) w w'
theorem yI {mv : MS} {b0 : Int} {l : List (Ent Place)} (w : World) (hMK : b6 w B K mb mv b0 e0) (hFo : Fo w fb mb re ro rb le ce lo co om) (hB : bQ w rb l c) :
    Calls prog 286 #[.pointer (some ⟨fb,0,none⟩)] w (vZ (fun x y => (x,y,e0) ∈ keysOf l) w) := by
 have hmk : ∀ w,(Instr.makeMap 327 none).run prog w = .ok (.map (some w.heap.size)) (w.alloc (.map #[] 0)) := fun w => rfl;have hf1 := Fr.a1 w (.map #[] 0);have c5 := (hFo.blk.fr hf1 id).c5;have hr6 : (Instr.range 423 (.map (some rb))).run prog (w.alloc (.map #[] 0)) = .ok (.pointer (some ⟨(w.alloc (.map #[] 0)).heap.size,0,none⟩)) ((w.alloc (.map #[] 0)).alloc (.mapIter (some rb) c #[] c)) := (ef (α := Place) (hB.1.fr hf1 id) 423 432 3 underlying423).1;have hit6 : bp (α := Place) ((w.alloc (.map #[] 0)).alloc (.mapIter (some rb) c #[] c)) (w.alloc (.map #[] 0)).heap.size rb c [] := heap_alloc_new (w.alloc (.map #[] 0)) _;have hz1 := al1 w (.map #[] 0);have hf2 : Fr (fun _ => False) w ((w.alloc (.map #[] 0)).alloc (.mapIter (some rb) c #[] c)) := hf1.alloc _;have hg0 := (be.new k2 w).fr ((Fr.refl (fun _ => False) _).alloc (.mapIter (some rb) c #[] c)) id;rw [hz1] at hit6 hr6;have hfbl := (hFo.blk.fr hf1 id).lt;have hrbl := hB.1.lt;have HM := Hd hMK;have HFo := Hd hFo;have HB := Hd hB;have HIT := Hd hit6;have HG0 := Hd hg0;have HF2 := Hd hf2;have hsz2 := k7 w (.map #[] 0) (.mapIter (some rb) c #[] c);clear hMK hFo hB hit6 hg0 hf2 hf1;go_enter func286,ntmps286;go_wp2_with fail;generalize ((w.alloc (.map #[] 0)).alloc (.mapIter (some rb) c #[] c)) = w2 at *;clear hr6 c5
 go_loopw [] (fun wr => ∃ (seen : List (Ent Place)) (L : List (Ent (Int × Int))) (cL : Nat),bp wr (w.heap.size + 1) rb c seen ∧ (∀ e ∈ seen,e ∈ l) ∧ (seen.map (·.b)).Nodup ∧ be k2 wr w.heap.size L cL ∧ (∀ x ∈ L,x.v = .int .i64 aA) ∧ (∀ x y,(x,y) ∈ keysOf L ↔ ∃ e ∈ seen,e.k = (x,y,e0)) ∧ Fr (fun j => j = w.heap.size ∨ j = w.heap.size + 1) w2 wr) (fun wr => l.length - (wr.iterSeen (w.heap.size + 1)).size)
 case atStart => exact ⟨[],[],0,HIT,(fun e he => by cases he),List.nodup_nil,HG0,(fun e he => by cases he),(fun x y => ⟨fun h => (by cases h),fun ⟨e,he,_⟩ => (by cases he)⟩),Fr.refl _ _⟩
 case round =>
  obtain ⟨seen,L,cL,hit,hsubs,hnd,hg,hgv,hgk,hfr⟩ := hrel;have HGV := Hd hgv;have HGK := Hd hgk;have hfw : Fr (fun j => w.heap.size ≤ j) w wr := HF2.up.trans hfr (fun i hi h => by rcases h with h | h <;> omega);have hgb := HB.1.fr hfw (fun h => by omega);rcases dV (P := prog) hgb hit hsubs 0 with ⟨hall,hrun⟩ | ⟨e,he,hes,w8,hrun,hit8,hg8,hf8⟩
  · have hnx : ∀ ty,(Instr.next (.pointer (some ⟨w.heap.size + 1,0,none⟩)) false ty).run prog wr = _ := fun _ => hrun;have HG := Hd hg;have HALL := Hd hall;have HSUBS := Hd hsubs;have HFW := Hd (hfw.shut (Nat.le_refl _));clear hrun hall hit hsubs hnd hg hgv hgk hfr hfw hgb;go_wp2_with fail;go_ret;refine ⟨w.heap.size,cL,L,rfl,HG,fun x y => ?_,HFW⟩;rw [HGK.out];constructor
    · rintro ⟨e,he,hk⟩;exact List.mem_map.2 ⟨e,HSUBS.out e he,hk⟩
    · intro h;obtain ⟨e,he,hk⟩ := List.mem_map.1 h;exact ⟨e,HALL.out e he,hk⟩
  · have hnx : ∀ ty,(Instr.next (.pointer (some ⟨w.heap.size + 1,0,none⟩)) false ty).run prog wr = _ := fun _ => hrun;have hen8 := dt (P := prog) hg8 hit8 he;have hev := HB.2 e he;have hcome := eE HB.1.2.2.1 hsubs hnd he hes;have HC := Hd hcome;have HMS := Hd hit.seen;have HSUBS := Hd hsubs;have HIT8 := Hd hit8;have HE := Hd he;have HES := Hd hes;have F28 : Fr (fun j => j = w.heap.size ∨ j = w.heap.size + 1) w2 w8 := hfr.trans hf8 (fun i _ h => .inr h);have HF28 := Hd F28;have hfw8 : Fr (fun j => w.heap.size ≤ j) w w8 := HF2.up.trans F28 (fun i hi h => by rcases h with h | h <;> omega);have hb8 := HFo.blk.fr hfw8 (fun h => by have := HFo.blk.lt; omega);have HB8 := Hd hb8;have hM8 := HM.fr hfw8 (fun j hj h _ => by omega);have HM8 := Hd hM8;have hGL := hg.fr hf8 (fun h => by omega);have HGL := Hd hGL;rw [hev] at hrun hen8;obtain ⟨ek,hek⟩ : ∃ ek,ek = e.k := ⟨_,rfl⟩;rw [← hek] at hrun hen8;have HEK := Hd hek;simp only [k3] at hrun hen8 hnx
    -- the world with the box
    have hfa := Fr.a1 w8 (.cells #[.int .i64 ek.1,.int .i64 ek.2.1,.int .i64 ek.2.2] 432);have hbx := Blk.new w8 432 #[.int .i64 ek.1,.int .i64 ek.2.1,.int .i64 ek.2.2];have HBX := Hd hbx;have HFA := Hd hfa;have HSX := Hd (show ∀ wy,Fr (fun _ => False) (w8.alloc (.cells #[.int .i64 ek.1,.int .i64 ek.2.1,.int .i64 ek.2.2] 432)) wy → wy.cell? ⟨fb,0,none⟩ = some (.pointer (some ⟨mb,0,none⟩)) ∧ wy.cell? ⟨w8.heap.size,2,none⟩ = some (.int .i64 ek.2.2) from fun wy hf => ⟨((HB8.fr HFA.out id).fr hf id).cell 0,(HBX.fr hf id).cell 2⟩);obtain ⟨bb,hbb⟩ : ∃ bb,decide (ek.2.2 = e0) = bb := ⟨_,rfl⟩;have HBB := Hd hbb;have HFIN := Hd (fun (W : World) (g : Nat) (hf : Fr (fun _ => False) (w8.alloc (.cells #[.int .i64 ek.1,.int .i64 ek.2.1,.int .i64 ek.2.2] 432)) W) (hg : Blk W g 3 #[.int .i64 ek.2.2]) => (show Calls prog 330 #[.pointer (some ⟨mb,0,none⟩),.slice (some ⟨g,0,none⟩) 1 1] W (IsB bb W) from by rw [← hbb]; exact yz B K mb mv b0 e0 W ((HM8.frF HFA).frF hf) ek.2.2 g hg));have HGA := Hd (HGL.fr hfa id);clear hit hsubs hnd hg hgv hgk hfr hfw hgb hrun hes hit8 hg8 hf8 F28 hfw8 hb8 hM8 hGL hev hek hcome he hfa hbx hbb;go_wp2_with fail;generalize hwx : (w8.alloc (.cells #[.int .i64 ek.1,.int .i64 ek.2.1,.int .i64 ek.2.2] 432)) = wx at *
    go_region_held3 (fun wy => wy.cell? ⟨fb,0,none⟩ = some (.pointer (some ⟨mb,0,none⟩)) ∧ wy.cell? ⟨w8.heap.size,2,none⟩ = some (.int .i64 ek.2.2)) (first | exact HSX _ (Fr.refl _ _).drew | exact HSX _ ((Fr.refl _ _).drew.alloc _) | exact HSX _ (((Fr.refl _ _).drew.alloc _).trans' hf9)) (first | (go_at_call 330; refine (HFIN _ _ ((Fr.refl _ _).drew.alloc _) (Blk.new _ _ _)).mono ?_; rintro e9 w9 ⟨rfl,hf9⟩))
    have F9 : Fr (fun _ => False) wx w9 := ((Fr.refl _ _).drew.alloc _).trans' hf9;have hnin : ek.2.2 = e0 → (ek.1,ek.2.1) ∉ keysOf L := fun hd h => by
     obtain ⟨e',he',hk'⟩ := (HGK _ _).1 h;have h1 := HSUBS.out e' he';have h2 : e'.k = e.k := by rw [hk',← HEK.out,← hd]
     have h3 := gX HB.1.2.1 h1;have h4 : e' = e := by
      have hn := HB.1.2.1;have : ∀ (m : List (Ent Place)),(m.map (·.k)).Nodup → e' ∈ m → e ∈ m → e' = e := fun m => by
       induction m with
       | nil => intro _ h; cases h
       | cons a m ih =>
        intro hn h5 h6;have hn' := List.nodup_cons.1 hn;rcases List.mem_cons.1 h5 with rfl | h5' <;> rcases List.mem_cons.1 h6 with rfl | h6'
        · rfl
        · exact absurd (List.mem_map.2 ⟨e,h6',h2.symm⟩) hn'.1
        · exact absurd (List.mem_map.2 ⟨e',h5',h2⟩) hn'.1
        · exact ih hn'.2 h5' h6'
      exact this l hn h1 HE.out
     rw [h4] at he';exact HES.out he'
    have HGA9 := Hd (HGA.fr F9 id);have hx9 := HBX.fr F9 id;have y0 := hx9.c0;have y1 := hx9.c1;have HF9 := Hd F9;have hrel2 : ∀ (L' : List (Ent (Int × Int))) (c' : Nat) (w' : World),be k2 w' w.heap.size L' c' → (∀ x ∈ L',x.v = .int .i64 aA) → (∀ x y,(x,y) ∈ keysOf L' ↔ ∃ e' ∈ seen ++ [e],e'.k = (x,y,e0)) → Fr (fun j => j = w.heap.size) w9 w' →
        (∃ (seen : List (Ent Place)) (L : List (Ent (Int × Int))) (cL : Nat),bp w' (w.heap.size + 1) rb c seen ∧ (∀ e ∈ seen,e ∈ l) ∧ (seen.map (·.b)).Nodup ∧ be k2 w' w.heap.size L cL ∧ (∀ x ∈ L,x.v = .int .i64 aA) ∧ (∀ x y,(x,y) ∈ keysOf L ↔ ∃ e ∈ seen,e.k = (x,y,e0)) ∧ Fr (fun j => j = w.heap.size ∨ j = w.heap.size + 1) w2 w') ∧ l.length - (w'.iterSeen (w.heap.size + 1)).size < l.length - (wr.iterSeen (w.heap.size + 1)).size := fun L' c' w' h1 h2 h3 h4 => by
     have hi9 := ((HIT8.fr HFA.out id).fr HF9.out id).fr h4 (fun h => by omega);refine ⟨⟨seen ++ [e],L',c',hi9,fun x hx => ?_,HC.1,h1,h2,h3,((HF28.andF HFA).andF HF9).trans h4 (fun i _ h => .inl h)⟩,?_⟩
     · rcases List.mem_append.1 hx with h | h
       · exact HSUBS.out x h
       · rw [List.mem_singleton.1 h]; exact HE.out
     · rw [HMS.out,hi9.seen];have := HC.2;simp only [List.length_append,List.length_cons,List.length_nil];omega
    have HREL := Hd hrel2;have HNI := Hd hnin;clear F9 hx9 hf9 hnin hrel2;cases bb with
    | true =>
     have hd := of_decide_eq_true HBB.out;have hno : b5 L (ek.1,ek.2.1) = false := by
      cases hh : b5 L (ek.1,ek.2.1) with
      | false => rfl
      | true => exact absurd ((cH _ L).1 hh) (HNI.out hd)
     have hfb := Fr.a1 w9 (.cells #[.int .i64 ek.1,.int .i64 ek.2.1] 335);have hlk : (Instr.lookup 327 (.map (some w.heap.size)) (.agg #[.int .i64 ek.1,.int .i64 ek.2.1]) true).run prog (w9.alloc (.cells #[.int .i64 ek.1,.int .i64 ek.2.1] 335)) = .ok (.tuple #[.int .i64 0,.bool false]) (w9.alloc (.cells #[.int .i64 ek.1,.int .i64 ek.2.1] 335)) := by
      have := bM yH (HGA9.fr hfb id) 327 3 underlying327 (.int .i64 0) (lD _) (ek.1,ek.2.1) true;rw [(bV _ L).2 hno] at this;exact this
     have hup := bK (P := prog) yH (HGA9.fr hfb id) 327 3 underlying327 (ek.1,ek.2.1) (.int .i64 aA);have hse : ep L (ek.1,ek.2.1) (.int .i64 aA) cL = L ++ [(⟨(ek.1,ek.2.1),.int .i64 aA,cL⟩ : Ent (Int × Int))] := by unfold ep; rw [hno,if_neg Bool.false_ne_true]
     rw [hse,hno,if_neg Bool.false_ne_true] at hup;obtain ⟨W11,hW11⟩ : ∃ W11,W11 = fS (w9.alloc (.cells #[.int .i64 ek.1,.int .i64 ek.2.1] 335)) w.heap.size (.map ((L ++ [(⟨(ek.1,ek.2.1),.int .i64 aA,cL⟩ : Ent (Int × Int))]).map (Ent.me k2)).toArray (cL + 1)) := ⟨_,rfl⟩;rw [← hW11] at hup;have hu : (Instr.mapUpdate 327 (.map (some w.heap.size)) (.agg #[.int .i64 ek.1,.int .i64 ek.2.1]) (.int .i64 aA)).run prog (w9.alloc (.cells #[.int .i64 ek.1,.int .i64 ek.2.1] 335)) = .ok () W11 := hup.1;have hF11 : Fr (fun j => j = w.heap.size) w9 W11 := by rw [hW11]; exact (hfb.mono uu).trans' (be.set_fr _ _ _)
     have HR := Hd (HREL _ _ W11 hup.2 (fun x hx => by
      rcases List.mem_append.1 hx with h | h
      · exact HGV.out x h
      · rw [List.mem_singleton.1 h]) (fun x y => by
      unfold keysOf;rw [List.map_append,List.mem_append];have hb := HGK.out x y;unfold keysOf at hb;rw [hb];constructor
      · rintro (⟨e',h1,h2⟩ | h)
        · exact ⟨e',List.mem_append_left _ h1,h2⟩
        · simp only [List.map_cons,List.map_nil,List.mem_singleton,Prod.mk.injEq] at h;refine ⟨e,List.mem_append_right _ (List.mem_singleton.2 rfl),?_⟩;rw [← HEK.out,h.1,h.2,← hd]
      · rintro ⟨e',h1,h2⟩;rcases List.mem_append.1 h1 with h | h
        · exact .inl ⟨e',h,h2⟩
        · rw [List.mem_singleton.1 h,← HEK.out] at h2;right;simp [h2]) hF11)
     clear hfb hup hse hW11 hF11 hno;clear hd;go_wp2_with fail;go_roundw
     case rel => exact HR.1
     case measure => exact HR.2
    | false =>
     have hd := of_decide_eq_false HBB.out;have HR := Hd (HREL.out L cL w9 HGA9.out HGV (fun x y => by
      rw [HGK.out];constructor
      · rintro ⟨e',h1,h2⟩;exact ⟨e',List.mem_append_left _ h1,h2⟩
      · rintro ⟨e',h1,h2⟩;rcases List.mem_append.1 h1 with h | h
        · exact ⟨e',h,h2⟩
        · rw [List.mem_singleton.1 h,← HEK.out] at h2;exact absurd (by rw [h2]) hd) (Fr.refl _ _))
     clear hd;go_wp2_with fail;go_roundw
     case rel => exact HR.1
     case measure => exact HR.2
def oo (R : Int → Int → Prop) (w : World) (e : Ending) (w' : World) : Prop := ∃ (r c : Nat) (L : List (Ent (Int × Int))),e = .returned (.tuple #[.map (some r),.int .i64 0]) ∧ be k2 w' r L c ∧ (∀ x y,(x,y) ∈ keysOf L ↔ R x y) ∧ Fr (fun _ => False) w w'
theorem FI.frF {l : List (Ent Place)} (h : FI kind p q a E w0 fb mb re ro rb w le ce lo co om l c) (hf : Fr (fun _ => False) w w') : FI kind p q a E w0 fb mb re ro rb w' le ce lo co om l c :=
 ⟨h.fo.fr (hf.mono uu),h.mw.trans' hf,h.inj,h.best.fr hf id,h.full,h.sub,h.start,h.closed,h.sound,h.low⟩
theorem FI.frI {ri bm ci : Nat} {l : List (Ent Place)} {seen : List (Ent Edge)} (h : FI kind p q a E w0 fb mb re ro rb w le ce lo co om l c) (hi : bp w ri bm ci seen) (hf : Fr (fun j => j = ri) w w') (hr : w0.heap.size ≤ ri) : FI kind p q a E w0 fb mb re ro rb w' le ce lo co om l c := by
 have hne : ∀ r (o : Obj),w.heap[r]? = some o → (∀ a b c d,o ≠ .mapIter a b c d) → r ≠ ri := fun r o h1 h2 h3 => by
  have h4 := hi;unfold bp at h4;rw [h3,h4] at h1;injection h1 with h1;exact h2 _ _ _ _ h1.symm
 have hF := h.fo;refine ⟨⟨hF.blk.fr hf (hne _ _ hF.blk (fun _ _ _ _ h => by cases h)),hF.edges.fr hf (hne _ _ hF.edges.1 (fun _ _ _ _ h => by cases h)),hF.ev,hF.out.fr hf (hne _ _ hF.out.1 (fun _ _ _ _ h => by cases h)),fun e he => ?_,hF.ne⟩,h.mw.trans hf (fun i hi h => by have h : i = ri := h; omega),h.inj,h.best.fr hf (fun h2 => hne rb _ h.best.1.1 (fun _ _ _ _ h => by cases h) h2),h.full,h.sub,h.start,h.closed,h.sound,h.low⟩;obtain ⟨r,g1,g2,g4⟩ := hF.ov e he;exact ⟨r,g1,g2.fr hf (hne _ _ g2.1 (fun _ _ _ _ h => by cases h)),g4⟩
theorem yJ (φ : ByteArray → Int) (kind : Nat) (hkind : kind < 6) (pb qb ab : ByteArray) (h0 : 0 ≤ φ pb ∧ 0 ≤ φ qb ∧ 0 ≤ φ ab) (S : Nat → Prop) (w : World) (l : List Value) (h : TBt (nF φ) nZ 332 w S (aW kind pb qb ab) l)
    (me ce : Nat) (es : List (Ent Edge)) (hE : be k3 w me es ce) (hv : ∀ e ∈ es,e.v = .int .i64 aA) (h0e : ∀ k ∈ keysOf es,0 ≤ k.1 ∧ 0 ≤ k.2.1 ∧ 0 ≤ k.2.2) (hlen : es.length ≤ 5000) :
    Calls prog 235 #[.agg l.toArray,.map (some me)] w (oo (bZ kind (φ pb) (φ qb) (φ ab) (keysOf es)) w) := by
 have HC := Hd (fun w1 l1 (h1 : TBt (nF φ) nZ 332 w1 S (aW kind pb qb ab) l1) => D7 φ kind hkind pb qb ab h0 (keysOf es) S w1 l1 h1);obtain ⟨N,A,c,L,rfl,hp,hpn⟩ := dh h;clear hp hpn;generalize fq (aW kind pb qb ab) = k at *;generalize (cp (aW kind pb qb ab)).length = m at *;have hf0 := Fr.a1 w (.cells #[.int .i64 k,.int .i64 N,.slice A m c] 332);have hx := Blk.new w 332 #[.int .i64 k,.int .i64 N,.slice A m c];have HF := Hd hf0;have HCC := Hd (HC _ _ (h.fr hf0 ii));have HE := Hd hE;have HV := Hd hv;have H0E := Hd h0e;have hel : me < w.heap.size := hE.lt;have x0 := hx.c0;have x1 := hx.c1;have x2 := hx.c2;have hrg : ∀ W,Fr (fun _ => False) w W → (Instr.range 154 (.map (some me))).run prog W = .ok (.pointer (some ⟨W.heap.size,0,none⟩)) (W.alloc (.mapIter (some me) ce #[] ce)) := fun W hW => (ef (α := Edge) (HE.fr hW id) 154 71 3 underlying154).1;have HRG := Hd hrg;clear h hf0 hx hE hv h0e HC hrg;go_enter func235,ntmps235;go_wp2_with fail;refine HCC.mono ?_;rintro e2 w2 ⟨w0,B,K,fb,mb,re,ro,rb,rfl,hM,hf0,hre,hro,hrb,hfb,hFI,hf2⟩;have HF2 := Hd (HF.trans' hf2);have hr2 := HRG.out w2 HF2.out;have hw0 : w.heap.size ≤ w0.heap.size := by have := (HF.trans' hf0).size; omega
 have HM := Hd hM;have HFI := Hd hFI;have F23 : Fr (fun _ => False) w (w2.alloc (.mapIter (some me) ce #[] ce)) := HF2.alloc _;have HF23 := Hd (show Fr (fun _ => False) w2 (w2.alloc (.mapIter (some me) ce #[] ce)) from (Fr.refl _ w2).alloc _);have hit : bp (α := Edge) (w2.alloc (.mapIter (some me) ce #[] ce)) w2.heap.size me ce [] := heap_alloc_new w2 _;have HIT := Hd hit;have HF3 := Hd F23;have hs2 := HF2.size;have hz3 := al1 w2 (.mapIter (some me) ce #[] ce);clear hM hf0 hFI hf2 hit F23 x0 x1 x2 HCC;go_wp2_with fail;clear hr2;generalize (w2.alloc (.mapIter (some me) ce #[] ce)) = w3 at *
 go_loopw [] (fun wr => ∃ (seen : List (Ent Edge)),bp wr w2.heap.size me ce seen ∧ (∀ e ∈ seen,e ∈ es) ∧ (seen.map (·.b)).Nodup ∧ Fr (fun j => j = w2.heap.size) w3 wr) (fun wr => es.length - (wr.iterSeen w2.heap.size).size)
 case atStart => exact ⟨[],HIT,(fun e he => by cases he),List.nodup_nil,Fr.refl _ _⟩
 case round =>
  obtain ⟨seen,hit,hsubs,hnd,hfr⟩ := hrel;have HFR := Hd hfr;have hfw : Fr (fun _ => False) w wr := HF3.trans hfr (fun i hi h => by have h : i = w2.heap.size := h; omega);have hgb := HE.fr hfw id;rcases dV (P := prog) hgb hit hsubs 0 with ⟨hall,hrun⟩ | ⟨e,he,hes,w8,hrun,hit8,hg8,hf8⟩
  · have hnx : ∀ ty,(Instr.next (.pointer (some ⟨w2.heap.size,0,none⟩)) false ty).run prog wr = _ := fun _ => hrun;have hln : ∀ ty,(Builtin.len_ #[154] ty #[.map (some me)]).run prog wr = .ok (.int .i64 (es.length : Int)) wr := fun ty => oj hgb 154 71 3 underlying154 ty;have hl5 : ¬ (10000 : Int) < (es.length : Int) := jj;have hr4 := HRG.out wr hfw;have hit4 : bp (α := Edge) (wr.alloc (.mapIter (some me) ce #[] ce)) wr.heap.size me ce [] := heap_alloc_new wr _;have HIT4 := Hd hit4;have hz4 := al1 wr (.mapIter (some me) ce #[] ce);have HF4 := Hd (hfw.alloc (.mapIter (some me) ce #[] ce));have F24 : Fr (fun _ => False) w2 (wr.alloc (.mapIter (some me) ce #[] ce)) := ((HF23.trans hfr (fun i hi h => by have h : i = w2.heap.size := h; omega))).alloc _;have HFI4 := Hd (HFI.frF F24);have hs24 := hfw.size;have hs2r : w2.heap.size ≤ wr.heap.size := by have := (HF23.trans (S := fun _ => False) hfr (fun i hi h => by have h : i = w2.heap.size := h; omega)).size; omega
    have hmw := HFI.mw.size;have hri0 : w0.heap.size ≤ wr.heap.size := jj;clear hrun hall hit hsubs hnd hfr hfw hgb hit4 F24 HFI HIT;go_wp2_with fail;clear hr4 hnx hln;generalize (wr.alloc (.mapIter (some me) ce #[] ce)) = w4 at *;generalize wr.heap.size = ri at *
    go_loopw [] (fun wq => ∃ (seen : List (Ent Edge)) (le : List (Ent Edge)) (ce1 : Nat) (lo : List (Ent Int)) (co : Nat) (om : Nat → List (Ent Edge) × Nat) (l : List (Ent Place)) (c : Nat),bp wq ri me ce seen ∧ (∀ e ∈ seen,e ∈ es) ∧ (seen.map (·.b)).Nodup ∧ FI kind (φ pb) (φ qb) (φ ab) (keysOf es) w0 fb mb re ro rb wq le ce1 lo co om l c ∧ keysOf le = seen.map (·.k) ∧ Fr (fun j => w0.heap.size ≤ j) w wq) (fun wq => es.length - (wq.iterSeen ri).size)
    case atStart => exact ⟨[],[],0,[],0,_,[],0,HIT4,(fun e he => by cases he),List.nodup_nil,HFI4,rfl,HF4.mono uu⟩
    case round =>
     clear HIT4 HFI4 HF4;obtain ⟨seen,le,ce1,lo,co,om,l,c,hit,hsubs,hnd,hfi,hkl,hfr⟩ := hrel;have HFR := Hd hfr;have HFI := Hd hfi;have HKL := Hd hkl;have HSUBS := Hd hsubs;have hgb := HE.fr hfr (fun h => by omega);rcases dV (P := prog) hgb hit hsubs 0 with ⟨hall,hrun⟩ | ⟨e,he,hes,w8,hrun,hit8,hg8,hf8⟩
     · have hnx : ∀ ty,(Instr.next (.pointer (some ⟨ri,0,none⟩)) false ty).run prog wr = _ := fun _ => hrun;have HP := Hd (yI wr (HM.frF hfi.mw) hfi.fo hfi.best);have HCL := Hd (hfi.closed_all (fun k hk => by
        obtain ⟨e,he,rfl⟩ := List.mem_map.1 hk;rw [hkl];exact List.mem_map.2 ⟨e,hall e he,rfl⟩))
       clear hrun hall hit hsubs hnd hfi hkl hfr hgb;go_wp2_with (go_at_call 286; refine HP.mono ?_; rintro e9 w9 ⟨r9,c9,L9,rfl,hg9,hk9,hf9⟩);have HG9 := Hd hg9;have HK9 := Hd hk9;have HF9 := Hd ((HFR.andF hf9).mono (T := fun j => w.heap.size ≤ j) (fun j _ h => by have h : w0.heap.size ≤ j := h; show w.heap.size ≤ j; omega) |>.shut (Nat.le_refl _));clear hg9 hk9 hf9;go_wp2_with fail;go_ret2;refine ⟨r9,c9,L9,rfl,HG9,fun x y => ?_,HF9⟩;rw [HK9.out,DY,HCL.out.pairs hkind]
     · have hnx : ∀ ty,(Instr.next (.pointer (some ⟨ri,0,none⟩)) false ty).run prog wr = _ := fun _ => hrun;have hen8 := dt (P := prog) hg8 hit8 he;have hev := HV.out e he;have hcome := eE HE.2.2.1 hsubs hnd he hes;have HC := Hd hcome;have HMS := Hd hit.seen;have HIT8 := Hd hit8;have HE2 := Hd he;have hfi8 := hfi.frI hit hf8 hri0;have hke : e.k ∈ keysOf es := List.mem_map.2 ⟨e,he,rfl⟩;have hkn : e.k ∉ keysOf le := by
        rw [hkl];intro h;obtain ⟨e2,h2,h3⟩ := List.mem_map.1 h;have h4 : ∀ (m : List (Ent Edge)),(m.map (·.k)).Nodup → e2 ∈ m → e ∈ m → e2 = e := fun m => by
         induction m with
         | nil => intro _ h; cases h
         | cons a m ih =>
          intro hn h5 h6;have hn' := List.nodup_cons.1 hn;rcases List.mem_cons.1 h5 with rfl | h5' <;> rcases List.mem_cons.1 h6 with rfl | h6'
          · rfl
          · exact absurd (List.mem_map.2 ⟨e,h6',h3.symm⟩) hn'.1
          · exact absurd (List.mem_map.2 ⟨e2,h5',h3⟩) hn'.1
          · exact ih hn'.2 h5' h6'
        rw [h4 es HE.out.2.1 (hsubs e2 h2) he] at h2;exact hes h2
       have hll : le.length < 10000 := by
        have h1 : (keysOf le).length = le.length := by simp [keysOf]
        rw [hkl,List.length_map] at h1;have := hcome.2;omega
       obtain ⟨ek,hek⟩ : ∃ ek,ek = e.k := ⟨_,rfl⟩;have HA := Hd (fun (W : World) (hf : Fr (fun _ => False) w8 W) => D6 HM.out hrb hro hre ek W (hfi8.frF hf) (by rw [hek]; exact hkn) (by rw [hek]; exact hke) hll (by rw [hek]; exact H0E _ hke));have HFI8 := Hd hfi8;have HF8 := Hd hf8;rw [hev] at hrun hen8;rw [← hek] at hrun hen8;have HEK := Hd hek;simp only [k3] at hrun hen8 hnx;clear hrun hit hsubs hnd hfi hkl hfr hgb hes hit8 hg8 hf8 hcome hfi8 hke hkn hll hev hek he;go_wp2_with (go_at_call 285; refine (HA _ ((Fr.refl _ _).alloc _)).mono ?_; rintro e9 w9 ⟨rfl,le9,ce9,lo9,co9,om9,l9,c9,hfi9,hk9,hf9⟩);have hnR : ∀ j,j = re ∨ j = rb ∨ j = ro ∨ (∃ e ∈ lo,e.v = .map (some j)) → j ≠ ri := fun j hj h => by
        have h4 := HIT8.out;unfold bp at h4;have hF := HFI8.fo;have hm : ∃ es c,w8.heap[ri]? = some (.map es c) := by
         rcases hj with h5 | h5 | h5 | ⟨e5,h5,h6⟩
         · rw [← h,h5]; exact ⟨_,_,hF.edges.1⟩
         · rw [← h,h5]; exact ⟨_,_,HFI8.best.1.1⟩
         · rw [← h,h5]; exact ⟨_,_,hF.out.1⟩
         · obtain ⟨r,g1,g2,_⟩ := hF.ov e5 h5;rw [h6] at g1;injection g1 with g1;injection g1 with g1;rw [← h,g1];exact ⟨_,_,g2.1⟩
        obtain ⟨es5,c5,hm⟩ := hm;rw [h4] at hm;cases hm
       have hi9 := (HIT8.fr (S := fun _ => False) ((Fr.refl _ w8).alloc (.cells #[.int .i64 ek.1,.int .i64 ek.2.1,.int .i64 ek.2.2] 71)) id).fr hf9 (fun h => hnR ri h rfl);have HI9 := Hd hi9;have HFI9 := Hd hfi9;have HK9 := Hd hk9;have HF9 := Hd (show Fr (fun j => w0.heap.size ≤ j) w w9 from ((HFR.trans HF8 (fun i _ h => by have h : i = ri := h; show w0.heap.size ≤ i; omega)).alloc _).trans hf9 (fun j _ hj => by
        rcases hj with h5 | h5 | h5 | ⟨e5,h5,h6⟩
        · show w0.heap.size ≤ j; omega
        · show w0.heap.size ≤ j; omega
        · show w0.heap.size ≤ j; omega
        · exact HFI8.low e5 h5 j h6))
       clear hi9 hfi9 hk9 hf9 hnR;go_roundw
       case rel =>
        refine ⟨seen ++ [e],le9,ce9,lo9,co9,om9,l9,c9,HI9,fun x hx => ?_,HC.1,HFI9,?_,HF9⟩
        · rcases List.mem_append.1 hx with h | h
          · exact HSUBS.out x h
          · rw [List.mem_singleton.1 h]; exact HE2.out
        · rw [HK9.out,HKL.out,List.map_append,HEK.out];rfl
       case measure =>
        rw [HMS.out,HI9.out.seen];have := HC.2;simp only [List.length_append,List.length_cons,List.length_nil];omega
  · have hnx : ∀ ty,(Instr.next (.pointer (some ⟨w2.heap.size,0,none⟩)) false ty).run prog wr = _ := fun _ => hrun;have hen8 := dt (P := prog) hg8 hit8 he;have hev := HV.out e he;have hcome := eE HE.2.2.1 hsubs hnd he hes;have HC := Hd hcome;have HMS := Hd hit.seen;have HSUBS := Hd hsubs;have HIT8 := Hd hit8;have HE2 := Hd he;have HF8 := Hd hf8;obtain ⟨ek,hek⟩ : ∃ ek,ek = e.k := ⟨_,rfl⟩;have HRI := Hd (fun (W : World) => ry ek W (by rw [hek]; exact H0E _ (List.mem_map.2 ⟨e,he,rfl⟩)));rw [hev] at hrun hen8;rw [← hek] at hrun hen8;simp only [k3] at hrun hen8 hnx;clear hrun hit hsubs hnd hfr hfw hgb hes hit8 hg8 hf8 hcome hev hek he;go_wp2_with (go_at_call 284; refine (HRI _).mono ?_; rintro e9 w9 ⟨rfl,hf9⟩);have hfa : Fr (fun _ => False) w8 w9 := ((Fr.refl _ w8).alloc _).trans' hf9;have hi9 := HIT8.fr hfa id;have HI9 := Hd hi9;have HF9 := Hd ((HFR.trans' HF8).andF hfa);clear hfa hf9 hi9
    try go_wp2_with fail
    go_roundw
    case rel =>
     refine ⟨seen ++ [e],HI9,fun x hx => ?_,HC.1,HF9⟩;rcases List.mem_append.1 hx with h | h
     · exact HSUBS.out x h
     · rw [List.mem_singleton.1 h]; exact HE2.out
    case measure =>
     rw [HMS.out,HI9.out.seen];have := HC.2;simp only [List.length_append,List.length_cons,List.length_nil];omega
section
/-! Tables: plain. -/
section
variable {α : Type} [DecidableEq α]
def cQ : List α → List Int → α → Int
 | u :: vs,n :: row,v => if u = v then n else cQ vs row v
 | _,_,_ => -1
def fu (vsB : List α) (y : List Int) : List α → List Int → Bool
 | v :: vs,n :: x => !(decide (0 ≤ cQ vsB y v) && decide (0 ≤ n) && decide (cQ vsB y v ≠ n)) && fu vsB y vs x
 | _,_ => true
def fJ (vsA vsB vsC : List α) (x y : List Int) : List Int := vsC.map fun v => max (cQ vsA x v) (cQ vsB y v)
def aN (vsA : List α) (A : List (List Int)) (vsB : List α) (B : List (List Int)) (vsC : List α) : List (List Int) :=
 A.flatMap fun x => (B.filter fun y => fu vsB y vsA x).map fun y => fJ vsA vsB vsC x y
def ei (vs : List α) (vsC : List α) (A : List (List Int)) : List (List Int) := A.map fun x => vsC.map fun v => cQ vs x v
theorem iu {vsA : List α} {vsB : List α} {B : List (List Int)} {vsC : List α} :
    r ∈ aN vsA A vsB B vsC ↔ ∃ x ∈ A,∃ y ∈ B,fu vsB y vsA x = true ∧ r = fJ vsA vsB vsC x y := by
 unfold aN;simp only [List.mem_flatMap,List.mem_map,List.mem_filter];constructor
 · rintro ⟨x,hx,y,⟨hy,hc⟩,rfl⟩;exact ⟨x,hx,y,hy,hc,rfl⟩
 · rintro ⟨x,hx,y,hy,hc,rfl⟩;exact ⟨x,hx,y,⟨hy,hc⟩,rfl⟩
theorem te (vsB : List α) (B : List (List Int)) (hB : ∀ y ∈ B,vsB.map (fun v => max (-1) (cQ vsB y v)) = y) : aN ([] : List α) [[]] vsB B vsB = B := by
 unfold aN;simp only [List.flatMap_cons,List.flatMap_nil,List.append_nil];have h1 : (B.filter fun y => fu vsB y ([] : List α) []) = B := List.filter_eq_self.2 (fun y _ => rfl);rw [h1]
 conv => rhs; rw [← List.map_id B]
 apply List.map_congr_left;intro y hy;exact hB y hy
def b7 (m : Nat) (A : List (List Int)) : Prop := ∀ x ∈ A,x.length = m ∧ ∀ n ∈ x,0 ≤ n
theorem gz (h : b7 2 A) {x : List Int} (hx : x ∈ A) : ∃ a b,x = [a,b] ∧ 0 ≤ a ∧ 0 ≤ b := by
 obtain ⟨h1,h2⟩ := h x hx
 match x,h1 with
 | [a,b],_ => exact ⟨a,b,rfl,h2 a (by simp),h2 b (by simp)⟩
theorem D8 (h : b7 3 A) {x : List Int} (hx : x ∈ A) : ∃ a b c,x = [a,b,c] ∧ 0 ≤ a ∧ 0 ≤ b ∧ 0 ≤ c := by
 obtain ⟨h1,h2⟩ := h x hx
 match x,h1 with
 | [a,b,c],_ => exact ⟨a,b,c,rfl,h2 a (by simp),h2 b (by simp),h2 c (by simp)⟩
theorem jc {t x y : α} (h1 : t ≠ x) (h2 : t ≠ y) (h3 : x ≠ y) {A B : List (List Int)} (hA : b7 2 A) (hB : b7 2 B) :
    b7 3 (aN [t,x] A [t,y] B [t,x,y]) ∧ ∀ a b c,[a,b,c] ∈ aN [t,x] A [t,y] B [t,x,y] ↔ [a,b] ∈ A ∧ [a,c] ∈ B := by
 have key : ∀ r,r ∈ aN [t,x] A [t,y] B [t,x,y] ↔ ∃ a b c,r = [a,b,c] ∧ [a,b] ∈ A ∧ [a,c] ∈ B := by
  intro r;rw [iu];constructor
  · rintro ⟨u,hu,v,hv,hc,rfl⟩;obtain ⟨a,b,rfl,ha,hb⟩ := gz hA hu;obtain ⟨a',c,rfl,ha',hc'⟩ := gz hB hv;simp [fu,cQ,h1,h2,h3,h1.symm,h2.symm,h3.symm,ha,hb,ha',hc'] at hc;subst hc;refine ⟨a',b,c,?_,hu,hv⟩;simp [fJ,cQ,h1,h2,h3,h1.symm,h2.symm,h3.symm];omega
  · rintro ⟨a,b,c,rfl,hu,hv⟩;obtain ⟨_,_,e,ha,hb⟩ := gz hA hu;simp at e;obtain ⟨rfl,rfl⟩ := e;obtain ⟨_,_,e,ha',hc'⟩ := gz hB hv;simp at e;obtain ⟨rfl,rfl⟩ := e;refine ⟨_,hu,_,hv,?_,?_⟩
    · simp [fu,cQ,h1,h2,h3,h1.symm,h2.symm,h3.symm]
    · simp [fJ,cQ,h1,h2,h3,h1.symm,h2.symm,h3.symm];omega
 refine ⟨fun r hr => ?_,fun a b c => ?_⟩
 · obtain ⟨a,b,c,rfl,hu,hv⟩ := (key r).1 hr;have h4 := (hA _ hu).2;have h5 := (hB _ hv).2;refine ⟨rfl,fun n hn => ?_⟩;simp at hn h4 h5;rcases hn with rfl | rfl | rfl
   · exact h4.1
   · exact h4.2
   · exact h5.2
 · rw [key];constructor
   · rintro ⟨_,_,_,e,h⟩;simp at e;obtain ⟨rfl,rfl,rfl⟩ := e;exact h
   · exact fun h => ⟨a,b,c,rfl,h⟩
theorem yK {s t x : α} (h1 : s ≠ t) (h2 : s ≠ x) (h3 : t ≠ x) {A B : List (List Int)} (hA : b7 2 A) (hB : b7 2 B) :
    b7 3 (aN [t,x] A [s,t] B [s,t,x]) ∧ ∀ a b c,[a,b,c] ∈ aN [t,x] A [s,t] B [s,t,x] ↔ [b,c] ∈ A ∧ [a,b] ∈ B := by
 have key : ∀ r,r ∈ aN [t,x] A [s,t] B [s,t,x] ↔ ∃ a b c,r = [a,b,c] ∧ [b,c] ∈ A ∧ [a,b] ∈ B := by
  intro r;rw [iu];constructor
  · rintro ⟨u,hu,v,hv,hc,rfl⟩;obtain ⟨b,c,rfl,hb,hc'⟩ := gz hA hu;obtain ⟨a,b',rfl,ha,hb'⟩ := gz hB hv;simp [fu,cQ,h1,h2,h3,h1.symm,h2.symm,h3.symm,ha,hb,hb',hc'] at hc;subst hc;refine ⟨a,b',c,?_,hu,hv⟩;simp [fJ,cQ,h1,h2,h3,h1.symm,h2.symm,h3.symm];omega
  · rintro ⟨a,b,c,rfl,hu,hv⟩;obtain ⟨_,_,e,hb,hc⟩ := gz hA hu;simp at e;obtain ⟨rfl,rfl⟩ := e;obtain ⟨_,_,e,ha,hb'⟩ := gz hB hv;simp at e;obtain ⟨rfl,rfl⟩ := e;refine ⟨_,hu,_,hv,?_,?_⟩
    · simp [fu,cQ,h1,h2,h3,h1.symm,h2.symm,h3.symm]
    · simp [fJ,cQ,h1,h2,h3,h1.symm,h2.symm,h3.symm];omega
 refine ⟨fun r hr => ?_,fun a b c => ?_⟩
 · obtain ⟨a,b,c,rfl,hu,hv⟩ := (key r).1 hr;have h4 := (hA _ hu).2;have h5 := (hB _ hv).2;refine ⟨rfl,fun n hn => ?_⟩;simp at hn h4 h5;rcases hn with rfl | rfl | rfl
   · exact h5.1
   · exact h4.1
   · exact h4.2
 · rw [key];constructor
   · rintro ⟨_,_,_,e,h⟩;simp at e;obtain ⟨rfl,rfl,rfl⟩ := e;exact h
   · exact fun h => ⟨a,b,c,rfl,h⟩
theorem wa {s t x y : α} (h1 : s ≠ t) (h2 : s ≠ x) (h3 : s ≠ y) (h4 : t ≠ x) (h5 : t ≠ y) (h6 : x ≠ y) {A B : List (List Int)} (hA : b7 3 A) (hB : b7 2 B) :
    ∀ r,r ∈ aN [s,t,x] A [s,y] B [s,t,x,y] ↔ ∃ a b c d,r = [a,b,c,d] ∧ [a,b,c] ∈ A ∧ [a,d] ∈ B := by
 intro r;rw [iu];constructor
 · rintro ⟨u,hu,v,hv,hc,rfl⟩;obtain ⟨a,b,c,rfl,ha,hb,hc'⟩ := D8 hA hu;obtain ⟨a',d,rfl,ha',hd⟩ := gz hB hv;simp [fu,cQ,h1,h2,h3,h4,h5,h6,h1.symm,h2.symm,h3.symm,h4.symm,h5.symm,h6.symm,ha,hb,ha',hc',hd] at hc;subst hc;refine ⟨a',b,c,d,?_,hu,hv⟩;simp [fJ,cQ,h1,h2,h3,h4,h5,h6,h1.symm,h2.symm,h3.symm,h4.symm,h5.symm,h6.symm];omega
 · rintro ⟨a,b,c,d,rfl,hu,hv⟩;obtain ⟨_,_,_,e,ha,hb,hc⟩ := D8 hA hu;simp at e;obtain ⟨rfl,rfl,rfl⟩ := e;obtain ⟨_,_,e,ha',hd⟩ := gz hB hv;simp at e;obtain ⟨rfl,rfl⟩ := e;refine ⟨_,hu,_,hv,?_,?_⟩
   · simp [fu,cQ,h1,h2,h3,h4,h5,h6,h1.symm,h2.symm,h3.symm,h4.symm,h5.symm,h6.symm]
   · simp [fJ,cQ,h1,h2,h3,h4,h5,h6,h1.symm,h2.symm,h3.symm,h4.symm,h5.symm,h6.symm];omega
end
end
section
/-! What the triples' tables say: plain. -/
def aB (rev : Bool) (l : List Edge) : List (List Int) := l.map fun k => if rev then [k.2.2,k.1] else [k.1,k.2.2]
theorem jP {rev : Bool} {l : List Edge} : r ∈ aB rev l ↔ ∃ k ∈ l,r = if rev then [k.2.2,k.1] else [k.1,k.2.2] := by
 unfold aB;rw [List.mem_map];exact ⟨fun ⟨k,h,e⟩ => ⟨k,h,e.symm⟩,fun ⟨k,h,e⟩ => ⟨k,h,e.symm⟩⟩
def OfP (S : Int → List Edge) (E : List Edge) (n : Int) : Prop := ∀ k,k ∈ S n ↔ k ∈ E ∧ k.2.1 = n
theorem gB (h : OfP S E n) (a b : Int) : [a,b] ∈ aB false (S n) ↔ (a,n,b) ∈ E := by
 rw [jP];constructor
 · rintro ⟨⟨x,y,z⟩,hk,e⟩;obtain ⟨h1,h2⟩ := (h _).1 hk;simp at e h2;obtain ⟨rfl,rfl⟩ := e;subst h2;exact h1
 · exact fun hk => ⟨_,(h _).2 ⟨hk,rfl⟩,by simp⟩
theorem gC (h : OfP S E n) (a b : Int) : [a,b] ∈ aB true (S n) ↔ (b,n,a) ∈ E := by
 rw [jP];constructor
 · rintro ⟨⟨x,y,z⟩,hk,e⟩;obtain ⟨h1,h2⟩ := (h _).1 hk;simp at e h2;obtain ⟨rfl,rfl⟩ := e;subst h2;exact h1
 · exact fun hk => ⟨_,(h _).2 ⟨hk,rfl⟩,by simp⟩
theorem tg (rev : Bool) (h : OfP S E n) (h0 : ∀ k ∈ E,0 ≤ k.1 ∧ 0 ≤ k.2.1 ∧ 0 ≤ k.2.2) : b7 2 (aB rev (S n)) := by
 intro r hr;obtain ⟨k,hk,rfl⟩ := jP.1 hr;have := h0 k ((h k).1 hk).1;cases rev <;> simp <;> omega
section
variable {α : Type} [DecidableEq α]
def cM (s t x y : α) (kind : Nat) (S : Int → List Edge) (p q a : Int) : List (List Int) :=
 match kind with
 | 0 => aN [t,x] (aB true (S p)) [t,y] (aB false (S q)) [t,x,y]
 | 1 => aN [t,x] (aB true (S p)) [t,y] (aB true (S p)) [t,x,y]
 | 2 => aB false (S p) ++ aB false (S q)
 | 3 => aB true (S a)
 | 4 => aN [s,t,x] (aN [t,x] (aB true (S p)) [s,t] (aB true (S q)) [s,t,x]) [s,y] (aB false (S a)) [s,t,x,y]
 | _ => aN [t,x] (aB true (S p)) [t,y] (aB false (S q) ++ aB false (S p)) [t,x,y]
def bR (s t x y : α) (kind : Nat) : List α := match kind with | 0 => [t,x,y] | 1 => [t,x,y] | 2 => [x,y] | 3 => [x,y] | 4 => [s,t,x,y] | _ => [t,x,y]
theorem b7.app {B : List (List Int)} (h : b7 m A) (k : b7 m B) : b7 m (A ++ B) := fun x hx => (List.mem_append.1 hx).elim (h x) (k x)
theorem yL {t x y : α} (h1 : t ≠ x) (h2 : t ≠ y) (h3 : x ≠ y) {A : List (List Int)} (hA : b7 3 A) (r : List Int) : r ∈ ei [t,x,y] [x,y] A ↔ ∃ a b c,r = [b,c] ∧ [a,b,c] ∈ A := by
 unfold ei;rw [List.mem_map];constructor
 · rintro ⟨u,hu,rfl⟩;obtain ⟨a,b,c,rfl,_⟩ := D8 hA hu;exact ⟨a,b,c,by simp [cQ,h1,h2,h3],hu⟩
 · rintro ⟨a,b,c,rfl,hu⟩;exact ⟨_,hu,by simp [cQ,h1,h2,h3]⟩
theorem CF {x y : α} (h3 : x ≠ y) {A : List (List Int)} (hA : b7 2 A) (r : List Int) : r ∈ ei [x,y] [x,y] A ↔ r ∈ A := by
 unfold ei;rw [List.mem_map];constructor
 · rintro ⟨u,hu,rfl⟩;obtain ⟨a,b,rfl,_⟩ := gz hA hu;simpa [cQ,h3] using hu
 · intro hu;obtain ⟨a,b,rfl,_⟩ := gz hA hu;exact ⟨_,hu,by simp [cQ,h3]⟩
theorem we {s t x y : α} (h1 : s ≠ t) (h2 : s ≠ x) (h3 : s ≠ y) (h4 : t ≠ x) (h5 : t ≠ y) (h6 : x ≠ y) (kind : Nat) (hk : kind < 6) (S : Int → List Edge) (E : List Edge) (p q a : Int) (hp : OfP S E p) (hq : OfP S E q) (ha : OfP S E a) (h0 : ∀ k ∈ E,0 ≤ k.1 ∧ 0 ≤ k.2.1 ∧ 0 ≤ k.2.2) (r : List Int) :
    r ∈ ei (bR s t x y kind) [x,y] (cM s t x y kind S p q a) ↔ ∃ u v,r = [u,v] ∧ bZ kind p q a E u v := by
 have np := fun rev => tg rev hp h0;have nq := fun rev => tg rev hq h0;have na := fun rev => tg rev ha h0;obtain rfl | rfl | rfl | rfl | rfl | rfl : kind = 0 ∨ kind = 1 ∨ kind = 2 ∨ kind = 3 ∨ kind = 4 ∨ kind = 5 := jj
 · have hj := jc h4 h5 h6 (np true) (nq false);simp only [bR,cM,bZ];rw [yL h4 h5 h6 hj.1];simp only [hj.2,gC hp,gB hq];exact ⟨fun ⟨a,b,c,e,h⟩ => ⟨b,c,e,a,h⟩,fun ⟨b,c,e,a,h⟩ => ⟨a,b,c,e,h⟩⟩
 · have hj := jc h4 h5 h6 (np true) (np true);simp only [bR,cM,bZ];rw [yL h4 h5 h6 hj.1];simp only [hj.2,gC hp];exact ⟨fun ⟨a,b,c,e,h⟩ => ⟨b,c,e,a,h⟩,fun ⟨b,c,e,a,h⟩ => ⟨a,b,c,e,h⟩⟩
 · simp only [bR,cM,bZ];rw [CF h6 ((np false).app (nq false)),List.mem_append];constructor
   · rintro (h | h)
     · obtain ⟨u,v,rfl,_⟩ := gz (np false) h;exact ⟨u,v,rfl,.inl ((gB hp _ _).1 h)⟩
     · obtain ⟨u,v,rfl,_⟩ := gz (nq false) h;exact ⟨u,v,rfl,.inr ((gB hq _ _).1 h)⟩
   · rintro ⟨u,v,rfl,h | h⟩
     · exact .inl ((gB hp _ _).2 h)
     · exact .inr ((gB hq _ _).2 h)
 · simp only [bR,cM,bZ];rw [CF h6 (na true)];constructor
   · intro h;obtain ⟨u,v,rfl,_⟩ := gz (na true) h;exact ⟨u,v,rfl,(gC ha _ _).1 h⟩
   · rintro ⟨u,v,rfl,h⟩;exact (gC ha _ _).2 h
 · have hj := yK h1 h2 h4 (np true) (nq true);have hq4 := wa h1 h2 h3 h4 h5 h6 hj.1 (na false);simp only [bR,cM,bZ,ei];rw [List.mem_map];constructor
   · rintro ⟨w,hw,rfl⟩;obtain ⟨b,c,d,e,rfl,hm1,hm2⟩ := (hq4 w).1 hw;have hm := (hj.2 _ _ _).1 hm1;exact ⟨d,e,by simp [cQ,h1,h2,h3,h4,h5,h6],c,b,(gC hp _ _).1 hm.1,(gC hq _ _).1 hm.2,(gB ha _ _).1 hm2⟩
   · rintro ⟨d,e,rfl,c,b,m1,m2,m3⟩;exact ⟨_,(hq4 _).2 ⟨b,c,d,e,rfl,(hj.2 _ _ _).2 ⟨(gC hp _ _).2 m1,(gC hq _ _).2 m2⟩,(gB ha _ _).2 m3⟩,by simp [cQ,h1,h2,h3,h4,h5,h6]⟩
 · have hj := jc h4 h5 h6 (np true) ((nq false).app (np false));simp only [bR,cM,bZ];rw [yL h4 h5 h6 hj.1];simp only [hj.2,gC hp,List.mem_append,gB hq,gB hp];exact ⟨fun ⟨a,b,c,e,h⟩ => ⟨b,c,e,a,h⟩,fun ⟨b,c,e,a,h⟩ => ⟨a,b,c,e,h⟩⟩
end
end
/-! Names of rows, rows once, the same rows: plain. -/
theorem wg (u : Nat) : ∀ c ∈ Lib.decDigits u,48 ≤ c.toNat ∧ c.toNat ≤ 57 := by
 induction u using Nat.strongRecOn with
 | _ u ih =>
  intro c hc;rw [Lib.decDigits] at hc;split at hc
  · rename_i h;rw [List.mem_singleton.1 hc];have : (UInt8.ofNat (48 + u)).toNat = 48 + u := by rw [UInt8.toNat_ofNat']; omega
    rw [this];omega
  · rename_i h;rcases List.mem_append.1 hc with hc | hc
    · exact ih (u / 10) jj c hc
    · rw [List.mem_singleton.1 hc];have : (UInt8.ofNat (48 + u % 10)).toNat = 48 + u % 10 := by rw [UInt8.toNat_ofNat']; omega
      rw [this];omega
def pL (l : List UInt8) : Nat := l.foldl (fun a c => a * 10 + (c.toNat - 48)) 0
theorem mi (u : Nat) : pL (Lib.decDigits u) = u := by
 induction u using Nat.strongRecOn with
 | _ u ih =>
  rw [Lib.decDigits];split
  · rename_i h;have : (UInt8.ofNat (48 + u)).toNat = 48 + u := by rw [UInt8.toNat_ofNat']; omega
    simp only [pL,List.foldl_cons,List.foldl_nil];rw [this];omega
  · rename_i h;have ih := ih (u / 10) jj;have : (UInt8.ofNat (48 + u % 10)).toNat = 48 + u % 10 := by rw [UInt8.toNat_ofNat']; omega
    unfold pL at ih ⊢;rw [List.foldl_append,ih];simp only [List.foldl_cons,List.foldl_nil];rw [this];omega
theorem rz {b : Int} (ha : 0 ≤ a) (hb : 0 ≤ b) (h : Lib.itoa a = Lib.itoa b) : a = b := by
 unfold Lib.itoa at h;rw [if_neg jj,if_neg jj] at h;have := congrArg pL h;rw [mi,mi] at this;omega
theorem iw (ha : 0 ≤ a) : ∀ c ∈ Lib.itoa a,c ≠ 32 := by
 unfold Lib.itoa;rw [if_neg jj];intro c hc e;have := wg _ c hc;rw [e] at this;exact absurd this.1 de
theorem uF {l m r s : List UInt8} (hl : ∀ c ∈ l,c ≠ 32) (hm : ∀ c ∈ m,c ≠ 32) (h : l ++ 32 :: r = m ++ 32 :: s) : l = m ∧ r = s := by
 induction l generalizing m with
 | nil =>
  cases m with
  | nil => simpa using h
  | cons a m =>
   simp at h;exact absurd h.1.symm (hm a (by simp))
 | cons a l ih =>
  cases m with
  | nil =>
   simp at h;exact absurd h.1 (hl a (by simp))
  | cons b m =>
   simp at h;obtain ⟨rfl,h⟩ := h;have := ih (m := m) (fun c hc => hl c (by simp [hc])) (fun c hc => hm c (by simp [hc])) h;exact ⟨by rw [this.1],this.2⟩
theorem oq (a b : Int) : aS [a,b] = ⟨(Lib.itoa a ++ 32 :: (Lib.itoa b ++ [32])).toArray⟩ := by
 unfold aS;simp only [List.length_cons,List.length_nil,fC];apply ByteArray.ext;simp [ByteArray.data_append]
theorem ot {x y : List Int} (hx : ∃ a b,x = [a,b] ∧ 0 ≤ a ∧ 0 ≤ b) (hy : ∃ a b,y = [a,b] ∧ 0 ≤ a ∧ 0 ≤ b) (h : aS x = aS y) : x = y := by
 obtain ⟨a,b,rfl,ha,hb⟩ := hx;obtain ⟨c,d,rfl,hc,hd⟩ := hy;rw [oq,oq] at h;have h := congrArg (fun z => z.data.toList) h;simp only [List.toList_toArray] at h;obtain ⟨h1,h2⟩ := uF (iw ha) (iw hc) h;obtain ⟨h3,_⟩ := uF (iw hb) (iw hd) h2;rw [rz ha hc h1,rz hb hd h3]
theorem yM (hl : b7 2 l) {x : List Int} (hx : ∃ a b,x = [a,b] ∧ 0 ≤ a ∧ 0 ≤ b) : jp l (aS x) = decide (x ∈ l) := by
 rw [Bool.eq_iff_iff];unfold jp;simp only [List.any_eq_true,decide_eq_true_eq];constructor
 · rintro ⟨y,hy,e⟩;rw [← ot (gz hl hy) hx e];exact hy
 · exact fun h => ⟨x,h,rfl⟩
theorem eA {i : Nat} (h : i < l.length) : l.getD i [] ∈ l := by
 rw [List.getD_eq_getElem?_getD,List.getElem?_eq_getElem h];exact List.getElem_mem h
theorem mj (l : List (List Int)) (hl : b7 2 l) : ∀ k,k ≤ l.length → (bn l (dC l) k).Nodup ∧ ∀ r,r ∈ bn l (dC l) k ↔ r ∈ l.take k
 | 0,_ => ⟨by simp [bn],fun r => by simp [bn]⟩
 | k + 1,hk => by
  have ih := mj l hl k jj;have ht := dp l k jj;have hlt : b7 2 (l.take k) := fun x hx => hl x (List.mem_of_mem_take hx);have hkd : dC l k = !decide (l.getD k [] ∈ l.take k) := by
   unfold dC;rw [yM hlt (gz hl (eA jj))]
  rw [gl,hkd,ht];by_cases h : l.getD k [] ∈ l.take k
  · rw [decide_eq_true h,if_neg de];refine ⟨ih.1,fun r => ?_⟩;rw [ih.2,List.mem_append];constructor
    · exact fun h => .inl h
    · rintro (h2 | h2)
      · exact h2
      · rw [List.mem_singleton.1 h2]; exact h
  · rw [decide_eq_false h,if_pos de];refine ⟨?_,fun r => by rw [List.mem_append,List.mem_append,ih.2]⟩;rw [List.nodup_append];refine ⟨ih.1,by simp,fun a ha b hb => ?_⟩;rw [List.mem_singleton.1 hb];rintro rfl;exact h ((ih.2 _).1 ha)
theorem mn (hl : b7 2 l) (hn : l.Nodup) {x : List Int} (hx : ∃ a b,x = [a,b] ∧ 0 ≤ a ∧ 0 ≤ b) : jq l (aS x) = if x ∈ l then 1 else 0 := by
 induction l with
 | nil => simp [jq]
 | cons a l ih =>
  have hla : b7 2 l := fun y hy => hl y (List.mem_cons_of_mem _ hy);have ih := ih hla (List.nodup_cons.1 hn).2;unfold jq at ih ⊢;rw [List.filter_cons];by_cases h : aS a = aS x
  · have e := ot (gz hl (by simp)) hx h;subst e;rw [if_pos (by simp),List.length_cons,ih,if_neg (List.nodup_cons.1 hn).1,if_pos (by simp)]
  · rw [if_neg (by simpa using h),ih];have : ¬ x = a := fun e => h (by rw [e]);simp [this]
theorem yN {m : List (List Int)} (hl : l.Nodup) (hm : m.Nodup) (h : ∀ r,r ∈ l ↔ r ∈ m) : l.length = m.length := by
 have h1 : ∀ {l m : List (List Int)},l.Nodup → (∀ r,r ∈ l → r ∈ m) → l.length ≤ m.length := by
  intro l
  induction l with
  | nil => intro m _ _; simp
  | cons a l ih =>
   intro m hn hs;have ha := hs a (by simp);have := ih (m := m.erase a) (List.nodup_cons.1 hn).2 (fun r hr => (List.mem_erase_of_ne (by rintro rfl; exact (List.nodup_cons.1 hn).1 hr)).2 (hs r (by simp [hr])));rw [List.length_erase_of_mem ha] at this;have h3 : 0 < m.length := List.length_pos_of_mem ha;simp;omega
 have a := h1 hl (fun r hr => (h r).1 hr);have b := h1 hm (fun r hr => (h r).2 hr);omega
theorem mo {ra rb : List (List Int)} (ha : b7 2 ra) (hb : b7 2 rb) (na : ra.Nodup) (nb : rb.Nodup) (h : ∀ r,r ∈ ra ↔ r ∈ rb) : ∀ k,k ≤ ra.length → bn ra (fP rb ra) k = []
 | 0,_ => rfl
 | k + 1,hk => by
  have ih := mo ha hb na nb h k jj;rw [gl,ih];have hx := gz ha (eA (show k < ra.length by omega));have hmem := eA (show k < ra.length by omega);have hm : fP rb ra k = false := by
   unfold fP dN;rw [List.take_of_length_le (Nat.le_refl _),mn hb nb hx,if_pos ((h _).1 hmem)];have hle := ve ra (aS (ra.getD k [])) (k + 1);rw [mn ha na hx,if_pos hmem] at hle;exact FX
  rw [hm,if_neg Bool.false_ne_true]
def mq (R : Int → Int → Prop) (x y : ByteArray) (w : World) (e : Ending) (w' : World) : Prop := ∃ R0 : List (List Int),aQ w 2 [x,y] R0 e w' ∧ R0.Nodup ∧ ∀ r,r ∈ R0 ↔ ∃ a b,r = [a,b] ∧ R a b
def dK (w : World) (me : Nat) (E : List Edge) : Prop := ∃ (es : List (Ent Edge)) (ce : Nat),be k3 w me es ce ∧ (∀ e ∈ es,e.v = .int .i64 aA) ∧ keysOf es = E
theorem dK.push {k : Edge} (h : dK w me E) (hk : k ∉ E) : ∃ w',(Instr.mapUpdate 154 (.map (some me)) (k3 k) (.int .i64 aA)).run prog w = .ok () w' ∧ dK w' me (E ++ [k]) ∧ Fr (fun j => j = me) w w' := by
 obtain ⟨es,ce,hg,hv,hks⟩ := h;obtain ⟨h1,h2⟩ := bK (P := prog) qF hg 154 3 underlying154 k (.int .i64 aA);have hh : b5 es k = false := by
  rw [Bool.eq_false_iff];intro h;exact hk (by rw [← hks]; exact (cH k es).1 h)
 have hs := j6 es k (.int .i64 aA) ce;rw [hh] at hs;refine ⟨_,h1,⟨_,_,h2,fun e he => ?_,?_⟩,be.set_fr _ _ _⟩
 · have hget := gX (l := ep es k (.int .i64 aA) ce) h2.2.1 he;rw [xC] at hget;split at hget
   · exact (Option.some.inj hget).symm
   · obtain ⟨e2,he2,_,hv2⟩ := fi hget;rw [← hv2];exact hv e2 he2
 · unfold keysOf at hks ⊢;rw [hs,hks];simp
theorem dK.fr {S : Nat → Prop} (h : dK w me E) (hf : Fr S w w') (hn : ¬ S me) : dK w' me E := by
 obtain ⟨es,ce,hg,hv,hks⟩ := h;exact ⟨es,ce,hg.fr hf hn,hv,hks⟩
theorem dK.lt (h : dK w me E) : me < w.heap.size := by
 obtain ⟨es,ce,hg,_⟩ := h;exact hg.lt
theorem gD {α β : Type} (f : α → β) : ∀ l : List α,(l.map f).Nodup → l.Nodup
 | [],_ => List.nodup_nil
 | a :: l,h => by
  rw [List.map_cons,List.nodup_cons] at h;exact List.nodup_cons.2 ⟨fun hm => h.1 (List.mem_map.2 ⟨a,hm,rfl⟩),gD f l h.2⟩
theorem key_inj {α β : Type} (f : α → β) : ∀ l : List α,(l.map f).Nodup → ∀ a ∈ l,∀ b ∈ l,f a = f b → a = b
 | [],_,a,h,_,_,_ => by cases h
 | c :: l,hn,a,ha,b,hb,e => by
  rw [List.map_cons,List.nodup_cons] at hn;rcases List.mem_cons.1 ha with rfl | ha' <;> rcases List.mem_cons.1 hb with rfl | hb'
  · rfl
  · exact absurd (List.mem_map.2 ⟨b,hb',e.symm⟩) hn.1
  · exact absurd (List.mem_map.2 ⟨a,ha',e⟩) hn.1
  · exact key_inj f l hn.2 a ha' b hb' e
theorem jd (L : List (Ent (Int × Int))) (hk : (L.map (·.k)).Nodup) : ∀ s : List (Ent (Int × Int)),s.Nodup → (∀ e ∈ s,e ∈ L) → (s.map fun e => [e.k.1,e.k.2]).Nodup
 | [],_,_ => List.nodup_nil
 | a :: s,hn,hs => by
  rw [List.nodup_cons] at hn;rw [List.map_cons,List.nodup_cons];refine ⟨fun hm => ?_,jd L hk s hn.2 (fun e he => hs e (List.mem_cons_of_mem _ he))⟩;obtain ⟨b,hb,e⟩ := List.mem_map.1 hm;simp only [List.cons.injEq,and_true] at e;have : b = a := key_inj (·.k) L hk b (hs b (List.mem_cons_of_mem _ hb)) a (hs a List.mem_cons_self) (Prod.ext e.1 e.2);exact hn.1 (this ▸ hb)
theorem wh (h : ∀ r ∈ l,∃ a b,r = [a,b] ∧ 0 ≤ a ∧ 0 ≤ b) : l.map (dI (fun k => k) 2) = l := by
 conv => rhs; rw [← List.map_id l]
 apply List.map_congr_left;intro r hr;obtain ⟨a,b,rfl,_⟩ := h r hr;rfl
theorem ti {e s n : Nat} {v : Value} {xs : List Value} (h : w.ownsRow B e s v n xs) (hm : dK w m E) : v.ownBlock ≠ some m := by
 obtain ⟨es,ce,hg,_⟩ := hm;rcases h.2 with ⟨rfl,_⟩ | ⟨g,cap,cur,rfl,_,hb,_⟩
 · simp [Value.ownBlock]
 · intro he;have : g = m := by simpa [Value.ownBlock] using he
   subst this;rw [hg.1] at hb;cases hb
theorem yO (eb db sb : Nat) (ma : Option Nat) (Bd rd : Nat) (vt : Value) (ts : List Tm) (room : Int) (Bs : Nat) (rs : Nat → Value) (ls : Nat → List Edge) (sroom : Int) (kind : Nat) (hkind : kind < 6) (pb qb ab : ByteArray) (hQ : ∀ i,i = pb ∨ i = qb ∨ i = ab → (Tm.iri i).short) (hP0 : 0 ≤ af ts pb ∧ 0 ≤ af ts qb ∧ 0 ≤ af ts ab) (hwd : iH (aW kind pb qb ab)) (hkd : ia (aW kind pb qb ab)) (hlq : gK (fun i => i = pb ∨ i = qb ∨ i = ab) (aW kind pb qb ab))
    (x y i : ByteArray) (k : Int) (A : Option Addr) (n c Bp : Nat) (z : Array Value) (w : World) (hz : z = (gJ x y k i A n c).toArray) (hpa : PAt 174 w Bp (aW kind pb qb ab) [.int .i64 k,.string i,.slice A n c]) (hC : EvC w eb db sb ma Bd rd vt ts room Bs rs ls sroom) (hlen : (aT ls (-1)).length ≤ 4096) (hnd : (aT ls (-1)).Nodup) (h0 : ∀ e ∈ aT ls (-1),0 ≤ e.1 ∧ 0 ≤ e.2.1 ∧ 0 ≤ e.2.2)
    (hLB : ∀ R0 : List (List Int),R0.Nodup → (∀ r ∈ R0,∃ a b,r = [a,b] ∧ bZ kind (af ts pb) (af ts qb) (af ts ab) (aT ls (-1)) a b) → R0.length ≤ 4096) (hR0 : ∀ a b,bZ kind (af ts pb) (af ts qb) (af ts ab) (aT ls (-1)) a b → 0 ≤ a ∧ 0 ≤ b)
    (hnm : aC [(x,none),(y,none)] = [x,y]) (hi0 : Lib.idxOfS [x,y] x = 0) (hi2 : Lib.idxOfS [x,y] y = 1) (hss : ded (df [x,y]) = [x,y]) (hxy : x ≠ y) :
    Calls prog 170 #[.pointer (some ⟨eb,0,none⟩),.agg z,fromV db sb ma] w (mq (bZ kind (af ts pb) (af ts qb) (af ts ab) (aT ls (-1))) x y w) := by
 obtain ⟨i48,hi48,hz480,hz481,hz482⟩ := info_parts jY;have z1 : z[1]? = some (.string x) := by rw [hz]; rfl
 have z2 : z[2]? = some .nilIface := by rw [hz]; rfl
 have z5 : z[5]? = some (.string y) := by rw [hz]; rfl
 have z6 : z[6]? = some .nilIface := by rw [hz]; rfl
 obtain ⟨W0,hW0⟩ : ∃ W0,W0 = (w.alloc (.cells z 180)).alloc (.cells #[.slice none 0 0,.slice none 0 0] 47) := ⟨_,rfl⟩;have hf0 : Fr (fun _ => False) w W0 := by rw [hW0]; exact ((Fr.refl _ w).alloc _).alloc _
 have hbz : Blk W0 w.heap.size 180 z := by rw [hW0]; exact (Blk.new w 180 z).alloc _
 have hbr : Blk W0 (w.heap.size + 1) 47 #[.slice none 0 0,.slice none 0 0] := by
  rw [hW0];have h := Blk.new (w.alloc (.cells z 180)) 47 #[.slice none 0 0,.slice none 0 0];simpa using h
 have hsz0 : W0.heap.size = w.heap.size + 1 + 1 := by rw [hW0]; simp
 have hbn := Blk.new W0 171 #[.string x,.nilIface,.string y,.nilIface];rw [hsz0] at hbn;have hNd : qM (W0.alloc (.cells #[.string x,.nilIface,.string y,.nilIface] 171)) (w.heap.size + 1 + 1) [(x,none),(y,none)] := hbn;have hnames := lU (w.heap.size + 1 + 1) [(x,none),(y,none)] (W0.alloc (.cells #[.string x,.nilIface,.string y,.nilIface] 171)) (by simp) hNd;unfold j8 at hnames;rw [hnm] at hnames;have HNM := Hd hnames;have HF0 := Hd hf0;have HBZ := Hd hbz;have HBR := Hd hbr;have HND := Hd hNd;have HZ := Hd hz;have HW0 := Hd hW0;have hm1 : ∀ w,(Instr.makeMap 154 none).run prog w = .ok (.map (some w.heap.size)) (w.alloc (.map #[] 0)) := fun w => rfl;have HST := Hd (fun W (hW : Fr (fun _ => False) w W) => qJ (-1) sb Bs (some ⟨db,0,none⟩) ma rs ls sroom W (hC.fr hW).pl (hC.fr hW).ch (hC.fr hW).st jj);unfold i7 lR at HST;have HNIL := Hd (fun v W => fG eb v W);have HNO := Hd (fun W (hW : Fr (fun _ => False) w W) => vQ (af ts) eb (fun i => i = pb ∨ i = qb ∨ i = ab) (fun W => EvC W eb db sb ma Bd rd vt ts room Bs rs ls sroom) (fun _ _ h hf => h.fr hf) (fun j hj W hK => pw eb db sb ma 0 Bd rd vt ts room j W hK.ev hK.dict (hQ j hj)) (aW kind pb qb ab) hkd hwd hlq W (hC.fr hW) Bp [.int .i64 k,.string i,.slice A n c] (hpa.frF hW));unfold oa at HNO;have HRE := Hd (fun S W l h me ce es hE hv h0e hl => yJ (af ts) kind hkind pb qb ab hP0 S W l h me ce es hE hv h0e hl);have HREL := Hd (show ∀ R e w',mq R x y w e w' → mq R x y w e w' from fun _ _ _ h => h);have HBD := Hd (fun V vc B k0 k2 b nb nc W hv hn h0 h2 => Df V vc B x y k0 k2 b nb nc W hv hn h0 h2 hi0 hi2);have HOF := Hd (fun c B B2 N vr0 vals0 rows W h1 h2 h3 h4 h5 => sH (fun k => k) 2 2 c B B2 N vr0 vals0 [x,y] [x,y] rows W de de rfl rfl (fun w1 hw1 => by
  obtain ⟨g,rfl,_,_,_⟩ := ar hw1 de;have := nJ g 2 c [x,y] w1 de de (fun j hj => bL hw1 j hj) rfl;rw [hss] at this;exact this) (fun k hk => ⟨hk,rfl,fun j hj => by
   obtain rfl | rfl : k = 0 ∨ k = 1 := jj
   · omega
   · have : j = 0 := jj;subst this;exact hxy⟩) h1 h2 h3 h4 h5)
 have HL := Hd h0;have HLEN := Hd hlen;have HNDP := Hd hnd;have HR0 := Hd hR0;have HLB2 := Hd hLB;generalize aT ls (-1) = E at *;clear hz hpa hC hQ hP0 hwd hkd hlq hlen hnd h0 hR0 hLB hnm hi0 hi2 hss hxy hf0 hbz hbr hbn hNd hnames hW0;go_enter func170,ntmps170;go_wp2_with fail;rw [← HW0.out];refine HNM.out.mono ?_;rintro e w1 ⟨V,vc,rfl,hv,hf1⟩;have F1 : Fr (fun _ => False) W0 w1 := ((Fr.refl (fun _ => False) W0).alloc _).trans' hf1;have hv2 : w1.ownsRow (W0.alloc (.cells #[.string x,.nilIface,.string y,.nilIface] 171)).heap.size 9 1 (.slice V 2 vc) 2 [.string x,.string y] := hv;have hbs : w.heap.size + 1 + 1 < (W0.alloc (.cells #[.string x,.nilIface,.string y,.nilIface] 171)).heap.size := by simp; omega
 have HV1 := Hd hv2;have HF1 := Hd F1;have HND1 := Hd (Blk.fr HND.out hf1 id);have hl1 : w.heap.size + 1 + 1 < w1.heap.size := (Blk.fr HND.out hf1 id).lt;have hm : dK (w1.alloc (.map #[] 0)) w1.heap.size [] := ⟨[],0,be.new k3 w1,(fun e he => by cases he),rfl⟩;have hfm := Fr.a1 w1 (.map #[] 0);have HMM := Hd hm;have HFM := Hd hfm;have HSTW := Hd (HST.out (w1.alloc (.map #[] 0)) ((HF0.out.trans' F1).trans' hfm));clear hv hv2 hf1 F1 hm hfm hbs;go_wp2_with fail;generalize w1.alloc (.map #[] 0) = w2 at *;refine HSTW.out.mono ?_;rintro e w3 ⟨ev,rfl,hent,hf3⟩;obtain ⟨EA,ec,hev⟩ := ad hent;subst hev;have HEN := Hd hent;have HM3 := Hd (HMM.out.fr hf3 id);have HF3 := Hd ((HF1.out.trans' HFM.out).trans' hf3);have HV3 := Hd (aa (aa HV1.out HFM.out ii) hf3 ii);have HND3 := Hd (Blk.fr (Blk.fr HND1.out HFM.out id) hf3 id);have hsm := HFM.out.size;clear hent hf3;go_wp2_with fail
 go_loopw [34] (fun iv wr => ∃ q : Nat,iv = .int .i64 (q : Int) ∧ q ≤ E.length ∧ dK wr w1.heap.size (E.take q) ∧ Fr (fun j => j = w1.heap.size) w3 wr) (fun iv _ => E.length - (intOf iv).toNat)
 case atStart => exact ⟨0,rfl,Nat.zero_le _,HM3.out,Fr.refl _ _⟩
 case round =>
  obtain ⟨q,rfl,hq,hem,hfr⟩ := hrel;have HEM := Hd hem;have HFR := Hd hfr;by_cases hlt : q < E.length
  · have hlt' : (q : Int) < (E.length : Int) := jj;obtain ⟨e,he⟩ : ∃ e,E[q]? = some e := ⟨_,List.getElem?_eq_getElem hlt⟩;have henq := aa HEN.out hfr (fun j hj h => by have := bs HEN.out hj; have := HMM.out.lt; omega);obtain ⟨eg,rfl,_,_,_⟩ := ar henq jj;obtain ⟨c0,c1,c2,c3⟩ := kB henq he;have HTK := Hd (show E.take (q + 1) = E.take q ++ [e] by rw [List.take_add_one,he]; rfl);have hnin : e ∉ E.take q := fun h => by
     have hn := HNDP.out;rw [← List.take_append_drop (q + 1) E,HTK.out] at hn;have := (List.nodup_append.1 (List.nodup_append.1 hn).1).2.2 e h e (by simp);exact this rfl
    have hx0 := Fr.a1 wr (.cells #[.int .i64 e.1,.int .i64 e.2.1,.int .i64 e.2.2,.int .i64 1] 165);obtain ⟨w5,hup,hem5,hf5⟩ := (hem.fr hx0 id).push hnin;obtain ⟨e0,e1,e2⟩ := e;dsimp only at c0 c1 c2;simp only [k3,aA] at hup;have hmlt := hem.lt;have HEM5 := Hd hem5;have HF5 := Hd ((HFR.out.alloc _).trans' hf5);rw [← HTK.out] at HEM5;have hq4 : q < 4096 := by have := HLEN.out; omega
    clear hem hfr henq he hnin hx0 hem5 hf5;go_wp2_with fail;go_roundw
    case rel => exact ⟨q + 1,by go_num,by omega,HEM5.out,HF5.out⟩
    case measure => simp [intOf]; omega
  · have hlt' : ¬ (q : Int) < (E.length : Int) := jj;have hqE : E.take q = E := List.take_of_length_le jj;rw [hqE] at hem HEM;have hmlt := hem.lt;have F0 : Fr (fun _ => False) W0 wr := HF3.out.trans hfr (fun j hj e => by have := HF1.out.size; omega);have hbz := HBZ.out.fr F0 id;have y7 : wr.cell? ⟨w.heap.size,7,none⟩ = some (.int .i64 k) := by rw [hbz.cell,HZ.out]; rfl
    have y8 : wr.cell? ⟨w.heap.size,8,none⟩ = some (.string i) := by rw [hbz.cell,HZ.out]; rfl
    have y9 : wr.cell? ⟨w.heap.size,9,none⟩ = some (.slice A n c) := by rw [hbz.cell,HZ.out]; rfl
    have FW := HF0.out.trans' F0;have HNW := Hd (HNO.out wr FW);have HFW := Hd FW;have HF00 := Hd F0;have HBZr := Hd hbz;have HVr := Hd (aa HV3.out hfr (fun j hj h => ti HV3.out HM3.out (by rw [hj,h])));have HNDr := Hd (HND3.out.fr hfr (fun h => by omega));obtain ⟨wo,rfl⟩ : ∃ wo,wo = wr := ⟨wr,rfl⟩;clear hem hfr hqE F0 FW hbz;go_wp2_with fail;refine HNW.out.mono ?_;rintro e w4 ⟨k4,N4,A4,n4,c4,rfl,hna,hf4⟩;obtain ⟨es,ce,hgm,hev,hks⟩ := HEM.out.fr hf4 id;have HREW := Hd (HRE.out _ w4 _ hna w1.heap.size ce es hgm hev (by rw [hks]; exact HL.out) (by
     have h4 := HLEN.out;have h5 : es.length = E.length := by rw [← hks]; simp [keysOf]
     omega))
    rw [hks] at HREW;unfold oo at HREW;have HF4 := Hd hf4;clear hna hgm hev hks hf4 y7 y8 y9;go_wp2_with fail;refine HREW.out.mono ?_;rintro e w5 ⟨r,cr,L,rfl,hgL,hrel,hf5⟩;have F5 : Fr (fun _ => False) wo w5 := HF4.out.trans' hf5;have hbz5 := HBZr.out.fr F5 id;have y1 : w5.cell? ⟨w.heap.size,1,none⟩ = some (.string x) := by rw [hbz5.cell]; exact z1
    have y2 : w5.cell? ⟨w.heap.size,2,none⟩ = some .nilIface := by rw [hbz5.cell]; exact z2
    have HGL := Hd hgL;have HRL := Hd hrel;have HF5 := Hd F5;have HBZ5 := Hd hbz5;clear hgL hrel hf5 F5 hbz5;go_wp2_with fail;refine (HNIL.out x _).mono ?_;rintro e w6 ⟨rfl,hf6⟩;have hbz6 := HBZ5.out.fr hf6 id;have y3 : w6.cell? ⟨w.heap.size,5,none⟩ = some (.string y) := by rw [hbz6.cell]; exact z5
    have y4 : w6.cell? ⟨w.heap.size,6,none⟩ = some .nilIface := by rw [hbz6.cell]; exact z6
    have HF6 := Hd hf6;clear hf6 hbz6 y1 y2;go_wp2_with fail;refine (HNIL.out y _).mono ?_;rintro e w7 ⟨rfl,hf7⟩;have F7 : Fr (fun _ => False) w5 w7 := HF6.out.trans' hf7;have hgL7 := HGL.out.fr F7 id;have hrg : ∀ W,Fr (fun _ => False) w7 W → (Instr.range 327 (.map (some r))).run prog W = .ok (.pointer (some ⟨W.heap.size,0,none⟩)) (W.alloc (.mapIter (some r) cr #[] cr)) := fun W hW => (ef (α := Int × Int) (hgL7.fr hW id) 327 335 3 underlying327).1;have hrg7 := hrg w7 (Fr.refl _ _);have HG7 := Hd hgL7;have HF7 := Hd (HF5.out.trans' F7);clear hf7 F7 hgL7 y3 y4 hrg;go_wp2_with fail;obtain ⟨ri,hri⟩ : ∃ ri,ri = w7.heap.size := ⟨_,rfl⟩;have hit8 : bp (α := Int × Int) (w7.alloc (.mapIter (some r) cr #[] cr)) ri r cr [] := by rw [hri]; exact heap_alloc_new _ _
    have hf8 := Fr.a1 w7 (.mapIter (some r) cr #[] cr);have hs8 : (w7.alloc (.mapIter (some r) cr #[] cr)).heap.size = ri + 1 := by rw [hri]; simp
    have HIT8 := Hd hit8;have HG8 := Hd (HG7.out.fr hf8 id);have HF8 := Hd (HF7.out.trans' hf8);have hrri : r < ri := by rw [hri]; exact HG7.out.lt
    have hwri : wo.heap.size ≤ ri := by rw [hri]; exact HF7.out.size
    rw [← hri];clear hit8 hf8 hri hrg7;generalize w7.alloc (.mapIter (some r) cr #[] cr) = w8 at *
    go_loopw [18] (fun rv wr => ∃ (seen : List (Ent (Int × Int))) (vals : List Value),bp wr ri r cr seen ∧ (∀ e ∈ seen,e ∈ L) ∧ (seen.map (·.b)).Nodup ∧ ak wr w8.heap.size rv vals (seen.map fun e => [e.k.1,e.k.2]) ∧ Fr (fun j => j = ri) w8 wr) (fun _ wr => L.length - (wr.iterSeen ri).size)
    case atStart => exact ⟨[],[],HIT8.out,(fun e he => by cases he),List.nodup_nil,⟨World.ownsRow_nil _ _ _ _,fun i hi => absurd hi (by simp)⟩,Fr.refl _ _⟩
    case round =>
     obtain ⟨seen,vals,hit,hsubs,hnd,hra,hfr⟩ := hrel;obtain ⟨RA,rac,hrv⟩ := ad hra.own;subst hrv;have hgb := HG8.out.fr hfr (fun h => by omega);have HRA := Hd hra;have HFR := Hd hfr;have HSUBS := Hd hsubs;have HND2 := Hd hnd;obtain ⟨sl,hsl⟩ : ∃ sl,sl = (seen.map fun e => [e.k.1,e.k.2]).length := ⟨_,rfl⟩;rw [← hsl];rw [← hsl] at HRA;have HSL := Hd hsl;rcases dV (P := prog) hgb hit hsubs 0 with ⟨hall,hrun⟩ | ⟨e,he,hes,w9,hrun,hit9,hg9,hf9⟩
     · have hnx : ∀ ty,(Instr.next (.pointer (some ⟨ri,0,none⟩)) false ty).run prog wr = _ := fun _ => hrun;clear hrun;have hra' := HRA.out;have hseenN : (seen.map fun (e : Ent (Int × Int)) => [e.k.1,e.k.2]).Nodup := by
        have hkn : (L.map (·.k)).Nodup := HG8.out.2.1;have h1 : seen.Nodup := gD (·.b) seen HND2.out;exact jd L hkn seen h1 hsubs
       have hmem : ∀ r,r ∈ (seen.map fun (e : Ent (Int × Int)) => [e.k.1,e.k.2]) ↔ ∃ a b,r = [a,b] ∧ bZ kind (af ts pb) (af ts qb) (af ts ab) E a b := by
        intro r;rw [List.mem_map];constructor
        · rintro ⟨e,he,rfl⟩;exact ⟨_,_,rfl,(HRL.out _ _).1 (List.mem_map.2 ⟨e,hsubs e he,rfl⟩)⟩
        · rintro ⟨a,b,rfl,hab⟩;obtain ⟨e,he,hek⟩ := List.mem_map.1 ((HRL.out a b).2 hab);exact ⟨e,hall e he,by rw [hek]⟩
       have hfo : Fr (fun _ => False) wo wr := HF8.out.trans hfr (fun j hj e => by omega);have hsl4 : (seen.map fun (e : Ent (Int × Int)) => [e.k.1,e.k.2]).length ≤ 4096 := HLB2.out _ hseenN (fun r hr => (hmem r).1 hr);have hge : ∀ r ∈ (seen.map fun (e : Ent (Int × Int)) => [e.k.1,e.k.2]),∃ a b,r = [a,b] ∧ 0 ≤ a ∧ 0 ≤ b := fun r hr => by
        obtain ⟨a,b,e,hab⟩ := (hmem r).1 hr;exact ⟨a,b,e,HR0.out a b hab⟩
       have hofw := HOF.out vc _ w8.heap.size V (.slice RA sl rac) vals (seen.map fun e => [e.k.1,e.k.2]) wr (fun i hi => by
        obtain ⟨a,b,e,_⟩ := hge _ (eA hi);rw [e];rfl) (fun i hi q hq => by
        obtain ⟨a,b,e,h1,h2⟩ := hge _ (eA hi);rw [e];obtain rfl | rfl : q = 0 ∨ q = 1 := jj
        · show -1 ≤ a; omega
        · show -1 ≤ b; omega) hsl4 (aa HVr.out hfo ii) hra'
       rw [wh hge] at hofw;unfold aQ at hofw;have HOFW := Hd hofw;have HFO := Hd (HFW.out.trans' hfo);have HBRr := Hd (HBR.out.fr (HF00.out.trans' hfo) id);obtain ⟨R0,hR0⟩ : ∃ R0,R0 = seen.map fun (e : Ent (Int × Int)) => [e.k.1,e.k.2] := ⟨_,rfl⟩;rw [← hR0] at HOFW hseenN hmem;have HSN := Hd hseenN;have HME := Hd hmem;clear hofw hfo hge hsl4 hsl hseenN hmem hR0 hall hit hsubs hnd hra hfr hgb;go_wp2_with fail;refine HOFW.out.mono ?_;rintro e w10 ⟨tv,rfl,⟨OV,oc,ovr,ovals,rfl,hv10,hr10⟩,hf10⟩;obtain ⟨OA,oac,hor⟩ := ad hr10.own;subst hor;have hbs := HBRr.out.fr hf10 id;have f0 := hbs.frozen 0;have cc0 := hbs.c0;have HEND := Hd (di hbs HFO.out.size hv10 hr10 (HFO.out.trans' hf10) jj);have cc1 := HEND.out.1;have f12 := HEND.out.2.1;clear hbs hv10 hr10 hf10;go_wp2_with fail;exact bodyPost_ret (v := .agg #[.slice OV 2 oc,.slice OA R0.length oac]) (results_cell_row rfl _ _ (w.heap.size + 1) 47 _ (0,0) _ rfl HEND.out.2.2.2.1 underlying47 rfl kr) rfl (HREL.out _ _ _ ⟨R0,HEND.out.2.2.2.2,HSN.out,HME.out⟩)
     · have hnx : ∀ ty,(Instr.next (.pointer (some ⟨ri,0,none⟩)) false ty).run prog wr = _ := fun _ => hrun;have hen9 := dt (P := prog) hg9 hit9 he;have hcome := eE HG8.out.2.2.1 hsubs hnd he hes;have HCO := Hd hcome;have HMS := Hd hit.seen;have HIT9 := Hd hit9;have HE2 := Hd he;have HF9 := Hd hf9;obtain ⟨ek,hek⟩ : ∃ ek,ek = e.k := ⟨_,rfl⟩;obtain ⟨ev,hev⟩ : ∃ ev,ev = e.v := ⟨_,rfl⟩;rw [← hek,← hev] at hrun hen9;simp only [k2] at hrun hen9 hnx;have HEK := Hd hek;have hsz9 := hf9.size;clear hrun hit hsubs hnd hra hfr hgb hes hit9 hg9 hf9 hcome hek hev he hsl;go_wp2_with fail;obtain ⟨W9,hW9⟩ : ∃ W9,W9 = (w9.alloc (.cells #[.int .i64 ek.1,.int .i64 ek.2] 335)).alloc (.cells #[.int .i64 ek.1,.int .i64 ek.2] 3) := ⟨_,rfl⟩;rw [← hW9];have hfW9 : Fr (fun _ => False) w9 W9 := by rw [hW9]; exact ((Fr.refl _ _).alloc _).alloc _
       have hbW9 : Blk W9 (w9.heap.size + 1) 3 #[.int .i64 ek.1,.int .i64 ek.2] := by
        rw [hW9];have h := Blk.new (w9.alloc (.cells #[.int .i64 ek.1,.int .i64 ek.2] 335)) 3 #[.int .i64 ek.1,.int .i64 ek.2];simpa using h
       have F9 : Fr (fun j => j = ri) w8 W9 := (HFR.out.trans' HF9.out).trans hfW9 uu;have hwo9 : Fr (fun _ => False) wo W9 := HF8.out.trans F9 (fun j hj e => by omega);have HBW := Hd (HBD.out V vc _ ek.1 ek.2 (w.heap.size + 1 + 1) (w9.heap.size + 1) 2 W9 (aa HVr.out hwo9 ii) (HNDr.out.fr hwo9 id) (hbW9.cell 0) (hbW9.cell 1));have HFW9 := Hd hfW9;have HF99 := Hd F9;have hszW9 := hfW9.size;clear hfW9 hbW9 F9 hwo9 hW9;refine HBW.out.mono ?_;rintro e4 w4b ⟨X,rfl,hX,hbX,hf4b⟩;have HF4b := Hd (HF99.out.trans hf4b uu);have hb4 := Blk.new w4b 99 #[.slice (some ⟨X,0,none⟩) 2 2];have hfa := Fr.a1 w4b (.cells #[.slice (some ⟨X,0,none⟩) 2 2] 99);have hs8w := HFR.out.size;have hn5 : ak (w4b.alloc (.cells #[.slice (some ⟨X,0,none⟩) 2 2] 99)) w8.heap.size (.slice (some ⟨w4b.heap.size,0,none⟩) 1 1) [.slice (some ⟨X,0,none⟩) 2 2] [[ek.1,ek.2]] := qP (ui (hbX.fr hfa id) jj) hb4 (by have := hf4b.size; omega);have hit9b := (HIT9.out.fr (HFW9.out.trans' (hf4b.trans' hfa)) id);have F10 : Fr (fun j => j = ri) wr (w4b.alloc (.cells #[.slice (some ⟨X,0,none⟩) 2 2] 99)) := ((HF9.out.trans HFW9.out uu).trans hf4b uu).trans hfa uu;have hra5 := HRA.out.fr F10 (fun j hj e => by have := bs HRA.out.own hj; omega) (fun i hi j hj e => by have := bs (HRA.out.each i hi) hj; omega);have hown5 := hra5.own;rw [← HSL.out] at hown5;have hsle : sl ≤ 4096 := by
        rw [HSL.out];refine HLB2.out _ (jd L HG8.out.2.1 seen (gD (·.b) seen HND2.out) HSUBS.out) (fun r hr => ?_);obtain ⟨e,he,rfl⟩ := List.mem_map.1 hr;exact ⟨_,_,rfl,(HRL.out _ _).1 (List.mem_map.2 ⟨e,HSUBS.out e he,rfl⟩)⟩
       obtain ⟨v6,w6b,hrun,hown6,hgr6⟩ := bu (w := w4b.alloc (.cells #[.slice (some ⟨X,0,none⟩) 2 2] 99)) 45 45 99 i48 (.slice none 0 0) 1 24 underlying45 hi48 hz480 hz481 hz482 rfl de w8.heap.size sl 1 w8.heap.size (.slice RA sl rac) (.slice (some ⟨w4b.heap.size,0,none⟩) 1 1) vals [.slice (some ⟨X,0,none⟩) 2 2] hown5 hn5.own (by intro u hu; rw [List.mem_singleton.1 hu]; rfl) (by unfold maxLen; omega) jj (by have := hf4b.size; simp; omega);have hr6 := hra5.append (w6 := w6b) (v6 := v6) hn5 (Nat.le_refl _) (by rw [← HSL.out]; exact hown6) hgr6;have HR6 := Hd hr6;have F6b : Fr (fun j => (Value.slice RA sl rac).ownBlock = some j) (w4b.alloc (.cells #[.slice (some ⟨X,0,none⟩) 2 2] 99)) w6b := Fr.of_grown hgr6;have HIT6 := Hd (hit9b.fr F6b (fun e => by have := bs hown5 e; omega));have HF6b := Hd ((HF4b.out.trans hfa uu).trans F6b (fun j hj e => by have := bs hown5 e; omega));clear hb4 hfa hn5 hit9b F10 hra5 hown5 hown6 hgr6 hr6 F6b hf4b hbX hX;go_wp2_with (at_builtin; refine Lib.wpList_append_run _ rfl _ _ _ _ rfl _ _ rfl rfl _ _ hrun ?_);go_roundw
       case rel =>
        refine ⟨seen ++ [e],_,HIT6.out,fun x hx => ?_,HCO.out.1,by rw [List.map_append,List.map_cons,List.map_nil,← HEK.out]; exact HR6.out,HF6b.out⟩;rcases List.mem_append.1 hx with h | h
        · exact HSUBS.out x h
        · rw [List.mem_singleton.1 h]; exact HE2.out
       case measure =>
        rw [HMS.out,HIT6.out.seen];have := HCO.out.2;simp only [List.length_append,List.length_cons,List.length_nil];omega
end Go.Proofs.YtfaapkpebnagmaaGreatDoor
