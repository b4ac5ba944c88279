/- Texts of the proof, one behind the other: Fq. -/
import Derived.Test.YtfaapkpebnagmaaGreatDoorXj
import Derived.Lib.DecodeN
import Derived.Laws.RangeString
namespace Go.Proofs.YtfaapkpebnagmaaGreatDoor
open Go.RowKit Go
open Go.RowKit Go
set_option linter.unusedVariables false
set_option maxRecDepth 100000
set_option maxHeartbeats 400000000
variable {c : Int}
theorem ext_list (s : ByteArray) (p : Nat) : (s.extract p s.size).data.toList = s.data.toList.drop p := by
 rw [← Lib.toList_data,Lib.extract_toList,List.take_of_length_le (by simp)]
theorem ext_size (s : ByteArray) (p : Nat) : (s.extract p s.size).size = s.size - p := by
 simp
theorem eN (s : ByteArray) (p k : Nat) : ae (s.extract p s.size) k = ae s (p + k) := by
 unfold ae;rw [ext_list];simp [List.getD_eq_getElem?_getD,List.getElem?_drop]
theorem eO (s : ByteArray) (k : Nat) : ae s k = ((s.get! k).toNat : Int) := by
 unfold ae;obtain ⟨⟨l⟩⟩ := s;congr 2;show l.getD k 0 = (Array.mk l)[k]!;simp [List.getD_eq_getElem?_getD];rfl
def eP (n : Nat) (b0 b1 b2 b3 : Int) : Int × Nat :=
 if b0 < 128 then (b0,1) else if b0 < 192 then (-1,0)
 else if b0 < 224 then (if n < 2 ∨ b1 < 128 ∨ 191 < b1 then (-1,0) else if bT ((b0 - 192) * 64 + b1 - 128) = true ∧ ay ((b0 - 192) * 64 + b1 - 128) = 2 then ((b0 - 192) * 64 + b1 - 128,2) else (-1,0))
 else if b0 < 240 then (if n < 3 ∨ b1 < 128 ∨ 191 < b1 ∨ b2 < 128 ∨ 191 < b2 then (-1,0) else if bT (((b0 - 224) * 64 + b1 - 128) * 64 + b2 - 128) = true ∧ ay (((b0 - 224) * 64 + b1 - 128) * 64 + b2 - 128) = 3 then (((b0 - 224) * 64 + b1 - 128) * 64 + b2 - 128,3) else (-1,0))
 else if b0 < 248 then (if n < 4 ∨ b1 < 128 ∨ 191 < b1 ∨ b2 < 128 ∨ 191 < b2 ∨ b3 < 128 ∨ 191 < b3 then (-1,0) else if bT ((((b0 - 240) * 64 + b1 - 128) * 64 + b2 - 128) * 64 + b3 - 128) = true ∧ ay ((((b0 - 240) * 64 + b1 - 128) * 64 + b2 - 128) * 64 + b3 - 128) = 4 then ((((b0 - 240) * 64 + b1 - 128) * 64 + b2 - 128) * 64 + b3 - 128,4) else (-1,0))
 else (-1,0)
theorem EL (s : ByteArray) (n : Int) : fQ s n 2 = if s.size < 2 ∨ ae s 1 < 128 ∨ 191 < ae s 1 then (-1,0) else if bT (n * 64 + ae s 1 - 128) = true ∧ ay (n * 64 + ae s 1 - 128) = 2 then (n * 64 + ae s 1 - 128,2) else (-1,0) := by
 unfold fQ;by_cases h : s.size < 2
 · rw [if_pos h,if_pos (.inl h)]
 · rw [if_neg h,b9 s 2 1 n de];by_cases h1 : ae s 1 < 128 ∨ 191 < ae s 1
   · rw [if_pos h1,if_pos (.inr h1)];rfl
   · rw [if_neg h1,eD s 2 2 _ de,dR,if_neg (show ¬ (s.size < 2 ∨ ae s 1 < 128 ∨ 191 < ae s 1) by omega)]
theorem EM (s : ByteArray) (n : Int) : fQ s n 3 = if s.size < 3 ∨ ae s 1 < 128 ∨ 191 < ae s 1 ∨ ae s 2 < 128 ∨ 191 < ae s 2 then (-1,0) else if bT ((n * 64 + ae s 1 - 128) * 64 + ae s 2 - 128) = true ∧ ay ((n * 64 + ae s 1 - 128) * 64 + ae s 2 - 128) = 3 then ((n * 64 + ae s 1 - 128) * 64 + ae s 2 - 128,3) else (-1,0) := by
 unfold fQ;by_cases h : s.size < 3
 · rw [if_pos h,if_pos (.inl h)]
 · rw [if_neg h,b9 s 3 1 n de];by_cases h1 : ae s 1 < 128 ∨ 191 < ae s 1
   · rw [if_pos h1,if_pos jj];rfl
   · rw [if_neg h1,b9 s 3 2 _ de];by_cases h2 : ae s 2 < 128 ∨ 191 < ae s 2
     · rw [if_pos h2,if_pos jj];rfl
     · rw [if_neg h2,eD s 3 3 _ de,dR,if_neg (show ¬ (s.size < 3 ∨ ae s 1 < 128 ∨ 191 < ae s 1 ∨ ae s 2 < 128 ∨ 191 < ae s 2) by omega)]
theorem EN (s : ByteArray) (n : Int) : fQ s n 4 = if s.size < 4 ∨ ae s 1 < 128 ∨ 191 < ae s 1 ∨ ae s 2 < 128 ∨ 191 < ae s 2 ∨ ae s 3 < 128 ∨ 191 < ae s 3 then (-1,0) else if bT (((n * 64 + ae s 1 - 128) * 64 + ae s 2 - 128) * 64 + ae s 3 - 128) = true ∧ ay (((n * 64 + ae s 1 - 128) * 64 + ae s 2 - 128) * 64 + ae s 3 - 128) = 4 then (((n * 64 + ae s 1 - 128) * 64 + ae s 2 - 128) * 64 + ae s 3 - 128,4) else (-1,0) := by
 unfold fQ;by_cases h : s.size < 4
 · rw [if_pos h,if_pos (.inl h)]
 · rw [if_neg h,b9 s 4 1 n de];by_cases h1 : ae s 1 < 128 ∨ 191 < ae s 1
   · rw [if_pos h1,if_pos jj];rfl
   · rw [if_neg h1,b9 s 4 2 _ de];by_cases h2 : ae s 2 < 128 ∨ 191 < ae s 2
     · rw [if_pos h2,if_pos jj];rfl
     · rw [if_neg h2,b9 s 4 3 _ de];by_cases h3 : ae s 3 < 128 ∨ 191 < ae s 3
       · rw [if_pos h3,if_pos jj];rfl
       · rw [if_neg h3,eD s 4 4 _ de,dR,if_neg (show ¬ (s.size < 4 ∨ ae s 1 < 128 ∨ 191 < ae s 1 ∨ ae s 2 < 128 ∨ 191 < ae s 2 ∨ ae s 3 < 128 ∨ 191 < ae s 3) by omega)]
theorem xi (s : ByteArray) : bC s = eP s.size (ae s 0) (ae s 1) (ae s 2) (ae s 3) := by
 unfold bC eP;rw [EL,EM,EN]
theorem vj (x : Int) : bT x = true ↔ (0 ≤ x ∧ x ≤ 1114111 ∧ (x < 55296 ∨ 57343 < x)) := by
 unfold bT;exact decide_eq_true_iff
theorem vl (x : Int) : ay x = 2 ↔ (128 ≤ x ∧ x < 2048) := by
 unfold ay
 repeat' split
 all_goals omega
theorem vo (x : Int) : ay x = 3 ↔ (2048 ≤ x ∧ x < 65536) := by
 unfold ay
 repeat' split
 all_goals omega
theorem vp (x : Int) : ay x = 4 ↔ 65536 ≤ x := by
 unfold ay
 repeat' split
 all_goals omega
theorem mQ (n b0 b1 b2 b3 : Nat) (h0 : b0 < 256) (h1 : b1 < 256) (h2 : b2 < 256) (h3 : b3 < 256) (h : (eP n b0 b1 b2 b3).2 ≠ 0) :
    (((Lib.decodeN n b0 b1 b2 b3).1 : Nat) : Int) = (eP n b0 b1 b2 b3).1 ∧ (Lib.decodeN n b0 b1 b2 b3).2 = (eP n b0 b1 b2 b3).2 ∧
    bT (eP n b0 b1 b2 b3).1 = true ∧ ((eP n b0 b1 b2 b3).1 = 65533 → 3 ≤ n ∧ b0 = 239 ∧ b1 = 191 ∧ b2 = 189) ∧ ((eP n b0 b1 b2 b3).1 < 128 → (eP n b0 b1 b2 b3).1 = b0) := by
 unfold eP at h ⊢;simp only [vj,vl,vo,vp] at h ⊢;unfold Lib.decodeN;by_cases c0 : (b0 : Int) < 128
 · rw [if_pos c0,if_pos jj];exact ⟨rfl,rfl,by omega,fun h => by omega,fun _ => rfl⟩
 · rw [if_neg c0] at h ⊢;rw [if_neg (show ¬ b0 < 128 by omega)];by_cases c1 : (b0 : Int) < 192
   · rw [if_pos c1] at h;exact absurd rfl h
   · rw [if_neg c1] at h ⊢;by_cases c2 : (b0 : Int) < 224
     · rw [if_pos c2] at h ⊢;split at h
       · exact absurd rfl h
       · rename_i d1;rw [if_neg d1];split at h
         · rename_i d2;rw [if_pos d2,if_pos jj,if_pos jj];refine ⟨?_,rfl,?_,?_,?_⟩ <;> simp only <;> omega
         · exact absurd rfl h
     · rw [if_neg c2] at h ⊢;rw [if_neg (show ¬ (b0 / 32 = 6 ∧ (1 < n ∧ b1 / 64 = 2)) by omega)];by_cases c3 : (b0 : Int) < 240
       · rw [if_pos c3] at h ⊢;split at h
         · exact absurd rfl h
         · rename_i d1;rw [if_neg d1];split at h
           · rename_i d2;rw [if_pos d2,if_pos jj,if_pos jj];refine ⟨?_,rfl,?_,?_,?_⟩ <;> simp only <;> omega
           · exact absurd rfl h
       · rw [if_neg c3] at h ⊢;rw [if_neg (show ¬ (b0 / 16 = 14 ∧ (1 < n ∧ b1 / 64 = 2) ∧ (2 < n ∧ b2 / 64 = 2)) by omega)];by_cases c4 : (b0 : Int) < 248
         · rw [if_pos c4] at h ⊢;split at h
           · exact absurd rfl h
           · rename_i d1;rw [if_neg d1];split at h
             · rename_i d2;rw [if_pos d2,if_pos jj,if_pos jj];refine ⟨?_,rfl,?_,?_,?_⟩ <;> simp only <;> omega
             · exact absurd rfl h
         · rw [if_neg c4] at h;exact absurd rfl h
theorem EO (l : List UInt8) (p : Nat) (h : p + 3 ≤ l.length) : l.drop p = l.getD p 0 :: l.getD (p + 1) 0 :: l.getD (p + 2) 0 :: l.drop (p + 3) := by
 rw [List.drop_eq_getElem_cons jj,List.drop_eq_getElem_cons (i := p + 1) jj,List.drop_eq_getElem_cons (i := p + 2) jj];simp [List.getD_eq_getElem?_getD,show p < l.length by omega,show p + 1 < l.length by omega,show p + 2 < l.length by omega]
theorem oX (s : ByteArray) (p : Nat) (hp : p < s.size) (h : (bC (s.extract p s.size)).2 ≠ 0) :
    (((Utf8.decode s p).1 : Nat) : Int) = (bC (s.extract p s.size)).1 ∧ (Utf8.decode s p).2 = (bC (s.extract p s.size)).2 ∧ okS s p (Utf8.decode s p).1 = true ∧ bT (bC (s.extract p s.size)).1 = true ∧
    ((bC (s.extract p s.size)).1 < 128 → (bC (s.extract p s.size)).1 = ae s p) := by
 rw [xi,ext_size,eN,eN,eN,eN] at *;rw [show ae s p = ae s (p + 0) from rfl];rw [eO s (p + 0),eO s (p + 1),eO s (p + 2),eO s (p + 3)] at *;have hb : ∀ k,(s.get! k).toNat < 256 := fun k => (s.get! k).toNat_lt;obtain ⟨e1,e2,e3,e4,e5⟩ := mQ (s.size - p) _ _ _ _ (hb _) (hb _) (hb _) (hb _) h;rw [Lib.decode_at];refine ⟨e1,e2,?_,e3,e5⟩;unfold okS;rw [← Lib.decode_at];rw [Bool.or_eq_true];by_cases hr : (Utf8.decode s p).1 = 65533
 · right;have e6 : (eP (s.size - p) ((s.get! (p + 0)).toNat : Int) ((s.get! (p + 1)).toNat : Int) ((s.get! (p + 2)).toNat : Int) ((s.get! (p + 3)).toNat : Int)).1 = 65533 := by
    rw [← e1];rw [Lib.decode_at] at hr;exact congrArg (fun n : Nat => (n : Int)) hr
   obtain ⟨f0,f1,f2,f3⟩ := e4 e6;have g : ∀ k m : Nat,(s.get! k).toNat = m → ((s.data.toList.getD k 0).toNat : Int) = m := fun k m e => by
    have := eO s k;unfold ae at this;rw [this,e]
   have g1 := g _ _ f1;have g2 := g _ _ f2;have g3 := g _ _ f3;rw [ext_list,EO _ p (by
                               have : s.data.toList.length = s.size := by simp
                               omega)]
   have u : ∀ (x : UInt8) (m : Nat),((x.toNat : Nat) : Int) = m → m < 256 → x = UInt8.ofNat m := fun x m e hm => by
    apply UInt8.toNat_inj.1;rw [UInt8.toNat_ofNat',Nat.mod_eq_of_lt jj];omega
   rw [show s.data.toList.getD p 0 = 239 from u _ 239 g1 de,u _ 191 g2 de,u _ 189 g3 de];rfl
 · left;simp [hr]
def runesFrom (s : ByteArray) (p : Nat) : List Int :=
 if h : p < s.size then ((Utf8.decode s p).1 : Int) :: runesFrom s (p + (Utf8.decode s p).2) else []
termination_by s.size - p
decreasing_by have := width_pos s p h; omega
theorem eQ (s : ByteArray) (p : Nat) (h : p < s.size) : runesFrom s p = ((Utf8.decode s p).1 : Int) :: runesFrom s (p + (Utf8.decode s p).2) := by
 rw [runesFrom,dif_pos h]
theorem dq (s : ByteArray) (p : Nat) (h : ¬ p < s.size) : runesFrom s p = [] := by
 rw [runesFrom,dif_neg h]
theorem gU (s : ByteArray) : ∀ (m i : Nat) (l : List Int),s.size - i ≤ m → (bO s i l).2 = true → (bO s i l).1 = l ++ runesFrom s i ∧ aZ s i = true ∧ (∀ x,x ∈ runesFrom s i → bT x = true) ∧ ((58 : Int) ∈ runesFrom s i → (58 : UInt8) ∈ s.data.toList)
 | 0,i,l,hm,h => by
  have hn : ¬ i < s.size := jj;rw [eM s i l hn,dq s i hn,f9 s i hn,List.append_nil];exact ⟨rfl,rfl,fun x hx => absurd hx (List.not_mem_nil),fun hx => absurd hx (List.not_mem_nil)⟩
 | m + 1,i,l,hm,h => by
  by_cases hi : i < s.size
  · rw [gH s i l hi] at h ⊢;by_cases h0 : (bC (s.extract i s.size)).2 = 0
    · rw [if_pos h0] at h;cases h
    · rw [if_neg h0] at h ⊢;obtain ⟨d1,d2,d3,d4,d5⟩ := oX s i hi h0;obtain ⟨i1,i2,i3,i4⟩ := gU s m _ _ jj h;rw [i1,eQ s i hi,iL s i hi,d1,d2,d3,i2];refine ⟨by simp only [List.append_assoc,List.singleton_append],rfl,fun x hx => ?_,fun hx => ?_⟩
      · rcases List.mem_cons.1 hx with hx | hx
        · rw [hx];exact d4
        · exact i3 x hx
      · rcases List.mem_cons.1 hx with hx | hx
        · have h5 := d5 jj;rw [← hx] at h5;unfold ae at h5;have hl : i < s.data.toList.length := by simpa using hi
          have : s.data.toList.getD i 0 = 58 := UInt8.toNat_inj.1 (by
           have h6 : (s.data.toList.getD i 0).toNat = 58 := jj;rw [h6];rfl)
          rw [← this,List.getD_eq_getElem?_getD,List.getElem?_eq_getElem hl];exact List.getElem_mem hl
        · exact i4 hx
  · rw [eM s i l hi,dq s i hi,f9 s i hi,List.append_nil];exact ⟨rfl,rfl,fun x hx => absurd hx (List.not_mem_nil),fun hx => absurd hx (List.not_mem_nil)⟩
theorem iO (s : ByteArray) : ∀ (m i : Nat),s.size - i ≤ m → dz s i = (runesFrom s i).all ge
 | 0,i,hm => by
  have hn : ¬ i < s.size := jj;rw [gN s i hn,dq s i hn];rfl
 | m + 1,i,hm => by
  by_cases hi : i < s.size
  · have := width_pos s i hi;rw [jk s i hi,eQ s i hi,List.all_cons,iO s m _ jj]
  · rw [gN s i hi,dq s i hi];rfl
theorem vq (n : Int) : lF n 0 = fx n := by
 rw [cA n 0 de,cA n 1 de,cA n 2 de,cA n 3 de,cA n 4 de,cA n 5 de,cA n 6 de,cA n 7 de,cA n 8 de,qs n 9 de];rw [show ae iY 0 = 60 from rfl,show ae iY 1 = 62 from rfl,show ae iY 2 = 34 from rfl,show ae iY 3 = 123 from rfl,show ae iY 4 = 125 from rfl,show ae iY 5 = 124 from rfl,show ae iY 6 = 94 from rfl,show ae iY 7 = 96 from rfl,show ae iY 8 = 92 from rfl];unfold fx;rw [Bool.eq_iff_iff];simp
theorem vu {x : Int} (h : bT x = true) : gp x = bH x := by
 unfold gp bH;rw [h];rw [if_neg de]
 repeat' split
 all_goals first | rfl | (exfalso; omega)
theorem qt (l : List Int) (hs : ∀ x,x ∈ l → bT x = true) : ∀ (m i : Nat) (c : Int),l.length - i ≤ m → bi l i c = true → ∀ j,i ≤ j → j < l.length → ge (l.getD j 0) = true
 | 0,i,c,hm,h,j,h1,h2 => absurd h2 (by omega)
 | m + 1,i,c,hm,h,j,h1,h2 => by
  have hi : i < l.length := jj;rw [dd l i c hi] at h;split at h
  · cases h
  · rename_i hc;split at h
    · cases h
    · rename_i hb;by_cases e : j = i
      · subst e;have hm : l.getD j 0 ∈ l := by
         rw [List.getD_eq_getElem?_getD,List.getElem?_eq_getElem hi];exact List.getElem_mem hi
        rw [vu (hs _ hm)] at hc;rw [vq] at hb;unfold ge;rw [Bool.not_eq_true] at hb;rw [hb];simp only [Bool.or_false,Bool.not_eq_true',Bool.or_eq_false_iff,beq_eq_false_iff_ne];omega
      · exact qt l hs m (i + 1) _ jj h j jj h2
theorem nz (l : List Int) : ∀ (m i : Nat),l.length - i ≤ m → bi l i 0 = true → False
 | 0,i,hm,h => by
  rw [dF l i 0 (by omega)] at h;cases h
 | m + 1,i,hm,h => by
  by_cases hi : i < l.length
  · rw [dd l i 0 hi] at h;split at h
    · cases h
    · split at h
      · cases h
      · have e : fD (l.getD i 0) i 0 = 0 := by
         unfold fD;rw [if_neg jj]
        rw [e] at h;exact nz l m (i + 1) jj h
  · rw [dF l i 0 hi] at h;cases h
theorem lG (l : List Int) : ∀ (m i : Nat),l.length - i ≤ m → bi l i (-1) = true → (58 : Int) ∈ l
 | 0,i,hm,h => by
  rw [dF l i (-1) (by omega)] at h;cases h
 | m + 1,i,hm,h => by
  by_cases hi : i < l.length
  · rw [dd l i (-1) hi] at h;split at h
    · cases h
    · split at h
      · cases h
      · by_cases e : l.getD i 0 = 58
        · rw [← e,List.getD_eq_getElem?_getD,List.getElem?_eq_getElem hi];exact List.getElem_mem hi
        · have e2 : fD (l.getD i 0) i (-1) = -1 := by
           unfold fD;rw [if_neg jj]
          rw [e2] at h;exact lG l m (i + 1) jj h
  · rw [dF l i (-1) hi] at h;cases h
theorem fE (c : UInt8) : ∀ l : List UInt8,c ∈ l → 0 ≤ Lib.indexByte l c
 | b :: l,h => by
  unfold Lib.indexByte;split
  · exact Int.le_refl _
  · rename_i hb;rcases List.mem_cons.1 h with e | h
    · rw [e] at hb;simp at hb
    · have := fE c l h;split
      · rename_i h2;simp at h2;omega
      · omega
theorem xj (s : ByteArray) (h : oW s = true) : eu s = true := by
 unfold oW dE at h;rw [Bool.and_eq_true,Bool.and_eq_true] at h;obtain ⟨h1,-,h2⟩ := h;obtain ⟨e1,e2,e3,e4⟩ := gU s _ 0 [] (Nat.le_refl _) h1;rw [e1,List.nil_append] at h2;unfold eu;rw [e2,iO s _ 0 (Nat.le_refl _)];have hc := lG _ _ 0 (Nat.le_refl _) h2;have h58 := e4 hc;have h0 : (runesFrom s 0).getD 0 0 ≠ 58 := fun e => by
  have hl : 0 < (runesFrom s 0).length := List.length_pos_of_mem hc;rw [dd _ 0 _ hl] at h2;split at h2
  · cases h2
  · split at h2
    · cases h2
    · rw [e] at h2;exact nz _ _ _ (Nat.le_refl _) h2
 have hall : (runesFrom s 0).all ge = true := by
  rw [List.all_eq_true];intro x hx;obtain ⟨j,hj,rfl⟩ := List.getElem_of_mem hx;have := qt _ e3 _ 0 _ (Nat.le_refl _) h2 j (Nat.zero_le _) hj;rw [List.getD_eq_getElem?_getD,List.getElem?_eq_getElem hj] at this;exact this
 rw [hall];have hix : 1 ≤ Lib.indexByte s.data.toList 58 := by
  cases hl : s.data.toList with
  | nil =>
   rw [hl] at h58;cases h58
  | cons b r =>
   rw [hl] at h58;have hb : b ≠ 58 := fun e => h0 (by
    have hp : 0 < s.size := by
     have : s.data.toList.length = s.size := by simp
     rw [hl] at this;simp at this;omega
    have hb0 : (s[0]'hp) = b := by
     have h1 : (s[0]'hp) = s.data.toList[0]'(by simpa using hp) := by simp; rfl
     rw [h1];simp [hl]
    rw [eQ s 0 hp,decode_ascii s 0 hp (by rw [hb0,e]; decide),hb0,e];rfl)
   unfold Lib.indexByte;rw [if_neg (by simpa using hb)];have hr : (58 : UInt8) ∈ r := by
    rcases List.mem_cons.1 h58 with e | h
    · exact absurd e.symm hb
    · exact h
   have := fE 58 r hr;split
   · rename_i h2;simp at h2;omega
   · omega
 simp;omega
theorem qu (s : ByteArray) (p : Nat) (hp : p < s.size) (h : ae s p < 128) : ((Utf8.decode s p).1 : Int) = ae s p ∧ (Utf8.decode s p).2 = 1 := by
 have e : ae s p = ((s[p]'hp).toNat : Int) := by
  unfold ae;rw [List.getD_eq_getElem?_getD,List.getElem?_eq_getElem (by simpa using hp)];rfl
 rw [e] at h ⊢;rw [decode_ascii s p hp jj];exact ⟨rfl,rfl⟩
theorem nA (c : Int) : e8 c = (bf c || cF c) := by
 unfold e8 bH bf cF;rw [Bool.eq_iff_iff];simp only [Bool.or_eq_true,decide_eq_true_eq,beq_iff_eq]
 repeat' split
 all_goals omega
theorem rZ (c : Int) : (bH c == 1) = bf c := by
 unfold bH bf;rw [Bool.eq_iff_iff];simp only [decide_eq_true_eq,beq_iff_eq]
 repeat' split
 all_goals omega
theorem nB (h : bf c = true) : c < 128 := by
 unfold bf at h;simp at h;omega
theorem qv (h : cF c = true) : c < 128 := by
 unfold cF at h;simp at h;omega
theorem lH (s : ByteArray) : ∀ (m i : Nat),s.size - i ≤ m → bB s i = true → bS s i = true
 | 0,i,hm,h => fy s i (by omega)
 | m + 1,i,hm,h => by
  by_cases hi : i < s.size
  · rw [gG s i hi,Bool.and_eq_true] at h;obtain ⟨h1,h2⟩ := h;have hlt : ae s i < 128 := by
     unfold jr at h1;simp only [Bool.or_eq_true,Bool.and_eq_true,decide_eq_true_eq] at h1;rcases h1 with h1 | h1 | ⟨_,h1⟩
     · exact nB h1
     · exact qv h1
     · omega
    obtain ⟨d1,d2⟩ := qu s i hi hlt;rw [gO s i hi,d1,d2,lH s m (i + 1) jj h2,Bool.and_true];unfold im;unfold jr at h1;rw [nA,Bool.or_assoc];exact h1
  · exact fy s i hi
theorem xk (s : ByteArray) (h : iX s = true) : eB s = true := by
 unfold iX at h;simp only [Bool.and_eq_true,decide_eq_true_eq] at h;obtain ⟨h1,h2,h3⟩ := h;unfold eB;rw [lH s _ 0 (Nat.le_refl _) h3];have : s.toList.isEmpty = false := by
  rw [Lib.toList_data];cases hl : s.data.toList with
  | nil =>
   have : s.data.toList.length = s.size := by simp
   rw [hl] at this;simp at this;omega
  | cons _ _ => rfl
 simp [this,h2]
theorem iZ (s : ByteArray) (p : Nat) : ∀ (m i part long : Nat),s.size - (p + i) ≤ m → aO (s.extract p s.size) i part long = aO s (p + i) part long
 | 0,i,part,long,hm => by
  rw [cz _ i _ _ (by rw [ext_size]; omega),cz _ (p + i) _ _ (by omega)]
 | m + 1,i,part,long,hm => by
  by_cases hi : p + i < s.size
  · rw [cG _ i _ _ (by rw [ext_size]; omega),cG _ (p + i) _ _ hi,eN,iZ s p m (i + 1) _ _ (by omega),iZ s p m (i + 1) _ _ (by omega)];rfl
  · rw [cz _ i _ _ (by rw [ext_size]; omega),cz _ (p + i) _ _ (by omega)]
theorem j3 (s : ByteArray) (k : Nat) : ∀ (d i m long : Nat),m - i ≤ d → i ≤ m → m ≤ s.size → (∀ q,i ≤ q → q < m → ae s q ≠ 45) → long ≤ 8 → aO s i k long = true →
    (∀ q,i ≤ q → q < m → (bf (ae s q) || (!decide (k = 0) && cF (ae s q))) = true) ∧ long + (m - i) ≤ 8 ∧ aO s m k (long + (m - i)) = true
 | 0,i,m,long,hd,him,hms,hq,hl,h => by
  have e : i = m := jj;subst e;refine ⟨fun q h1 h2 => absurd h2 jj,by omega,?_⟩;rw [show long + (i - i) = long by omega];exact h
 | d + 1,i,m,long,hd,him,hms,hq,hl,h => by
  by_cases e : i = m
  · subst e;refine ⟨fun q h1 h2 => absurd h2 jj,by omega,?_⟩;rw [show long + (i - i) = long by omega];exact h
  · rw [cG s i k long jj,if_neg (hq i (Nat.le_refl _) jj)] at h;rw [Bool.and_eq_true,Bool.and_eq_true,decide_eq_true_eq] at h;obtain ⟨h1,h2,h3⟩ := h;obtain ⟨a1,a2,a3⟩ := j3 s k d (i + 1) m (long + 1) jj jj hms (fun q x y => hq q jj y) jj h3;refine ⟨fun q x y => ?_,by omega,?_⟩
    · by_cases e2 : q = i
      · rw [e2];exact h1
      · exact a1 q jj y
    · rw [show long + (m - i) = long + 1 + (m - (i + 1)) by omega];exact a3
theorem nC (k : Nat) (t : ByteArray) (h : ∀ q,q < t.size → (bf (ae t q) || (!decide (k = 0) && cF (ae t q))) = true) : ∀ (m i : Nat),t.size - i ≤ m → cY k t i = true
 | 0,i,hm => gj k t i (by omega)
 | m + 1,i,hm => by
  by_cases hi : i < t.size
  · have h1 := h i hi;have hlt : ae t i < 128 := by
     simp only [Bool.or_eq_true,Bool.and_eq_true] at h1;rcases h1 with h1 | ⟨_,h1⟩
     · exact nB h1
     · exact qv h1
    obtain ⟨d1,d2⟩ := qu t i hi hlt;rw [iM k t i hi,d1,d2,nC k t h m (i + 1) jj,Bool.and_true];unfold jn;rw [nA,rZ];generalize bf (ae t i) = x at *;generalize cF (ae t i) = y at *;generalize decide (k = 0) = z at *;clear h hm d1 d2 hlt;revert x y z;decide
  · exact gj k t i hi
theorem r3 (s : ByteArray) (m q : Nat) (h : q < m) : ae (s.extract 0 m) q = ae s q := by
 unfold ae;have e : (s.extract 0 m).data.toList = s.data.toList.take m := by
  rw [← Lib.toList_data,Lib.extract_toList];simp
 rw [e];simp only [List.getD_eq_getElem?_getD,List.getElem?_take,if_pos h]
theorem xl (s : ByteArray) (m : Nat) (h : m ≤ s.size) : (s.extract 0 m).size = m := by
 simp;omega
theorem kz (s : ByteArray) (k m : Nat) (hm : m ≤ s.size) (h0 : 0 < m) (h8 : m ≤ 8) (h : ∀ q,q < m → (bf (ae s q) || (!decide (k = 0) && cF (ae s q))) = true) : gP k (s.extract 0 m) = true := by
 have hsz := xl s m hm;unfold gP;rw [nC k _ (fun q hq => by
  rw [hsz] at hq;rw [r3 s m q hq];exact h q hq) _ 0 (Nat.le_refl _)]
 have : (s.extract 0 m).toList.isEmpty = false := by
  rw [Lib.toList_data];cases hl : (s.extract 0 m).data.toList with
  | nil =>
   have : (s.extract 0 m).data.toList.length = (s.extract 0 m).size := by simp only [Array.length_toList]; rfl
   rw [hl] at this;simp only [List.length_nil] at this;omega
  | cons _ _ => rfl
 rw [this,hsz];simp;omega
theorem oY (c : UInt8) : ∀ (l : List UInt8),Lib.indexByte l c < 0 → c ∉ l := fun l h hm => by
 have := fE c l hm;omega
theorem js (c : UInt8) : ∀ (l : List UInt8) (m : Nat),Lib.indexByte l c = (m : Int) → m < l.length ∧ l.getD m 0 = c ∧ (∀ q,q < m → l.getD q 0 ≠ c) ∧ (l.drop (m + 1)).count c + 1 = l.count c
 | [],m,h => by
  unfold Lib.indexByte at h;omega
 | b :: l,m,h => by
  unfold Lib.indexByte at h;split at h
  · rename_i hb;have e : m = 0 := jj;subst e;have hb2 : b = c := by simpa using hb
    subst hb2;refine ⟨by simp,rfl,fun q hq => absurd hq jj,?_⟩;simp
  · rename_i hb;split at h
    · omega
    · cases m with
      | zero =>
       rename_i h2;simp at h2;have := Lib.indexByte_ge l c;omega
      | succ m =>
       obtain ⟨a1,a2,a3,a4⟩ := js c l m jj;refine ⟨by simpa using a1,by simpa using a2,fun q hq => ?_,?_⟩
       · cases q with
         | zero => simpa using hb
         | succ q =>
          have := a3 q jj;simpa using this
       · rw [List.drop_succ_cons,List.count_cons_of_ne (by simpa using hb)];exact a4
theorem j4 (s : ByteArray) (q : Nat) : ae s q = 45 ↔ s.data.toList.getD q 0 = 45 := by
 unfold ae;constructor
 · intro h;apply UInt8.toNat_inj.1;have : (s.data.toList.getD q 0).toNat = 45 := jj;rw [this];rfl
 · intro h;rw [h];rfl
theorem xn : ∀ (n : Nat) (r : ByteArray) (k : Nat),Lib.countByte r.data.toList 45 ≤ n → aO r 0 k 0 = true → d6 k (gh n r) = true := by
 have hno : ∀ (r : ByteArray) (k : Nat),(45 : UInt8) ∉ r.data.toList → aO r 0 k 0 = true → d6 k [r] = true := fun r k hn h => by
  obtain ⟨a1,a2,a3⟩ := j3 r k _ 0 r.size 0 (Nat.le_refl _) (Nat.zero_le _) (Nat.le_refl _) (fun q _ hq e => hn (by
   rw [j4] at e;rw [← e,List.getD_eq_getElem?_getD,List.getElem?_eq_getElem (by simpa using hq)];exact List.getElem_mem _)) (Nat.zero_le _) h
  rw [cz _ _ _ _ jj] at a3;have hp := kz r k r.size (Nat.le_refl _) (by have := of_decide_eq_true a3; omega) jj (fun q hq => a1 q (Nat.zero_le _) hq);rw [show r.extract 0 r.size = r by simp] at hp;unfold d6;rw [hp];rfl
 intro n
 induction n with
 | zero =>
  intro r k hc h;unfold gh;refine hno r k (fun hm => ?_) h;have := List.count_pos_iff.2 hm;unfold Lib.countByte at hc;omega
 | succ n ih =>
  intro r k hc h;unfold gh;by_cases hi : Lib.indexByte r.data.toList 45 < 0
  · rw [if_pos hi];exact hno r k (oY 45 _ hi) h
  · rw [if_neg hi];obtain ⟨m,hm⟩ : ∃ m : Nat,Lib.indexByte r.data.toList 45 = (m : Int) := ⟨(Lib.indexByte r.data.toList 45).toNat,by omega⟩;rw [hm,show ((m : Int)).toNat = m by omega,show ((m : Int) + 1).toNat = m + 1 by omega];obtain ⟨b1,b2,b3,b4⟩ := js 45 _ m hm;have hsz : r.data.toList.length = r.size := by simp
    rw [hsz] at b1;obtain ⟨a1,a2,a3⟩ := j3 r k _ 0 m 0 (Nat.le_refl _) (Nat.zero_le _) jj (fun q _ hq e => b3 q hq ((j4 r q).1 e)) (Nat.zero_le _) h;rw [cG r m _ _ b1,if_pos ((j4 r m).2 b2),Bool.and_eq_true] at a3;obtain ⟨c1,c2⟩ := a3;unfold d6;rw [kz r k m jj (by simp at c1; omega) jj (fun q hq => a1 q (Nat.zero_le _) hq),Bool.true_and];refine ih _ _ ?_ ?_
    · rw [ext_list];unfold Lib.countByte at hc ⊢;omega
    · rw [iZ r (m + 1) _ 0 _ _ (Nat.le_refl _)];exact c2
theorem An (s : ByteArray) (h : lE s = true) : gQ s = true := by
 unfold lE at h;simp only [Bool.and_eq_true,decide_eq_true_eq] at h;obtain ⟨h1,h2,h3⟩ := h;unfold gQ fa;rw [xn _ s 0 (Nat.le_refl _) h3];simp;omega
theorem C1 (a b c : ByteArray) (h : Al a b c = true) : io a b c = true := by
 unfold Al at h;rw [Bool.and_eq_true,Bool.and_eq_true,Bool.and_eq_true] at h;obtain ⟨h1,-,h2,h3⟩ := h;obtain ⟨e1,e2,e3,e4⟩ := gU a _ 0 [] (Nat.le_refl _) h1;unfold io;rw [e2,xj b h2];cases hc : c.toList.isEmpty with
 | true =>
  rw [hc,if_pos rfl] at h3;simp only [Bool.not_eq_true'] at h3;rw [h3];rfl
 | false =>
  rw [hc,if_neg de,Bool.and_eq_true] at h3;rw [h3.1,An c h3.2];rfl
theorem Ap (x : DT) (h0 : 0 ≤ x.kind) (h2 : x.kind ≤ 2) (h : gT x = true) : (bY x).good = true := by
 unfold gT at h;unfold bY;split
 · rename_i hk;rw [if_pos hk] at h;exact xk _ h
 · rename_i hk;rw [if_neg hk] at h;split
   · rename_i hk2;rw [if_pos hk2] at h;exact xj _ h
   · rename_i hk2;rw [if_neg hk2] at h;exact C1 _ _ _ h
end Go.Proofs.YtfaapkpebnagmaaGreatDoor
