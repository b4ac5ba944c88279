/- Texts of the proof, one behind the other: Zf. -/
import Derived.Test.YtfaapkpebnagmaaGreatDoorXz
import Derived.Test.YtfaapkpebnagmaaGreatDoorYa
namespace Go.Proofs.YtfaapkpebnagmaaGreatDoor
open _root_.Go.Proofs.Tryz
open Go.RowKit Go
open Go.ChangeShapes Go.WideShapes Go.ChangeAt
set_option linter.unusedVariables false
set_option maxRecDepth 100000
set_option maxHeartbeats 400000000
theorem iJ (os : Os) (started : os.Started) (H : Type) (enc : TypeId × Value → H) :
    ReturnsInHanded {} Tryz.checked os 3 .any (fun w args => (Rows.algebraStepsSpec.pre enc prog f3 [] false w args ∧ laidMetH prog kG w) ∧ sizedMet enc prog f3 (OpenSpec.ofChange Rows.algebraStepsSpec) false w args)
     (Rows.algebraStepsSpec.post enc prog f3 false true false false) := by
 refine mW (C := Tryz.checked) (X := fun w _ => laidMetH prog kG w) (fun _ _ _ hh h => h.of_heap hh) wH started kr func3
  (ChangeSpec.witness_shaped (enc := enc) (C := Tryz.checked) (os := os) (X := fun w _ => laidMetH prog kG w) false (World.doorLaid prog 400 os) #[.slice none 0 0,.int .u8 0] 8 rfl (pQ os _) kr kr kr (wI os _)) ?_
 intro W base args ds gs before hsh hval0 hW _ _ hL _;have hval : ∀ (j : Nat) t v,f3.params[j]? = some t → args[j]? = some v → Value.okWide prog W .any base t v := hval0;have hW' := hW;obtain ⟨p,q,hA0,hV,rfl,hfz,hnd⟩ := hW;have hA : DataW.TrodAll enc prog W 0 (fun _ => true) true f3.params.toList args.toList ds p := hA0;rw [params3] at hA hval;obtain ⟨v0,vs0,d0,ds0,p0,q0,hargs,rfl,rfl,h0,r0⟩ := trodAll_cons hA;obtain ⟨v1,vs1,d1,ds1,p1,q1,rfl,rfl,rfl,h1,r1⟩ := trodAll_cons r0;obtain ⟨rfl,rfl,rfl⟩ := trodAll_nil r1;obtain rfl : args = #[v0,v1] := by cases args; simp_all
 obtain ⟨rfl,rfl⟩ := trodVars_none hV;obtain ⟨a1,len1,cap1,rfl⟩ := okWide_slice underlying22 (hval 0 22 v0 rfl rfl);obtain ⟨k,rfl,rfl,rfl,w1⟩ := open_int underlying5 (hval 1 5 v1 rfl rfl) h1;have k1 := h0;have lt1 : ∀ x ∈ p0,x.block < W.heap.size := by obtain ⟨m,hm⟩ := k1; exact DataW.trod_lt m _ _ _ hm
 obtain ⟨hlen,hin⟩ : len1 ≤ maxLen ∧ mB W a1 len1 := by
  obtain ⟨fuel,hf⟩ := h0;exact Cn rfl hf
 clear hA0 hval0;have hk : 0 ≤ k ∧ k < 256 := by
  have h := w1;simp [Lit.wf] at h;have hmin : IntKind.u8.min = 0 := de;have hmax : IntKind.u8.max = 255 := de;omega
 refine (FU a1 len1 cap1 k W hk hin hlen (tM hsh hL) (tK hsh hL) (tJ hsh hL) (tL hL) (mX hsh)).mono fun e W' ⟨he,hfr⟩ => ?_;subst he;have bel : Below W.heap.size W W' := hfr.below (Nat.le_refl _) (fun _ h => h.elim);exact ⟨_,rfl,_,_,_,[],_,[],hW',trodAll_mk1 (shut_bool underlying4 _),(trodAll_cons_mk (Below.trod zN kr (of_decide_eq_true kr) k1 bel lt1) (trodAll_cons_mk (shut_int underlying5 w1) trodAll_mk0)),rfl,bel.frame _,fun h => by cases h⟩
end Go.Proofs.YtfaapkpebnagmaaGreatDoor
