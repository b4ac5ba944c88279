/- Parse: walked. -/
import Derived.Test.YtebddgdkndmpjaaGreatDoorBq
import Derived.Test.YtebddgdkndmpjaaGreatDoorBu
import Derived.Deep.CutBlock
import Derived.Deep.RegionLawGrows
import Derived.Deep.Cut
import Derived.Deep.CutRange
import Derived.WalkKit
import Derived.WalkLawsBesides
import Derived.WalkSpells
import Derived.Deep.QuietTactic
import Derived.BigRegion
import Derived.BigQuiet
import Derived.Lib.Hide
import Derived.Outline
import Derived.Deep.AppendLies
import Derived.Deep.RegionLaw
import Derived.Deep.RegionWith
import Derived.Deep.RegionHeld3
import Derived.Deep.LoopGhost
import Derived.Deep.DeepFit
import Derived.Laws.ResultCell
import Derived.Laws.RangeAny
import Derived.Deep.MidRow
import Derived.StillTailTactics
import Derived.OpenShut
namespace Go.Proofs.YtebddgdkndmpjaaGreatDoor
set_option linter.unusedVariables false
open Go.RowKit Go

theorem inf30 : (Tryz.prog.info? 30).map (·.size) = some 7 := by kernel_rfl
/-- What is known of a tree's cells stays where the scanner's and the guard's blocks turn. -/
structure PLaw (PQ : World → Nat → List Value → Prop) : Prop where
  shape : ∀ {w : World} {B : Nat} {cs : List Value}, PQ w B cs → ∃ kind t dis A1 n1 c1 A2 n2 c2 A3 n3 c3 A4 n4 c4, cs = [.string kind, .string t, .bool dis, .slice A1 n1 c1, .slice A2 n2 c2, .slice A3 n3 c3, .slice A4 n4 c4]
  base : ∀ {w : World} {B B' : Nat} {cs : List Value}, B' ≤ B → PQ w B cs → PQ w B' cs
  frF : ∀ {w w' : World} {B : Nat} {cs : List Value}, PQ w B cs → Fr (fun _ => False) w w' → PQ w' B cs
  frB : ∀ {w w' : World} {B x t : Nat} {cs : List Value} {ds : Array Value}, PQ w B cs → Blk w x t ds → (t = 239 ∨ t = 3 ∨ t = 31 ∨ t = 30) → Fr (fun j => j = x) w w' → PQ w' B cs
def zero30 : List Value := [.string ⟨#[]⟩, .string ⟨#[]⟩, .bool false, .slice none 0 0, .slice none 0 0, .slice none 0 0, .slice none 0 0]
/-- A query that is parsed. -/
def QPost (PQ : World → Nat → List Value → Prop) (w : World) (b : Nat) (A : Option Addr) (c : Nat) (rs : List Int) (q : Nat) (e : Ending) (w' : World) : Prop :=
  ∃ cs, e = .returned (.agg cs.toArray) ∧ PQ w' w.heap.size cs ∧ Sc w' b A c rs q ∧ Fr (fun j => j = b) w w'
def P1Post (PQ : World → Nat → List Value → Prop) (w : World) (b : Nat) (A : Option Addr) (c : Nat) (rs : List Int) (q qb : Nat) (e : Ending) (w' : World) : Prop :=
  e = .returned (.tuple #[]) ∧ Sc w' b A c rs q ∧ (∃ cs, Blk w' qb 30 cs.toArray ∧ PQ w' w.heap.size cs) ∧ Fr (fun j => j = b ∨ j = qb) w w'

set_option maxRecDepth 100000 in
set_option maxHeartbeats 40000000 in
theorem parse1_ok (PQ : World → Nat → List Value → Prop) (HP : PLaw PQ) (b c q qb : Nat) (A : Option Addr) (rs : List Int) (w : World) (HQ : ∀ w1, Fr (fun _ => False) w w1 → Sc w1 b A c rs 0 → Calls Tryz.prog 40 #[.agg #[.pointer (some ⟨b, 0, none⟩)]] w1 (QPost PQ w1 b A c rs q)) (hq : Blk w qb 30 zero30.toArray) (h : Sc w b A c rs 0) :
    Calls Tryz.prog 39 #[.agg #[.pointer (some ⟨b, 0, none⟩)], .pointer (some ⟨qb, 0, none⟩)] w (P1Post PQ w b A c rs q qb) := by
  have hf : Fr (fun _ => False) w (w.alloc (.cells #[.pointer (some ⟨b, 0, none⟩)] 108)) := (Fr.refl _ _).alloc _
  have HQQ := Lib.hid (HQ _ hf (h.frF hf))
  have HB := Lib.hid (hq.fr hf (fun h => h))
  have HF := Lib.hid hf
  have hbl := h.blk.lt
  have hql := hq.lt
  have hnb : ¬ qb = b := Blk.ne_ hq h.blk (by decide)
  clear HQ hf hq h
  go_enter Tryz.func39, Tryz.ntmps39
  go_wp2_with fail
  refine HQQ.out.mono ?_
  rintro e w1 ⟨cs, rfl, hp1, hs1, hf1⟩
  obtain ⟨kind, t, dis, A1, n1, c1, A2, n2, c2, A3, n3, c3, A4, n4, c4, rfl⟩ := HP.shape hp1
  have hq1 := HB.out.fr hf1 hnb
  have hst := Blk.setAll (vs := [.string kind, .string t, .bool dis, .slice A1 n1 c1, .slice A2 n2 c2, .slice A3 n3 c3, .slice A4 n4 c4]) (old := zero30) hq1 rfl
  have HTH := Lib.hid (Blk.there (cs := zero30) hq1 (n := 7) rfl)
  have HST := Lib.hid hst.1
  have HS := Lib.hid (hs1.fr hst.2 (fun e => hnb e.symm) (fun j hj e => own_blk_ne hs1.row hq1 (by decide) (by rw [hj, e])))
  have HPP := Lib.hid (HP.base (Nat.le_trans (Nat.le_succ _) (by have := HF.out.size; simp at this ⊢)) (HP.frB hp1 hq1 (.inr (.inr (.inr rfl))) hst.2) : PQ _ w.heap.size _)
  have HFF := Lib.hid (((HF.out.mono (T := fun j => j = b ∨ j = qb) (fun _ _ h => h.elim)).trans' (hf1.mono (fun _ _ h => .inl h))).trans' (hst.2.mono (fun _ _ h => .inr h)))
  have HONE := Lib.hid (show (#[.string kind, .string t, .bool dis, .slice A1 n1 c1, .slice A2 n2 c2, .slice A3 n3 c3, .slice A4 n4 c4] : Array Value).all (·.oneCell') = true from all_oneCell_toArray (by
    intro v hv
    simp only [List.mem_cons, List.not_mem_nil, or_false] at hv
    rcases hv with rfl | rfl | rfl | rfl | rfl | rfl | rfl <;> rfl))
  have hl1 := hq1.lt
  clear hst hq1 hs1 hp1 hf1
  go_wp2_with (refine wpList_store_mid rfl 30 _ _ rfl _ _ _ rfl rfl HTH.out inf30 HONE.out ?_)
  go_end0
  exact ⟨rfl, HS.out, ⟨_, HST.out, HPP.out⟩, HFF.out⟩

theorem results_c3' {P : Program} {fn : Func} {p c d : Tmp} {ty : TypeId} (h : fn.results = #[.cell p ty, .tmp c, .tmp d]) (tmps : Array Value) (w : World) :
    (results fn tmps).run P w = ((asAddr (tmps.getD p undef)).run P w).andThen fun q w₁ => ((loadVar ty q).run P w₁).andThen fun v w₂ => .ok (.tuple #[v, tmps.getD c undef, tmps.getD d undef]) w₂ := by
  simp only [results, h]
  simp [Sem.run_bind, Result.andThen]
theorem results_c3 {P : Program} {fn : Func} {p c d : Tmp} {ty : TypeId} (h : fn.results = #[.cell p ty, .tmp c, .tmp d]) (tmps : Array Value) (w : World) (g : Nat) (t : TypeId) (cs : Array Value) (fr : Nat × Nat) (ds : TypeDesc)
    (hp : tmps.getD p undef = .pointer (some ⟨g, 0, none⟩)) (hg : w.heap[g]? = some (.cells cs t fr))
    (hu : P.underlying ty = some ds) (hd : (match ds with | .struct _ | .array _ _ => true | _ => false) = true) (hi : (P.info? ty).map (·.size) = some cs.size) (vc vd : Value) (hc : tmps.getD c undef = vc) (hd2 : tmps.getD d undef = vd) :
    (results fn tmps).run P w = .ok (.tuple #[.agg cs, vc, vd]) w := by
  rw [results_c3' h, hp, hc, hd2]
  simp [asAddr, run_loadVar_row w g t ty cs fr ds hg hu hd hi]

/-- A text that is parsed. -/
def ParsePost (PQ : World → Nat → List Value → Prop) (w : World) (e : Ending) (w' : World) : Prop :=
  ∃ cs, e = .returned (.tuple #[.agg cs.toArray, .int .i64 0, .int .i64 0]) ∧ PQ w' w.heap.size cs ∧ Fr (fun _ => False) w w'
def ParseBad (pl : Int) (w : World) (e : Ending) (w' : World) : Prop :=
  e = .returned (.tuple #[.agg zero30.toArray, .int .i64 pl, .int .i64 15]) ∧ Fr (fun _ => False) w w'
def PWq (PQ : World → Nat → List Value → Prop) (qb B : Nat) (w : World) : Prop := ∃ cs : List Value, Blk w qb 30 cs.toArray ∧ PQ w B cs
theorem kept_pwq (PQ : World → Nat → List Value → Prop) (HP : PLaw PQ) (qb B : Nat) : Kept (PWq PQ qb B) := by
  constructor
  · rintro w1 w2 ⟨cs, h1, h2⟩ hf
    exact ⟨cs, h1.fr hf (fun h => h), HP.frF h2 hf⟩
  · rintro w1 w2 x t ds ⟨cs, h1, h2⟩ hx ht hf
    refine ⟨cs, h1.fr hf (fun e => Blk.ne_ h1 hx (fun e2 => ?_) e), HP.frB h2 hx ?_ hf⟩
    · subst e2
      rcases ht with h | h | h <;> exact absurd h (by decide)
    · rcases ht with h | h | h
      · exact .inl h
      · exact .inr (.inl h)
      · exact .inr (.inr (.inl h))
theorem enters39 : ∀ args w, (callFunc 39 args).run Tryz.prog w = .ok (.enter 39 args) w := fun args w => by kernel_rfl

set_option maxRecDepth 100000 in
set_option maxHeartbeats 40000000 in
theorem parse_ok (PQ : World → Nat → List Value → Prop) (HP : PLaw PQ) (s : ByteArray) (n' : Nat) (w : World) (hA : Ascii s) (h0 : 0 < s.size) (hs : s.size ≤ 4096) (hn : skip (txt s) [0] n' = (txt s).length)
    (HQ : ∀ (b c : Nat) (A : Option Addr) (w1 : World), w.heap.size ≤ b → Fr (fun _ => False) w w1 → Sc w1 b A c (txt s) 0 → Calls Tryz.prog 40 #[.agg #[.pointer (some ⟨b, 0, none⟩)]] w1 (QPost PQ w1 b A c (txt s) n')) :
    Calls Tryz.prog 10 #[.string s] w (ParsePost PQ w) := by
  have hf : Fr (fun _ => False) w ((w.alloc (.cells zero30.toArray 30)).alloc (.cells zero30.toArray 30)) := ((Fr.refl _ _).alloc _).alloc _
  have hz : (w.alloc (.cells zero30.toArray 30)).heap.size = w.heap.size + 1 := by simp
  have hz2 : ((w.alloc (.cells zero30.toArray 30)).alloc (.cells zero30.toArray 30)).heap.size = w.heap.size + 2 := by simp
  have hr := (Blk.new w 30 zero30.toArray).alloc (.cells zero30.toArray 30)
  have hq := Blk.new (w.alloc (.cells zero30.toArray 30)) 30 zero30.toArray
  rw [hz] at hq
  have HG := Lib.hid (guarded_ok s 39 n' (w.heap.size + 1) #[.pointer (some ⟨w.heap.size + 1, 0, none⟩)] (PWq PQ (w.heap.size + 1) w.heap.size) (kept_pwq PQ HP (w.heap.size + 1) w.heap.size)
    _ hA h0 hs hn (by rw [hz2]; omega) enters39 (fun b c A w1 hb hf1 hs1 => by
      rw [hz2] at hb
      refine (parse1_ok PQ HP b c n' (w.heap.size + 1) A (txt s) w1 (fun w2 hf2 hs2 => HQ b c A w2 (by omega) ((hf.trans' hf1).trans' hf2) hs2) (hq.fr hf1 (fun h => h)) hs1).mono ?_
      rintro e w' ⟨rfl, hs', ⟨cs, hb', hp'⟩, hf'⟩
      have hsz : w.heap.size ≤ w1.heap.size := by have := (hf.trans' hf1).size; exact this
      exact ⟨rfl, hs', ⟨cs, hb', HP.base hsz hp'⟩, hf'⟩))
  have HR := Lib.hid hr
  have HF := Lib.hid hf
  have hmf : ∀ (fn : Fn) (first cap : Array Value) (w : World), (Instr.makeFunc fn first cap).run Tryz.prog w = .ok (.func fn first cap) w := fun _ _ _ _ => rfl
  clear hf hz hz2 hr hq HQ hA hn
  unfold zero30 at HG HR HF
  go_enter Tryz.func10, Tryz.ntmps10
  go_wp2_with fail
  refine HG.out.mono ?_
  rintro e w1 ⟨rfl, ⟨cs, hb1, hp1⟩, hf1⟩
  obtain ⟨kind, t, dis, A1, n1, c1, A2, n2, c2, A3, n3, c3, A4, n4, c4, rfl⟩ := HP.shape hp1
  have hr1 := HR.out.fr hf1 (fun e => by omega)
  have hst := Blk.setAll (vs := [.string kind, .string t, .bool dis, .slice A1 n1 c1, .slice A2 n2 c2, .slice A3 n3 c3, .slice A4 n4 c4]) (old := zero30) hr1 rfl
  have HRG := Lib.hid (blkRange (cs := [.string kind, .string t, .bool dis, .slice A1 n1 c1, .slice A2 n2 c2, .slice A3 n3 c3, .slice A4 n4 c4]) hb1)
  have HTH := Lib.hid (Blk.there (cs := zero30) hr1 (n := 7) rfl)
  have HST := Lib.hid hst.1
  have HPP := Lib.hid (HP.frB hp1 hr1 (.inr (.inr (.inr rfl))) hst.2)
  have HFF := Lib.hid ((HF.out.trans hf1 (fun j hj e => by omega)).trans hst.2 (fun j hj e => by omega))
  have HONE := Lib.hid (show (#[.string kind, .string t, .bool dis, .slice A1 n1 c1, .slice A2 n2 c2, .slice A3 n3 c3, .slice A4 n4 c4] : Array Value).all (·.oneCell') = true from all_oneCell_toArray (by
    intro v hv
    simp only [List.mem_cons, List.not_mem_nil, or_false] at hv
    rcases hv with rfl | rfl | rfl | rfl | rfl | rfl | rfl <;> rfl))
  have hl1 := hr1.lt
  clear hst hr1 hp1 hf1 hb1
  go_wp2_with (first | refine wpList_load_mid rfl 30 _ rfl (w.heap.size + 1) 0 rfl _ _ HRG.out Tryz.underlying30 rfl inf30 ?_ | refine wpList_store_mid rfl 30 _ _ rfl _ _ _ rfl rfl HTH.out inf30 HONE.out ?_)
  exact bodyPost_ret (v := .tuple #[.agg #[.string kind, .string t, .bool dis, .slice A1 n1 c1, .slice A2 n2 c2, .slice A3 n3 c3, .slice A4 n4 c4], .int .i64 0, .int .i64 0]) (results_c3 rfl _ _ w.heap.size 30 _ (0, 0) _ rfl HST.out Tryz.underlying30 rfl (by kernel_rfl) _ _ rfl rfl) rfl ⟨_, rfl, HPP.out, HFF.out⟩

set_option maxRecDepth 100000 in
set_option maxHeartbeats 40000000 in
theorem parse1_bad (pl : Int) (b c qb : Nat) (A : Option Addr) (rs : List Int) (w : World) (HQ : ∀ w1, Fr (fun _ => False) w w1 → Sc w1 b A c rs 0 → Calls Tryz.prog 40 #[.agg #[.pointer (some ⟨b, 0, none⟩)]] w1 fun e w' => Thrown pl 15 e ∧ Fr (fun j => j = b) w1 w') (h : Sc w b A c rs 0) :
    Calls Tryz.prog 39 #[.agg #[.pointer (some ⟨b, 0, none⟩)], .pointer (some ⟨qb, 0, none⟩)] w fun e w' => Thrown pl 15 e ∧ Fr (fun j => j = b) w w' := by
  have hf : Fr (fun _ => False) w (w.alloc (.cells #[.pointer (some ⟨b, 0, none⟩)] 108)) := (Fr.refl _ _).alloc _
  have HQQ := Lib.hid (HQ _ hf (h.frF hf))
  have HF := Lib.hid hf
  unfold Thrown at *
  clear HQ hf h
  go_enter Tryz.func39, Tryz.ntmps39
  go_wp2_with fail
  refine HQQ.out.mono ?_
  rintro e w1 ⟨rfl, hf1⟩
  go_wp2_with fail
  exact ⟨rfl, rfl, (HF.out.mono (fun _ _ h => h.elim)).trans' hf1⟩

set_option maxRecDepth 100000 in
set_option maxHeartbeats 40000000 in
theorem parse_bad (pl : Int) (s : ByteArray) (w : World) (hA : Ascii s) (h0 : 0 < s.size) (hs : s.size ≤ 4096)
    (HQ : ∀ (b c : Nat) (A : Option Addr) (w1 : World), w.heap.size ≤ b → Fr (fun _ => False) w w1 → Sc w1 b A c (txt s) 0 → Calls Tryz.prog 40 #[.agg #[.pointer (some ⟨b, 0, none⟩)]] w1 fun e w' => Thrown pl 15 e ∧ Fr (fun j => j = b) w1 w') :
    Calls Tryz.prog 10 #[.string s] w (ParseBad pl w) := by
  have hf : Fr (fun _ => False) w ((w.alloc (.cells zero30.toArray 30)).alloc (.cells zero30.toArray 30)) := ((Fr.refl _ _).alloc _).alloc _
  have hz : (w.alloc (.cells zero30.toArray 30)).heap.size = w.heap.size + 1 := by simp
  have hz2 : ((w.alloc (.cells zero30.toArray 30)).alloc (.cells zero30.toArray 30)).heap.size = w.heap.size + 2 := by simp
  have hr := (Blk.new w 30 zero30.toArray).alloc (.cells zero30.toArray 30)
  have HG := Lib.hid (guarded_thrown s 39 #[.pointer (some ⟨w.heap.size + 1, 0, none⟩)] pl _ hA h0 hs enters39 (fun b c A w1 hb hf1 hs1 => by
      rw [hz2] at hb
      exact parse1_bad pl b c (w.heap.size + 1) A (txt s) w1 (fun w2 hf2 hs2 => HQ b c A w2 (by omega) ((hf.trans' hf1).trans' hf2) hs2) hs1))
  have HR := Lib.hid hr
  have HF := Lib.hid hf
  have hmf : ∀ (fn : Fn) (first cap : Array Value) (w : World), (Instr.makeFunc fn first cap).run Tryz.prog w = .ok (.func fn first cap) w := fun _ _ _ _ => rfl
  clear hf hz hz2 hr HQ hA
  unfold zero30 at HG HR HF
  go_enter Tryz.func10, Tryz.ntmps10
  go_wp2_with fail
  refine HG.out.mono ?_
  rintro e w1 ⟨rfl, hf1⟩
  have hr1 := HR.out.fr hf1 (fun h => h)
  have hst := Blk.setAll (vs := zero30) (old := zero30) hr1 rfl
  have HTH := Lib.hid (Blk.there (cs := zero30) hr1 (n := 7) rfl)
  have HST := Lib.hid hst.1
  have HFF := Lib.hid ((HF.out.trans' hf1).trans hst.2 (fun j hj e => by omega))
  have HONE := Lib.hid (show (zero30.toArray).all (·.oneCell') = true from all_oneCell_toArray (by
    intro v hv
    unfold zero30 at hv
    simp only [List.mem_cons, List.not_mem_nil, or_false] at hv
    rcases hv with rfl | rfl | rfl | rfl | rfl | rfl | rfl <;> rfl))
  have hl1 := hr1.lt
  unfold zero30 at HONE HST HFF
  clear hst hr1 hf1
  go_wp2_with (refine wpList_store_mid rfl 30 _ _ rfl _ _ _ rfl rfl HTH.out inf30 HONE.out ?_)
  exact bodyPost_ret (v := .tuple #[.agg #[.string ⟨#[]⟩, .string ⟨#[]⟩, .bool false, .slice none 0 0, .slice none 0 0, .slice none 0 0, .slice none 0 0], .int .i64 pl, .int .i64 15]) (results_c3 rfl _ _ w.heap.size 30 _ (0, 0) _ rfl HST.out Tryz.underlying30 rfl (by kernel_rfl) _ _ rfl rfl) rfl ⟨rfl, HFF.out⟩

end Go.Proofs.YtebddgdkndmpjaaGreatDoor
