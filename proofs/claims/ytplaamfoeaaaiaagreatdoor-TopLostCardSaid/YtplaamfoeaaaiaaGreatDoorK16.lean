/- A part of the proofs of the laws of lifelinetop (TopNever, TopLost, TopRoom): contracts of functions that these laws reach. No condition of its own. -/
import Derived.Test.YtplaamfoeaaaiaaGreatDoorK02
import Derived.Test.YtplaamfoeaaaiaaGreatDoorK10
import Derived.Test.YtplaamfoeaaaiaaGreatDoorK12
import Derived.Test.YtplaamfoeaaaiaaGreatDoorK15
import Derived.RegionTactic
import Derived.ChangeAlike
import Derived.BigRegion
set_option maxRecDepth 100000
set_option maxHeartbeats 8000000
set_option linter.unusedVariables false
namespace Go.Proofs.YtplaamfoeaaaiaaGreatDoor
open Go.RowKit
structure BsF where
 X : Nat
 g : Nat
 S1 : Nat
 S2 : Nat
 S3 : Nat
 r1 : List Nat
 r2 : List Nat
 r3 : List Nat
abbrev BsF.all (F : BsF) : List Nat := F.X :: F.g :: F.S1 :: F.S2 :: F.S3 :: (F.r1 ++ (F.r2 ++ F.r3))
abbrev BsF.turns (F : BsF) : List Nat := [F.X,F.S1,F.S2,F.S3]
def bsnA (x0 x1 : Value) (P : Nat) (vr : Value) (err : Nat) (over : Bool) : Array Value := #[x0,x1,.pointer (some ⟨P,0,none⟩),vr,errV err,.bool over]
inductive BsSt (w : World) (F : BsF) : M.Snd → List M.Snd → Nat → Value → Prop where
 | a (p q r : M.Snd) : Snded w F.S1 F.r1 p → Snded w F.S2 F.r2 q → Snded w F.S3 F.r3 r → BsSt w F p [q,r] F.S1 (.slice (some ⟨F.g,0,none⟩) 2 2)
 | b (q r : M.Snd) : Snded w F.S2 F.r2 q → Snded w F.S3 F.r3 r → BsSt w F q [r] F.S2 (.slice (some ⟨F.g,1,none⟩) 1 1)
 | c (r : M.Snd) : Snded w F.S3 F.r3 r → BsSt w F r [] F.S3 (.slice (some ⟨F.g,1,none⟩) 0 0)
structure BsAt (w : World) (F : BsF) (s : M.BSnd) : Prop where
 str : ∃ x0 x1 P vr,w.heap[F.X]? = some (.cells (bsnA x0 x1 P vr s.err s.over) 237 (0,0)) ∧ BsSt w F s.part s.rest P vr
 gg : w.heap[F.g]? = some (.cells #[.pointer (some ⟨F.S2,0,none⟩),.pointer (some ⟨F.S3,0,none⟩)] 205 (0,0))
 sep : ∃ T : Nat → Nat,T F.X = 0 ∧ T F.g = 1 ∧ T F.S1 = 2 ∧ T F.S2 = 3 ∧ T F.S3 = 4 ∧ Tag T 5 F.r1 ∧ Tag T 5 F.r2 ∧ Tag T 5 F.r3
 live : Live w F.all
def BsPost (w : World) (F : BsF) (r : M.B × M.BSnd) (x : Ending) (w' : World) : Prop :=
 ∃ v,x = .returned v ∧ Out w w' v r.1 ∧ BsAt w' F r.2 ∧ Only F.turns w w'
theorem BsSt.of_only {w w' : World} {F : BsF} {p : M.Snd} {rs : List M.Snd} {P : Nat} {vr : Value} {ks : List Nat} (h : BsSt w F p rs P vr) (ho : Only ks w w') (h1 : F.S1 ∉ ks) (h2 : F.S2 ∉ ks) (h3 : F.S3 ∉ ks) (k1 : Sep F.r1 ks) (k2 : Sep F.r2 ks) (k3 : Sep F.r3 ks) : BsSt w' F p rs P vr := by
 cases h with
 | a q r a b c => exact .a _ q r (a.of_only ho h1 k1) (b.of_only ho h2 k2) (c.of_only ho h3 k3)
 | b r b c => exact .b _ r (b.of_only ho h2 k2) (c.of_only ho h3 k3)
 | c c => exact .c _ (c.of_only ho h3 k3)
theorem BsAt.of_only {w w' : World} {F : BsF} {s : M.BSnd} {ks : List Nat} (h : BsAt w F s) (ho : Only ks w w') (hs : Sep F.all ks) : BsAt w' F s := by
 obtain ⟨x0,x1,P,vr,hc,hst⟩ := h.str
 refine ⟨⟨x0,x1,P,vr,ho.heap hc (hs _ (by simp)),hst.of_only ho (hs _ (by simp)) (hs _ (by simp)) (hs _ (by simp)) ?_ ?_ ?_⟩,ho.heap h.gg (hs _ (by simp)),h.sep,h.live.ev ho.size⟩
 all_goals (intro b hb;exact hs b (by simp [hb]))
theorem BsAt.of_none {w w' : World} {F : BsF} {s : M.BSnd} (h : BsAt w F s) (ho : Only [] w w') : BsAt w' F s := h.of_only ho (fun b _ => by simp)
theorem BsSt.part {w : World} {F : BsF} {p : M.Snd} {rs : List M.Snd} {P : Nat} {vr : Value} (h : BsSt w F p rs P vr) : ∃ ro,Snded w P ro p ∧ (P = F.S1 ∧ ro = F.r1 ∨ P = F.S2 ∧ ro = F.r2 ∨ P = F.S3 ∧ ro = F.r3) := by
 cases h with
 | a q r a b c => exact ⟨_,a,by simp⟩
 | b r b c => exact ⟨_,b,by simp⟩
 | c c => exact ⟨_,c,by simp⟩
theorem bsdone_any (F : BsF) (s : M.BSnd) (w : World) (h : BsAt w F s) :
  Calls Tryz.prog 223 #[.pointer (some ⟨F.X,0,none⟩)] w fun e w' => e = .returned (.tuple #[.bool s.over,errV s.err]) ∧ Only [] w w' := by
 obtain ⟨x0,x1,P,vr,hc,hst⟩ := h.str
 have c4 : w.cell? ⟨F.X,4,none⟩ = some (errV s.err) := cell_at hc rfl
 have c5 : w.cell? ⟨F.X,5,none⟩ = some (.bool s.over) := cell_at hc rfl
 have ho : ∀ n,Only [] w (w.drewN n) := fun n => only_drewN [] w n
 have HO := LH ho
 clear h ho hc hst
 go_enter Tryz.func223,Tryz.ntmps223
 go_wp2_with fail
 go_quiet (fail)
 go_wp2_with fail
 go_ret2
 exact ⟨rfl,HO.out _⟩
theorem bs_no (s : M.BSnd) (out : M.B) (h : s.part.done = false) : s.after (out,s.part) = (out,s) := by
 unfold M.BSnd.after;simp [h]
theorem bs_err (s : M.BSnd) (out : M.B) (h : s.part.done = true) (he : s.part.err ≠ 0) : s.after (out,s.part) = (out,{ s with over := true,err := s.part.err }) := by
 unfold M.BSnd.after;simp [h,he]
theorem bs_end (s : M.BSnd) (out : M.B) (h : s.part.done = true) (he : s.part.err = 0) (hr : s.rest = []) : s.after (out,s.part) = (out,{ s with over := true,err := 0 }) := by
 unfold M.BSnd.after;simp [h,he,hr]
theorem bs_next (s : M.BSnd) (out : M.B) (p : M.Snd) (r : List M.Snd) (h : s.part.done = true) (he : s.part.err = 0) (hr : s.rest = p :: r) : s.after (out,s.part) = (out,{ s with part := p,rest := r }) := by
 unfold M.BSnd.after;simp [h,he,hr]
theorem BsAt.sX {w : World} {F : BsF} {s : M.BSnd} (h : BsAt w F s) : F.X ≠ F.g ∧ F.S1 ∉ [F.X] ∧ F.S2 ∉ [F.X] ∧ F.S3 ∉ [F.X] ∧ Sep F.r1 [F.X] ∧ Sep F.r2 [F.X] ∧ Sep F.r3 [F.X] := by
 obtain ⟨T,t0,t1,t2,t3,t4,t5,t6,t7⟩ := h.sep
 have k : ∀ {b : Nat},T b ≠ 0 → b ≠ F.X := fun hb e => hb (e ▸ t0)
 refine ⟨fun e => by rw [e] at t0;omega,?_,?_,?_,?_,?_,?_⟩
 ·simp;exact k (by omega)
 ·simp;exact k (by omega)
 ·simp;exact k (by omega)
 all_goals intro b hb;simp;refine k ?_
 ·have := t5 b hb;omega
 ·have := t6 b hb;omega
 ·have := t7 b hb;omega
theorem BsAt.turnX {w w' : World} {F : BsF} {s s' : M.BSnd} {x0 x1 vr : Value} {P : Nat} (h : BsAt w F s) (ho : Only [F.X] w w') (hc : w'.heap[F.X]? = some (.cells (bsnA x0 x1 P vr s'.err s'.over) 237 (0,0))) (hst : BsSt w F s'.part s'.rest P vr) : BsAt w' F s' := by
 obtain ⟨s0,s1,s2,s3,s4,s5,s6⟩ := h.sX
 exact ⟨⟨x0,x1,P,vr,hc,hst.of_only ho s1 s2 s3 s4 s5 s6⟩,ho.heap h.gg (by simpa using s0.symm),h.sep,h.live.ev ho.size⟩
theorem size205 (w : World) : (sizeOf (Tryz.prog.elem 235)).run Tryz.prog w = .ok 1 w := by
 have h : Tryz.prog.elem 235 = 205 := by kernel_rfl
 rw [h]
 have hi : (Tryz.prog.info? 205).map (·.size) = some 1 := by kernel_rfl
 obtain ⟨i,hi,hs⟩ := Option.map_eq_some_iff.1 hi
 simp [sizeOf,typeInfo,hi,hs]
theorem rest_2 (w : World) (g : Nat) : (Instr.slice 235 (.slice (some ⟨g,0,none⟩) 2 2) (some (.int .i64 1)) none none).run Tryz.prog w = .ok (.slice (some ⟨g,1,none⟩) 1 1) w :=
 run_tail Tryz.prog w 235 (some ⟨g,0,none⟩) 2 2 1 (by kernel_rfl) 1 size205 (by omega) .i64
theorem rest_1 (w : World) (g : Nat) : (Instr.slice 235 (.slice (some ⟨g,1,none⟩) 1 1) (some (.int .i64 1)) none none).run Tryz.prog w = .ok (.slice (some ⟨g,1,none⟩) 0 0) w :=
 run_tail Tryz.prog w 235 (some ⟨g,1,none⟩) 1 1 1 (by kernel_rfl) 1 size205 (by omega) .i64
theorem bsafter_any (F : BsF) (s : M.BSnd) (v : Value) (out : M.B) (w : World) (h : BsAt w F s) :
  Calls Tryz.prog 226 #[.pointer (some ⟨F.X,0,none⟩),v] w fun e w' => e = .returned v ∧ BsAt w' F (s.after (out,s.part)).2 ∧ Only [F.X] w w' := by
 obtain ⟨x0,x1,P,vr,hc,hst⟩ := h.str
 obtain ⟨ro,hp,_⟩ := hst.part
 have HD := fun wx (ho : Only [] w wx) => sdone_any P ro s.part wx (hp.of_only ho (by simp) (fun b _ => by simp))
 have c2 : w.cell? ⟨F.X,2,none⟩ = some (.pointer (some ⟨P,0,none⟩)) := cell_at hc rfl
 have q1 := fun w => neq_nn w
 have q2 := fun (w : World) (t : TypeId) (x : Value) => neq_in w t x
 cases hdn : s.part.done with
 | false =>
  have hr := bs_no s out hdn
  rw [hdn] at HD
  have HH := LH (AI h hr)
  clear h hr hdn hc hst hp q1 q2
  go_enter Tryz.func226,Tryz.ntmps226
  go_wp2_with (go_at_call 229;refine (HD _ (Only.refl _ _)).mono ?_;rintro e w1 ⟨rfl,ho1⟩;have HO1 := LH ho1;clear ho1)
  go_ret
  rw [HH.out.2]
  exact ⟨rfl,HH.out.1.of_none HO1.out,HO1.out.weaken (by simp)⟩
 | true =>
  rw [hdn] at HD
  by_cases he : s.part.err = 0
  ·rw [he,errV_zero] at HD
   have c3 : w.cell? ⟨F.X,3,none⟩ = some vr := cell_at hc rfl
   cases hrest : s.rest with
   | nil =>
    have hr := bs_end s out hdn he hrest
    rw [hrest] at hst
    have hvr : vr = .slice (some ⟨F.g,1,none⟩) 0 0 := by
     generalize hl : ([] : List M.Snd) = l at hst
     cases hst <;> first | rfl | cases hl
    subst hvr
    have hfin : ∀ w',w'.heap[F.X]? = some (.cells (bsnA x0 x1 P (.slice (some ⟨F.g,1,none⟩) 0 0) 0 true) 237 (0,0)) → Only [F.X] w w' → BsAt w' F (s.after (out,s.part)).2 := fun w' e o => by
     rw [hr];exact h.turnX o e (by simpa [hrest] using hst)
    have HF := LH (AI hc hfin)
    clear h hr hdn hc hst hp he hrest hfin q2
    go_enter Tryz.func226,Tryz.ntmps226
    go_wp2_with (go_at_call 229;refine (HD _ (Only.refl _ _)).mono ?_;rintro e w1 ⟨rfl,ho1⟩;have c31 := ho1.cell c3 (by simp);have hc1 := ho1.heap HF.out.1 (by simp);have f4 : w1.frozen? ⟨F.X,4,none⟩ = false := free_at hc1;have f5 : w1.frozen? ⟨F.X,5,none⟩ = false := free_at hc1;have x4 : w1.cell? ⟨F.X,4,none⟩ = some (errV s.err) := cell_at hc1 rfl;have x5 : w1.cell? ⟨F.X,5,none⟩ = some (.bool s.over) := cell_at hc1 rfl;have HO1 := LH (AI ho1 hc1);clear ho1 hc1)
    go_ret
    have o9 : Only [F.X] w ((w1.setCell ⟨F.X,5,none⟩ (.bool true)).setCell ⟨F.X,4,none⟩ .nilIface) := (((HO1.out.1.weaken (by simp)).setCell (by simp) _).setCell (by simp) _)
    exact ⟨rfl,HF.out.2 _ (hs_same (hs_same HO1.out.2 rfl) rfl) o9,o9⟩
   | cons p r =>
    have hr := bs_next s out p r hdn he hrest
    rw [hrest] at hst
    generalize hl : p :: r = l at hst
    cases hst with
    | a q r0 a b c =>
     cases hl
     have hfin : ∀ w',w'.heap[F.X]? = some (.cells (bsnA x0 x1 F.S2 (.slice (some ⟨F.g,1,none⟩) 1 1) s.err s.over) 237 (0,0)) → Only [F.X] w w' → BsAt w' F (s.after (out,s.part)).2 := fun w' e o => by
      rw [hr];exact h.turnX o e (.b _ _ b c)
     have c0 : w.cell? ⟨F.g,0,none⟩ = some (.pointer (some ⟨F.S2,0,none⟩)) := cell_at h.gg rfl
     have hne := h.sX.1
     have hrun := fun w => rest_2 w F.g
     have HF := LH (AI hc hfin)
     clear h hr hdn hc hp he hrest hfin q2 b c
     go_enter Tryz.func226,Tryz.ntmps226
     go_wp2_with (go_at_call 229;refine (HD _ (Only.refl _ _)).mono ?_;rintro e w1 ⟨rfl,ho1⟩;have c31 := ho1.cell c3 (by simp);have c01 := ho1.cell c0 (by simp);have c21 := ho1.cell c2 (by simp);have hc1 := ho1.heap HF.out.1 (by simp);have f2 : w1.frozen? ⟨F.X,2,none⟩ = false := free_at hc1;have f3 : w1.frozen? ⟨F.X,3,none⟩ = false := free_at hc1;have HO1 := LH (AI ho1 hc1);clear ho1 hc1)
     clear HD c0 c2 c3
     go_region
     all_goals go_wp2_with fail
     go_ret
     have o9 : Only [F.X] w ((w1.drew.setCell ⟨F.X,2,none⟩ (.pointer (some ⟨F.S2,0,none⟩))).setCell ⟨F.X,3,none⟩ (.slice (some ⟨F.g,1,none⟩) 1 1)) := ((((HO1.out.1.weaken (by simp)).drew).setCell (by simp) _).setCell (by simp) _)
     exact ⟨rfl,HF.out.2 _ (hs_same (hs_same HO1.out.2 rfl) rfl) o9,o9⟩
    | b r0 b c =>
     cases hl
     have hfin : ∀ w',w'.heap[F.X]? = some (.cells (bsnA x0 x1 F.S3 (.slice (some ⟨F.g,1,none⟩) 0 0) s.err s.over) 237 (0,0)) → Only [F.X] w w' → BsAt w' F (s.after (out,s.part)).2 := fun w' e o => by
      rw [hr];exact h.turnX o e (.c _ c)
     have c0 : w.cell? ⟨F.g,1,none⟩ = some (.pointer (some ⟨F.S3,0,none⟩)) := cell_at h.gg rfl
     have hne := h.sX.1
     have hrun := fun w => rest_1 w F.g
     have HF := LH (AI hc hfin)
     clear h hr hdn hc hp he hrest hfin q2 b c
     go_enter Tryz.func226,Tryz.ntmps226
     go_wp2_with (go_at_call 229;refine (HD _ (Only.refl _ _)).mono ?_;rintro e w1 ⟨rfl,ho1⟩;have c31 := ho1.cell c3 (by simp);have c01 := ho1.cell c0 (by simp);have c21 := ho1.cell c2 (by simp);have hc1 := ho1.heap HF.out.1 (by simp);have f2 : w1.frozen? ⟨F.X,2,none⟩ = false := free_at hc1;have f3 : w1.frozen? ⟨F.X,3,none⟩ = false := free_at hc1;have HO1 := LH (AI ho1 hc1);clear ho1 hc1)
     clear HD c0 c2 c3
     go_region
     all_goals go_wp2_with fail
     go_ret
     have o9 : Only [F.X] w ((w1.drew.setCell ⟨F.X,2,none⟩ (.pointer (some ⟨F.S3,0,none⟩))).setCell ⟨F.X,3,none⟩ (.slice (some ⟨F.g,1,none⟩) 0 0)) := ((((HO1.out.1.weaken (by simp)).drew).setCell (by simp) _).setCell (by simp) _)
     exact ⟨rfl,HF.out.2 _ (hs_same (hs_same HO1.out.2 rfl) rfl) o9,o9⟩
    | c c => cases hl
  ·have he' : s.part.err ≠ 0 := he
   have hr := bs_err s out hdn he
   have hep : errV s.part.err = .iface 57 (.int .i64 s.part.err) := errV_pos (by omega)
   have hfin : ∀ w',w'.heap[F.X]? = some (.cells (bsnA x0 x1 P vr s.part.err true) 237 (0,0)) → Only [F.X] w w' → BsAt w' F (s.after (out,s.part)).2 := fun w' e o => by
    rw [hr];exact h.turnX o e hst
   obtain ⟨E,hE⟩ : ∃ E,E = s.part.err := ⟨_,rfl⟩
   have hE0 : bsnA x0 x1 P vr s.part.err true = #[x0,x1,.pointer (some ⟨P,0,none⟩),vr,.iface 57 (.int .i64 E),.bool true] := by unfold bsnA;rw [hep,hE]
   rw [hep,← hE] at HD
   rw [hE0] at hfin
   have HF := LH (AI hc hfin)
   clear h hr hdn hc hst hp he he' hfin q1 hep hE hE0
   go_enter Tryz.func226,Tryz.ntmps226
   go_wp2_with (go_at_call 229;refine (HD _ (Only.refl _ _)).mono ?_;rintro e w1 ⟨rfl,ho1⟩;have hc1 := ho1.heap HF.out.1 (by simp);have f4 : w1.frozen? ⟨F.X,4,none⟩ = false := free_at hc1;have f5 : w1.frozen? ⟨F.X,5,none⟩ = false := free_at hc1;have x4 : w1.cell? ⟨F.X,4,none⟩ = some (errV s.err) := cell_at hc1 rfl;have x5 : w1.cell? ⟨F.X,5,none⟩ = some (.bool s.over) := cell_at hc1 rfl;have HO1 := LH (AI ho1 hc1);clear ho1 hc1)
   go_ret
   have o9 : Only [F.X] w ((w1.setCell ⟨F.X,5,none⟩ (.bool true)).setCell ⟨F.X,4,none⟩ (.iface 57 (.int .i64 E))) := (((HO1.out.1.weaken (by simp)).setCell (by simp) _).setCell (by simp) _)
   exact ⟨rfl,HF.out.2 _ (hs_same (hs_same HO1.out.2 rfl) rfl) o9,o9⟩
theorem BsSt.opened {w : World} {F : BsF} {p : M.Snd} {rs : List M.Snd} {P : Nat} {vr : Value} (h : BsSt w F p rs P vr) (hs : ∃ T : Nat → Nat,T F.X = 0 ∧ T F.g = 1 ∧ T F.S1 = 2 ∧ T F.S2 = 3 ∧ T F.S3 = 4 ∧ Tag T 5 F.r1 ∧ Tag T 5 F.r2 ∧ Tag T 5 F.r3) :
  ∃ ro,Snded w P ro p ∧ P ∈ [F.S1,F.S2,F.S3] ∧ P ≠ F.X ∧ P ≠ F.g ∧ ∀ w' p',Only [P] w w' → Snded w' P ro p' → BsSt w' F p' rs P vr := by
 obtain ⟨T,t0,t1,t2,t3,t4,t5,t6,t7⟩ := hs
 have k : ∀ {a b : Nat},T a ≠ T b → a ≠ b := fun hb e => hb (by rw [e])
 cases h with
 | a q r a b c =>
  refine ⟨_,a,by simp,k (by omega),k (by omega),fun w' p' ho hp => .a _ q r hp (b.of_only ho (by simp;exact k (by omega)) ?_) (c.of_only ho (by simp;exact k (by omega)) ?_)⟩
  ·intro x hx;have := t6 x hx;simp;exact k (by omega)
  ·intro x hx;have := t7 x hx;simp;exact k (by omega)
 | b r b c =>
  refine ⟨_,b,by simp,k (by omega),k (by omega),fun w' p' ho hp => .b _ r hp (c.of_only ho (by simp;exact k (by omega)) ?_)⟩
  intro x hx;have := t7 x hx;simp;exact k (by omega)
 | c c => exact ⟨_,c,by simp,k (by omega),k (by omega),fun w' p' ho hp => .c _ hp⟩
theorem BsAt.opened {w : World} {F : BsF} {s : M.BSnd} (h : BsAt w F s) : ∃ x0 x1 P vr ro,w.heap[F.X]? = some (.cells (bsnA x0 x1 P vr s.err s.over) 237 (0,0)) ∧ Snded w P ro s.part ∧ P ≠ F.X ∧
  ∀ w' p',Only [P] w w' → Snded w' P ro p' → BsAt w' F { s with part := p' } ∧ Only F.turns w w' := by
 obtain ⟨x0,x1,P,vr,hc,hst⟩ := h.str
 obtain ⟨ro,hp,hin,hX,hg,hall⟩ := hst.opened h.sep
 refine ⟨x0,x1,P,vr,ro,hc,hp,hX,fun w' p' ho hq => ⟨⟨⟨x0,x1,P,vr,ho.heap hc (by simpa using hX.symm),hall w' p' ho hq⟩,ho.heap h.gg (by simpa using hg.symm),h.sep,h.live.ev ho.size⟩,ho.weaken ?_⟩⟩
 intro x hx
 simp at hx
 subst hx
 exact List.mem_cons_of_mem _ hin
theorem bs_put (s : M.BSnd) (b : UInt8) (h : s.over = false) : s.put b = ((s.part.put b).1,({ s with part := (s.part.put b).2 }.after ((s.part.put b).1,(s.part.put b).2)).2) := by
 unfold M.BSnd.put
 rw [if_neg (by simp [h])]
 rfl
theorem bs_tick (s : M.BSnd) (h : s.over = false) : s.tick = ((s.part.tick).1,({ s with part := (s.part.tick).2 }.after ((s.part.tick).1,(s.part.tick).2)).2) := by
 unfold M.BSnd.tick
 rw [if_neg (by simp [h])]
 rfl
theorem bsput_any (F : BsF) (s : M.BSnd) (b : UInt8) (w : World) (h : BsAt w F s) (hf : s.over = false → Fine s.part) :
  Calls Tryz.prog 224 #[.pointer (some ⟨F.X,0,none⟩),byteV b] w (BsPost w F (s.put b)) := by
 obtain ⟨x0,x1,P,vr,ro,hc,hp,hX,hall⟩ := h.opened
 have c5 : w.cell? ⟨F.X,5,none⟩ = some (.bool s.over) := cell_at hc rfl
 have hXl : F.X < w.heap.size := heap_lt hc
 cases hov : s.over with
 | true =>
  have hr : s.put b = ([],s) := by simp [M.BSnd.put,hov]
  rw [hov] at c5
  have HF := LH (AI h hr)
  clear h hr hov hc hp hall hf
  go_enter Tryz.func224,Tryz.ntmps224
  go_wp2_with fail
  go_ret
  rw [HF.out.2]
  exact ⟨_,rfl,Out.nil _ _,HF.out.1,Only.refl _ _⟩
 | false =>
  have c2 : w.cell? ⟨F.X,2,none⟩ = some (.pointer (some ⟨P,0,none⟩)) := cell_at hc rfl
  have hr := bs_put s b hov
  rw [hov] at c5
  have HP := sput_any P ro s.part b w hp (hf hov)
  obtain ⟨r,hr0⟩ : ∃ r,r = s.part.put b := ⟨_,rfl⟩
  rw [← hr0] at hr HP
  have HA := fun (v : Value) (wx : World) (k : BsAt wx F { s with part := r.2 }) => bsafter_any F { s with part := r.2 } v r.1 wx k
  have HF := LH (AI hall hr)
  clear h hr hov hc hp hall hf hr0
  go_enter Tryz.func224,Tryz.ntmps224
  go_wp2_with (first
   | (go_at_call 227;refine (HP).mono ?_;rintro e w1 ⟨v,rfl,e1,e2,e3⟩;have h1 := HF.out.1 w1 r.2 e3 e2;have HE := LH (AI e1 h1);clear e1 e2 e3 h1)
   | (go_at_call 226;refine (HA _ _ HE.out.2.1).mono ?_;rintro e w2 ⟨rfl,f1,f2⟩;have HG := LH (AI f1 f2);clear f1 f2))
  go_ret
  rw [HF.out.2]
  have hv : ∀ g,v.ownBlock = some g → g ∉ [F.X] := by
   intro g e
   have h1 := (HE.out.1.fresh g e).1
   have h2 := hXl
   simp
   omega
  exact ⟨v,rfl,HE.out.1.of_only HG.out.2 hv,HG.out.1,HE.out.2.2.trans (HG.out.2.weaken (by simp))⟩
theorem bstick_any (F : BsF) (s : M.BSnd) (w : World) (h : BsAt w F s) (hf : s.over = false → Fine s.part) :
  Calls Tryz.prog 225 #[.pointer (some ⟨F.X,0,none⟩)] w (BsPost w F (s.tick)) := by
 obtain ⟨x0,x1,P,vr,ro,hc,hp,hX,hall⟩ := h.opened
 have c5 : w.cell? ⟨F.X,5,none⟩ = some (.bool s.over) := cell_at hc rfl
 have hXl : F.X < w.heap.size := heap_lt hc
 cases hov : s.over with
 | true =>
  have hr : s.tick = ([],s) := by simp [M.BSnd.tick,hov]
  rw [hov] at c5
  have HF := LH (AI h hr)
  clear h hr hov hc hp hall hf
  go_enter Tryz.func225,Tryz.ntmps225
  go_wp2_with fail
  go_ret
  rw [HF.out.2]
  exact ⟨_,rfl,Out.nil _ _,HF.out.1,Only.refl _ _⟩
 | false =>
  have c2 : w.cell? ⟨F.X,2,none⟩ = some (.pointer (some ⟨P,0,none⟩)) := cell_at hc rfl
  have hr := bs_tick s hov
  rw [hov] at c5
  have HP := stick_any P ro s.part w hp (hf hov)
  obtain ⟨r,hr0⟩ : ∃ r,r = s.part.tick := ⟨_,rfl⟩
  rw [← hr0] at hr HP
  have HA := fun (v : Value) (wx : World) (k : BsAt wx F { s with part := r.2 }) => bsafter_any F { s with part := r.2 } v r.1 wx k
  have HF := LH (AI hall hr)
  clear h hr hov hc hp hall hf hr0
  go_enter Tryz.func225,Tryz.ntmps225
  go_wp2_with (first
   | (go_at_call 228;refine (HP).mono ?_;rintro e w1 ⟨v,rfl,e1,e2,e3⟩;have h1 := HF.out.1 w1 r.2 e3 e2;have HE := LH (AI e1 h1);clear e1 e2 e3 h1)
   | (go_at_call 226;refine (HA _ _ HE.out.2.1).mono ?_;rintro e w2 ⟨rfl,f1,f2⟩;have HG := LH (AI f1 f2);clear f1 f2))
  go_ret
  rw [HF.out.2]
  have hv : ∀ g,v.ownBlock = some g → g ∉ [F.X] := by
   intro g e
   have h1 := (HE.out.1.fresh g e).1
   have h2 := hXl
   simp
   omega
  exact ⟨v,rfl,HE.out.1.of_only HG.out.2 hv,HG.out.1,HE.out.2.2.trans (HG.out.2.weaken (by simp))⟩
theorem RPost.none {w w' : World} {R : Nat} {vb vd : Value} {r : M.Rcv} (h : Rcved w' R vb vd r) (ho : Only (rfp R vb vd) w w') : RPost w R vb vd ([],r) (.returned (.slice none 0 0)) w' :=
 ⟨_,vb,vd,rfl,Out.nil _ _,h,⟨ho,Grow.refl _ _⟩,fun g e => by simp [Value.ownBlock] at e⟩
theorem out_one' (w w1 : World) (b : Nat) (hb : w1.heap.size = b) (x : UInt8) (a : Int) (hx : (x.toNat : Int) = a) (hs : w.heap.size ≤ w1.heap.size) : Out w (w1.alloc (.cells #[.int .u8 a] 5)) (.slice (some ⟨b,0,none⟩) 1 1) [x] := by
 subst hb;exact out_one w w1 x a hx hs
theorem Rcved.turn {w w' : World} {R : Nat} {vb vd vb' : Value} {r r' : M.Rcv} (h : Rcved w R vb vd r) (hq : w'.heap[R]? = some (.cells (rcvA r' vb' vd) 308 (0,0))) (hb : RowB w' vb' r'.buffer) (hd : RowB w' vd r.data) (e1 : r'.data = r.data) (sb : vb'.ownBlock ≠ some R) (sbd : ∀ g,vb'.ownBlock = some g → vd.ownBlock ≠ some g) (e2 : r'.wait = r.wait) (e3 : r'.blocks = r.blocks) (tr : r'.tries ≤ 9) (lf : 1 ≤ r'.left ∧ r'.left ≤ 99) (bl : r'.buffer.length ≤ 1099511627776) : Rcved w' R vb' vd r' :=
 ⟨hq,hb,by rw [e1];exact hd,sb,h.sd,sbd,by rw [e2];exact h.wt,tr,lf,bl,by rw [e1];exact h.dl,by rw [e3];exact h.kl⟩
theorem rtick_any (R : Nat) (vb vd : Value) (r : M.Rcv) (w : World) (h : Rcved w R vb vd r) (ht : r.begun = false → 1 ≤ r.tries) :
  Calls Tryz.prog 247 #[.pointer (some ⟨R,0,none⟩)] w (RPost w R vb vd r.tick) := by
 have c0 : w.cell? ⟨R,0,none⟩ = some (.bool r.crc) := cell_at h.str rfl
 have c1 : w.cell? ⟨R,1,none⟩ = some (.int .i64 r.wait) := cell_at h.str rfl
 have c2 : w.cell? ⟨R,2,none⟩ = some (.int .i64 r.tries) := cell_at h.str rfl
 have c3 : w.cell? ⟨R,3,none⟩ = some (.int .i64 r.left) := cell_at h.str rfl
 have c5 : w.cell? ⟨R,5,none⟩ = some (.bool r.begun) := cell_at h.str rfl
 have c7 : w.cell? ⟨R,7,none⟩ = some vb := cell_at h.str rfl
 have c11 : w.cell? ⟨R,11,none⟩ = some (.bool r.over) := cell_at h.str rfl
 have f2 : w.frozen? ⟨R,2,none⟩ = false := free_at h.str
 have f3 : w.frozen? ⟨R,3,none⟩ = false := free_at h.str
 have f7 : w.frozen? ⟨R,7,none⟩ = false := free_at h.str
 have hlf := h.lf
 have hwt := h.wt
 have htr := h.tr
 have H := LH h
 cases hov : r.over with
 | true =>
  rw [hov] at c11
  have HN : Hid (r.tick = ([],r)) := by unfold M.Rcv.tick;rw [hov];exact rfl
  clear h ht hlf hwt hov
  go_enter Tryz.func247,Tryz.ntmps247
  go_wp2_with fail
  go_ret
  rw [HN.out]
  exact RPost.none H.out (Only.refl _ _)
 | false =>
  rw [hov] at c11
  obtain ⟨l,hl⟩ : ∃ l,r.left = l + 1 := ⟨r.left - 1,by omega⟩
  have hl99 : l ≤ 99 := by omega
  rw [hl] at c3
  by_cases hl0 : 0 < l
  ·have HN : Hid (r.tick = ([],{ r with left := l })) := by unfold M.Rcv.tick;rw [hov,hl];simp only [Nat.add_sub_cancel];rw [if_neg (by simp),if_pos hl0];exact rfl
   have o1 : Only [R] w (w.setCell ⟨R,3,none⟩ (.int .i64 l)) := (Only.refl _ _).setCell (by simp) _
   have hq : Rcved (w.setCell ⟨R,3,none⟩ (.int .i64 l)) R vb vd { r with left := l } :=
    h.turn (hs_same h.str rfl) (ownsRow_only h.buf o1 (fun g e hg => by simp at hg;subst hg;exact h.sb e)) (ownsRow_only h.dat o1 (fun g e hg => by simp at hg;subst hg;exact h.sd e)) rfl h.sb h.sbd rfl rfl htr ⟨by show 1 ≤ l;omega,by show l ≤ 99;omega⟩ h.bl
   have HQ := LH (AI hq o1)
   clear h ht hlf hwt hov hq o1
   go_enter Tryz.func247,Tryz.ntmps247
   go_wp2_with fail
   go_ret
   rw [HN.out]
   exact RPost.none HQ.out.1 (HQ.out.2.weaken (by simp))
  ·obtain rfl : l = 0 := by omega
   cases hbg : r.begun with
   | true =>
    have hn : (r.tick = ([M.Rcv.ask { r with left := r.wait,buffer := [] }],{ r with left := r.wait,buffer := [] })) := by
     unfold M.Rcv.tick;rw [hov,hl];simp only [Nat.add_sub_cancel];rw [if_neg (by simp),if_neg (by simp)];simp [hbg]
    have HN := LH hn
    clear hn
    rw [hbg] at c5
    have o1 : Only [R] w (((w.setCell ⟨R,3,none⟩ (.int .i64 0)).setCell ⟨R,3,none⟩ (.int .i64 r.wait)).setCell ⟨R,7,none⟩ (.slice none 0 0)) := (((Only.refl _ _).setCell (by simp) _).setCell (by simp) _).setCell (by simp) _
    have hq : Rcved (((w.setCell ⟨R,3,none⟩ (.int .i64 0)).setCell ⟨R,3,none⟩ (.int .i64 r.wait)).setCell ⟨R,7,none⟩ (.slice none 0 0)) R (.slice none 0 0) vd { r with left := r.wait,buffer := [] } :=
     h.turn (hs_same (hs_same (hs_same h.str rfl) rfl) rfl) (RowB.nil _) (ownsRow_only h.dat o1 (fun g e hg => by simp at hg;subst hg;exact h.sd e)) rfl (by simp [Value.ownBlock]) (fun g e => by simp [Value.ownBlock] at e) rfl rfl htr ⟨hwt.1,hwt.2⟩ (by simp)
    have HQ := LH (AI hq o1)
    clear h ht hlf hwt hov hq o1 hbg
    go_enter Tryz.func247,Tryz.ntmps247
    go_wp2_with (first | (go_at_call 256;refine (rask_any R (.slice none 0 0) vd { r with left := r.wait,buffer := [] } _ HQ.out.1).mono ?_;rintro e w' ⟨rfl,rfl⟩))
    go_ret
    rw [HN.out]
    refine ⟨_,.slice none 0 0,vd,rfl,out_one' w _ _ (by simp) _ _ rfl HQ.out.2.size,HQ.out.1.of_none ((Only.refl [] _).alloc _),⟨(HQ.out.2.alloc _).weaken (by simp [rfp]),fun b hb => ?_⟩,fun g e => ?_⟩
    ·left;simp [rfp,ownL,Value.ownBlock] at hb ⊢;rcases hb with hb | hb <;> simp [hb]
    ·have hl := HQ.out.1.live
     intro hb
     have := hl g hb
     simp [Value.ownBlock] at e this
     omega
   | false =>
    obtain ⟨k,hk⟩ : ∃ k,r.tries = k + 1 := ⟨r.tries - 1,by have := ht hbg;omega⟩
    rw [hk] at c2
    have hn : (r.tick = ([M.Rcv.ask { r with left := r.wait,buffer := [],tries := k }],{ r with left := r.wait,buffer := [],tries := k })) := by
     unfold M.Rcv.tick;rw [hov,hl];simp only [Nat.add_sub_cancel];rw [if_neg (by simp),if_neg (by simp)];simp [hbg,hk]
    have HN := LH hn
    clear hn
    rw [hbg] at c5
    have o1 : Only [R] w ((((w.setCell ⟨R,3,none⟩ (.int .i64 0)).setCell ⟨R,3,none⟩ (.int .i64 r.wait)).setCell ⟨R,7,none⟩ (.slice none 0 0)).setCell ⟨R,2,none⟩ (.int .i64 k)) := ((((Only.refl _ _).setCell (by simp) _).setCell (by simp) _).setCell (by simp) _).setCell (by simp) _
    have hq : Rcved ((((w.setCell ⟨R,3,none⟩ (.int .i64 0)).setCell ⟨R,3,none⟩ (.int .i64 r.wait)).setCell ⟨R,7,none⟩ (.slice none 0 0)).setCell ⟨R,2,none⟩ (.int .i64 k)) R (.slice none 0 0) vd { r with left := r.wait,buffer := [],tries := k } :=
     h.turn (hs_same (hs_same (hs_same (hs_same h.str rfl) rfl) rfl) rfl) (RowB.nil _) (ownsRow_only h.dat o1 (fun g e hg => by simp at hg;subst hg;exact h.sd e)) rfl (by simp [Value.ownBlock]) (fun g e => by simp [Value.ownBlock] at e) rfl rfl (by show k ≤ 9;omega) ⟨hwt.1,hwt.2⟩ (by simp)
    have HQ := LH (AI hq o1)
    clear h ht hlf hwt hov hq o1 hbg
    go_enter Tryz.func247,Tryz.ntmps247
    go_wp2_with (first | (go_at_call 256;refine (rask_any R (.slice none 0 0) vd { r with left := r.wait,buffer := [],tries := k } _ HQ.out.1).mono ?_;rintro e w' ⟨rfl,rfl⟩))
    go_ret
    rw [HN.out]
    refine ⟨_,.slice none 0 0,vd,rfl,out_one' w _ _ (by simp) _ _ rfl HQ.out.2.size,HQ.out.1.of_none ((Only.refl [] _).alloc _),⟨(HQ.out.2.alloc _).weaken (by simp [rfp]),fun b hb => ?_⟩,fun g e => ?_⟩
    ·left;simp [rfp,ownL,Value.ownBlock] at hb ⊢;rcases hb with hb | hb <;> simp [hb]
    ·have hl := HQ.out.1.live
     intro hb
     have := hl g hb
     simp [Value.ownBlock] at e this
     omega
end Go.Proofs.YtplaamfoeaaaiaaGreatDoor
