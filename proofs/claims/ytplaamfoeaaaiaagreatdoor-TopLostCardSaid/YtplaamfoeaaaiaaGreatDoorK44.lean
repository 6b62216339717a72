/- A part of the proofs of the laws of lifelinetop (TopNever, TopLost, TopRoom): contracts of functions that these laws reach. No condition of its own. -/
import Derived.Test.YtplaamfoeaaaiaaGreatDoorK02
import Derived.Test.YtplaamfoeaaaiaaGreatDoorK43
import Derived.Lib.SlBytesConst
set_option maxRecDepth 100000
set_option maxHeartbeats 8000000
set_option linter.unusedVariables false
namespace Go.Proofs.YtplaamfoeaaaiaaGreatDoor
open Go.RowKit
theorem aw_conv (w : World) : Sem.run Tryz.prog (convert 22 22 (.slice (some ⟨w.heap.size + 1,0,none⟩) 1 1)) ((w.alloc (.cells #[.slice none 0 0,.int .u16 0,.int .u16 99,.int .u32 0,.int .u8 0,.slice none 0 0,.int .u16 0,.int .u16 99,.int .u32 0,.int .u8 3] 69)).alloc (.cells #[.int .u8 120] 5)) = .ok (.slice (some ⟨w.heap.size + 1,0,none⟩) 1 1) ((w.alloc (.cells #[.slice none 0 0,.int .u16 0,.int .u16 99,.int .u32 0,.int .u8 0,.slice none 0 0,.int .u16 0,.int .u16 99,.int .u32 0,.int .u8 3] 69)).alloc (.cells #[.int .u8 120] 5 (1,2))) := by
 have h := Lib.run_convert_bytes_const (P := Tryz.prog) (w.alloc (.cells #[.slice none 0 0,.int .u16 0,.int .u16 99,.int .u32 0,.int .u8 0,.slice none 0 0,.int .u16 0,.int .u16 99,.int .u32 0,.int .u8 3] 69)) 22 5 #[.int .u8 120] 1 1 Tryz.underlying22 Tryz.underlying5
 have e : (w.alloc (.cells #[.slice none 0 0,.int .u16 0,.int .u16 99,.int .u32 0,.int .u8 0,.slice none 0 0,.int .u16 0,.int .u16 99,.int .u32 0,.int .u8 3] 69)).heap.size = w.heap.size + 1 := by simp
 rw [e] at h
 exact h
theorem awake_is (w : World) (hg : Glob w) :
  Calls Tryz.prog 6 #[] w fun e w' => e = .returned (.bool true) ∧ Only [] w w' := by
 have HG := LH hg
 clear hg
 have hcv := aw_conv w
 go_enter Tryz.func6,Tryz.ntmps6
 go_upto_region 2 with (go_at_call 16;go_loud (refine (aw_make (new0 w _ _) (new1 w _ _)).mono ?_;rintro e w1 ⟨ea,ec,ia,ic,ro,rfl,he,hi,o1,hl,h1,h2,h3⟩))
 have o01 : Only [] w w1 := (((Only.refl [] w).alloc _).alloc _).trans o1
 obtain ⟨eB,eo,rfl,hes⟩ := he.at0 (by rw [aw_len0];omega)
 obtain ⟨iB,io,rfl,his⟩ := hi.at0 (by rw [aw_len1];omega)
 have H1 := LH (AI he (AI hi (AI o01 (AI hl (AI h1 (AI h2 h3))))))
 have HE := LH (AI (hes 0 _ aw_e0) (hes 1 _ aw_e1))
 have HI := LH (AI (his 0 (awIm 0) (by rw [aw_ims];rfl)) (his 1 (awIm 1) (by rw [aw_ims];rfl)))
 clear o1 he hi o01 hl h1 h2 h3 hes his
 clear hcv
 have HC := LH (aw_config w1)
 go_upto_region 3 with (first
  | (go_at_call 8;go_loud (refine HC.out.mono ?_;rintro e w2 ⟨rfl,o2⟩;have HO := LH (aw_of (H1.out.1.of_only o2 (fun ad e _ => by simp)) (H1.out.2.1.of_only o2 (fun b _ => by simp)) (fun b hb => Nat.lt_of_lt_of_le (H1.out.2.2.2.1 b hb) o2.size) H1.out.2.2.2.2.1 H1.out.2.2.2.2.2.1 H1.out.2.2.2.2.2.2 (HG.out.of_none (H1.out.2.2.1.trans o2)));have H2 := LH o2;clear o2))
  | (go_at_call 10;go_loud (refine HO.out.mono ?_;rintro e w3 ⟨W,H,T,D,U,f,rfl,o3,hS,hf⟩)))
 have c0 : w3.cell? ⟨W,0,none⟩ = some (.pointer (some ⟨H,0,none⟩)) := cell_at hS.str rfl
 have c1 : w3.cell? ⟨W,1,none⟩ = some (.pointer (some ⟨T,0,none⟩)) := cell_at hS.str rfl
 have hWl := heap_lt hS.str
 have HR := LH (aw_runs hS)
 have H3 := LH (AI o3 hf)
 clear o3 hf hS
 go_upto_region 6 with (go_at_call 11;go_loud (refine HR.out.mono ?_;rintro e w4 ⟨⟨rfl,f',N',s,hS4,r0,r1⟩,o4⟩))
 obtain ⟨p0,hp0⟩ : ∃ p0 : Int,p0 = (M.printOf (awIm 0) : Int) := ⟨_,rfl⟩
 obtain ⟨p1,hp1⟩ : ∃ p1 : Int,p1 = (M.printOf (awIm 1) : Int) := ⟨_,rfl⟩
 obtain ⟨⟨q0,q1,q2,q3,q4⟩,t0,t1,t2,t3,t4⟩ := HE.out
 obtain ⟨⟨u0,hu0,a0,x0,rfl,b0,_,_,_,z0⟩,⟨u1,hu1,a1,x1,rfl,b1,_,_,_,z1⟩⟩ := HI.out
 simp only [aw_l0] at hu0
 simp only [aw_l1] at hu1
 rw [← hp0] at q3
 rw [← hp1] at t3
 have o13 : Only [] w1 w3 := H2.out.trans H3.out.1
 have hfar : ∀ {ad : Addr} {v : Value},w1.cell? ad = some v → w4.cell? ad = some v := fun {ad v} h => o4.cell (o13.cell h (by simp)) (fun hm => by have h1 := H3.out.2 _ hm;have h2 := World.block_lt_of_cell? w1 _ h;have h3 := H2.out.size;omega)
 have hbf : ∀ (a : Option Addr) (im : M.B),Bytes w1 a im → (im = [] ∨ ∀ x,a = some x → x.block ∈ ro) → Bytes w4 a im := fun a im h hz => (h.of_only o13 (.inr (fun ad e => by simp))).of_only o4 (hz.imp id (fun hz ad e hm => by have h1 := H3.out.2 _ hm;have h2 := H1.out.2.2.2.1 _ (hz ad e);have h3 := H2.out.size;omega))
 have B0 := hbf a0 (awIm 0) b0 z0
 have B1 := hbf a1 (awIm 1) b1 z1
 have e00 : w4.cell? ⟨eB,eo,none⟩ = some (.string ⟨#[102,97]⟩) := hfar q0
 have e01 : w4.cell? ⟨eB,eo + 1,none⟩ = some (.int .i64 0) := hfar q1
 have e02 : w4.cell? ⟨eB,eo + 2,none⟩ = some (.int .i64 100) := hfar q2
 have e03 : w4.cell? ⟨eB,eo + 3,none⟩ = some (.int .u32 p0) := hfar q3
 have e04 : w4.cell? ⟨eB,eo + 4,none⟩ = some (.int .i64 0) := hfar q4
 have e10 : w4.cell? ⟨eB,eo + 5,none⟩ = some (.string ⟨#[102,98]⟩) := hfar t0
 have e11 : w4.cell? ⟨eB,eo + 5 + 1,none⟩ = some (.int .i64 2048) := hfar t1
 have e12 : w4.cell? ⟨eB,eo + 5 + 2,none⟩ = some (.int .i64 100) := hfar t2
 have e13 : w4.cell? ⟨eB,eo + 5 + 3,none⟩ = some (.int .u32 p1) := hfar t3
 have e14 : w4.cell? ⟨eB,eo + 5 + 4,none⟩ = some (.int .i64 3) := hfar t4
 have i00 : w4.cell? ⟨iB,io,none⟩ = some (.slice a0 100 x0) := hfar hu0
 have i10 : w4.cell? ⟨iB,io + 1,none⟩ = some (.slice a1 100 x1) := hfar hu1
 have H4 := LH (AI hS4 (AI r0 (AI r1 (AI o4 (AI B0 B1)))))
 have HH0 := LH (fun (wx : World) (o : Only [] w4 wx) => (show Calls Tryz.prog 12 #[.pointer (some ⟨W,0,none⟩),.agg #[.string ⟨#[102,97]⟩,.int .i64 0,.int .i64 100,.int .u32 p0,.int .i64 0],.slice a0 100 x0] wx fun e w' => e = .returned (.bool true) ∧ Only [] wx w' from aw_hold (nm := [102,97]) (addr := 0) (hS4.of_none o) (B0.of_only o (.inr (fun ad e => by simp))) aw_l0 (by omega) r0))
 have HH1 := LH (fun (wx : World) (o : Only [] w4 wx) => (show Calls Tryz.prog 12 #[.pointer (some ⟨W,0,none⟩),.agg #[.string ⟨#[102,98]⟩,.int .i64 2048,.int .i64 100,.int .u32 p1,.int .i64 3],.slice a1 100 x1] wx fun e w' => e = .returned (.bool true) ∧ Only [] wx w' from aw_hold (nm := [102,98]) (addr := 2048) (hS4.of_none o) (B1.of_only o (.inr (fun ad e => by simp))) aw_l1 (by omega) r1))
 clear hfar hbf q0 q1 q2 q3 q4 t0 t1 t2 t3 t4 hu0 hu1 b0 b1 z0 z1 o13 hS4 r0 r1 o4 B0 B1 hp0 hp1 c0 c1 hWl
 refine wp_region_held_drew (S := (fun w' => w'.cell? ⟨eB,eo,none⟩ = some (.string ⟨#[102,97]⟩) ∧ w'.cell? ⟨eB,eo + 1,none⟩ = some (.int .i64 0) ∧ w'.cell? ⟨eB,eo + 2,none⟩ = some (.int .i64 100) ∧ w'.cell? ⟨eB,eo + 3,none⟩ = some (.int .u32 p0) ∧ w'.cell? ⟨eB,eo + 4,none⟩ = some (.int .i64 0) ∧ w'.cell? ⟨eB,eo + 5,none⟩ = some (.string ⟨#[102,98]⟩) ∧ w'.cell? ⟨eB,eo + 5 + 1,none⟩ = some (.int .i64 2048) ∧ w'.cell? ⟨eB,eo + 5 + 2,none⟩ = some (.int .i64 100) ∧ w'.cell? ⟨eB,eo + 5 + 3,none⟩ = some (.int .u32 p1) ∧ w'.cell? ⟨eB,eo + 5 + 4,none⟩ = some (.int .i64 3) ∧ w'.cell? ⟨iB,io,none⟩ = some (.slice a0 100 x0) ∧ w'.cell? ⟨iB,io + 1,none⟩ = some (.slice a1 100 x1))) (by kernel_rfl) (⟨e00,e01,e02,e03,e04,e10,e11,e12,e13,e14,i00,i10⟩) (fun hHeld => ?_)
 refine wI 0 ?_
 try simp only [Act.put,gs]
 refine wI 1 ?_
 try simp only [Act.put,gs]
 refine wI 2 ?_
 try simp only [Act.put,gs]
 refine wI 3 ?_
 try simp only [Act.put,gs]
 refine wI 4 ?_
 try simp only [Act.put,gs]
 refine wI 5 ?_
 try simp only [Act.put,gs]
 refine wI 6 ?_
 try simp only [Act.put,gs]
 refine wI 7 ?_
 try simp only [Act.put,gs]
 refine wI 8 ?_
 try simp only [Act.put,gs]
 refine wI 9 ?_
 try simp only [Act.put,gs]
 refine wI 10 ?_
 try simp only [Act.put,gs]
 refine wI 11 ?_
 try simp only [Act.put,gs]
 refine wI 12 ?_
 try simp only [Act.put,gs]
 refine wpAnyH_ready (rs := [13]) (by kernel_rfl) (by simp) ?_
 refine AllReadyH.cons (o := _) rfl (fun K hK => ?_) AllReadyH.nil
 go_simp
 refine (HH0.out _ ((Only.refl [] w4).drew)).mono ?_
 rintro zz w5 ⟨rfl,o5⟩
 refine hK.out _ _ (⟨o5.cell hHeld.1 (by simp),o5.cell hHeld.2.1 (by simp),o5.cell hHeld.2.2.1 (by simp),o5.cell hHeld.2.2.2.1 (by simp),o5.cell hHeld.2.2.2.2.1 (by simp),o5.cell hHeld.2.2.2.2.2.1 (by simp),o5.cell hHeld.2.2.2.2.2.2.1 (by simp),o5.cell hHeld.2.2.2.2.2.2.2.1 (by simp),o5.cell hHeld.2.2.2.2.2.2.2.2.1 (by simp),o5.cell hHeld.2.2.2.2.2.2.2.2.2.1 (by simp),o5.cell hHeld.2.2.2.2.2.2.2.2.2.2.1 (by simp),o5.cell hHeld.2.2.2.2.2.2.2.2.2.2.2 (by simp)⟩) (fun hHeld => ?_)
 clear hK K
 try simp only [Act.put,gs]
 refine wI 14 ?_
 try simp only [Act.put,gs]
 refine wI 15 ?_
 try simp only [Act.put,gs]
 refine wI 16 ?_
 try simp only [Act.put,gs]
 refine wI 17 ?_
 try simp only [Act.put,gs]
 refine wI 18 ?_
 try simp only [Act.put,gs]
 refine wI 19 ?_
 try simp only [Act.put,gs]
 refine wI 20 ?_
 try simp only [Act.put,gs]
 refine wI 21 ?_
 try simp only [Act.put,gs]
 refine wI 22 ?_
 try simp only [Act.put,gs]
 refine wpAnyH_ready (rs := [23]) (by kernel_rfl) (by simp) ?_
 refine AllReadyH.cons (o := _) rfl (fun K hK => ?_) AllReadyH.nil
 go_simp
 refine (HH1.out _ (((Only.refl [] w4).drew).trans o5)).mono ?_
 rintro zz w6 ⟨rfl,o6⟩
 refine hK.out _ _ (⟨o6.cell hHeld.1 (by simp),o6.cell hHeld.2.1 (by simp),o6.cell hHeld.2.2.1 (by simp),o6.cell hHeld.2.2.2.1 (by simp),o6.cell hHeld.2.2.2.2.1 (by simp),o6.cell hHeld.2.2.2.2.2.1 (by simp),o6.cell hHeld.2.2.2.2.2.2.1 (by simp),o6.cell hHeld.2.2.2.2.2.2.2.1 (by simp),o6.cell hHeld.2.2.2.2.2.2.2.2.1 (by simp),o6.cell hHeld.2.2.2.2.2.2.2.2.2.1 (by simp),o6.cell hHeld.2.2.2.2.2.2.2.2.2.2.1 (by simp),o6.cell hHeld.2.2.2.2.2.2.2.2.2.2.2 (by simp)⟩) (fun hHeld => ?_)
 clear hK K
 try simp only [Act.put,gs]
 refine wI 24 ?_
 try simp only [Act.put,gs]
 refine wI 25 ?_
 try simp only [Act.put,List.getElem_toArray,List.getElem_cons_zero,List.getElem_cons_succ,List.setIfInBounds_toArray,List.set_cons_zero]
 refine wpAnyH_done (by kernel_rfl) ?_ _
 clear hHeld
 clear e00 e01 e02 e03 e04 e10 e11 e12 e13 e14 i00 i10
 go_wp2_with fail
 go_ret
 have s1 := H1.out.2.2.1.size
 have s2 := H2.out.size
 exact ⟨rfl,(only_new ((H1.out.2.2.1.trans H2.out).trans H3.out.1) H4.out.2.2.2.1 (fun b hb => by have := H3.out.2 b hb;omega)).trans ((((Only.refl [] w4).drew).trans o5).trans o6)⟩
end Go.Proofs.YtplaamfoeaaaiaaGreatDoor
