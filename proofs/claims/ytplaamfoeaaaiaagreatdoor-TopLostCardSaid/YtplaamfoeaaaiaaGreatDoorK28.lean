/- A part of the proofs of the laws of lifelinetop (TopNever, TopLost, TopRoom): contracts of functions that these laws reach. No condition of its own. -/
import Derived.Test.YtplaamfoeaaaiaaGreatDoorK02
import Derived.Test.YtplaamfoeaaaiaaGreatDoorK27
import Derived.Deep.AppendLies
set_option maxRecDepth 100000
set_option maxHeartbeats 8000000
set_option linter.unusedVariables false
namespace Go.Proofs.YtplaamfoeaaaiaaGreatDoor
open Go.RowKit
theorem begin0_any (T S addr : Nat) (vl tv vr : Value) (t : M.Board) (w : World) (h : w.heap[T]? = some (.cells (brdA t S vl tv vr) 84 (0,0))) (hc : CfgOk t.cfg) :
  Calls Tryz.prog 119 #[.pointer (some ⟨T,0,none⟩),strB [99,104,101,99,107],.int .i64 addr] w fun e w' => e = .returned (.bool true) ∧ ∃ tv' tf',Takes w' tv' tf' (.one (M.rcvOf t.cfg 1 false true 1)) ∧ (∀ b,b ∈ tf' → w.heap.size ≤ b) ∧
   w'.heap[T]? = some (.cells (brdA { t with addr := addr } S vl tv' vr) 84 (0,0)) ∧ Only [T] w w' := by
 have HW := fun w => ways_any w
 obtain ⟨w1,hw1⟩ : ∃ w1,w1 = w.alloc (.cells #[strB [99,104,101,99,107],strB [99,114,99],strB [108,97,114,103,101],strB [98,97,116,99,104]] 9) := ⟨_,rfl⟩
 obtain ⟨A,hA⟩ : ∃ A,A = w.heap.size := ⟨_,rfl⟩
 have hx : w1.heap[A]? = some (.cells #[strB [99,104,101,99,107],strB [99,114,99],strB [108,97,114,103,101],strB [98,97,116,99,104]] 9 (0,0)) := by rw [hw1,hA];exact heap_alloc_new w _
 have o1 : Only [] w w1 := by rw [hw1];exact (Only.refl [] w).alloc _
 have h1 := o1.heap h (by simp)
 have hT := heap_lt h
 have a0 : w1.cell? ⟨A,0,none⟩ = some (strB [99,104,101,99,107]) := cell_at hx rfl
 have a1 : w1.cell? ⟨A,1,none⟩ = some (strB [99,114,99]) := cell_at hx rfl
 have a2 : w1.cell? ⟨A,2,none⟩ = some (strB [108,97,114,103,101]) := cell_at hx rfl
 have a3 : w1.cell? ⟨A,3,none⟩ = some (strB [98,97,116,99,104]) := cell_at hx rfl
 have c6 : w1.cell? ⟨T,6,none⟩ = some (.int .i64 t.addr) := cell_at h1 rfl
 have f6 : w1.frozen? ⟨T,6,none⟩ = false := free_at h1
 have h2 : (w1.setCell ⟨T,6,none⟩ (.int .i64 addr)).heap[T]? = some (.cells (brdA { t with addr := addr } S vl tv vr) 84 (0,0)) := hs_same h1 rfl
 have o2 : Only [T] w (w1.setCell ⟨T,6,none⟩ (.int .i64 addr)) := (o1.weaken (by simp)).setCell (by simp) _
 have H1 := LH (AI hw1 (AI hA (AI o2 (AI h2 hc))))
 clear hw1 hA o1 h h1 hx hc h2 o2
 go_enter Tryz.func119,Tryz.ntmps119
 go_upto_region 2 with (go_at_call 21;refine (HW _).mono ?_;rintro e w2 ⟨rfl,rfl⟩)
 rw [← H1.out.1,← H1.out.2.1]
 refine wp_loop_rounds 1 ?_
 rw [rounds_succ]
 go_upto_region 8 with fail
 obtain ⟨w2,hw2⟩ : ∃ w2,w2 = w1.setCell ⟨T,6,none⟩ (.int .i64 addr) := ⟨_,rfl⟩
 rw [← hw2] at H1 ⊢
 clear hw2 a0 a1 a2 a3 c6 f6 HW
 have t1 : w2.cell? ⟨T,1,none⟩ = some (.int .i64 t.cfg.tries) := cell_at H1.out.2.2.2.1 rfl
 have t2 : w2.cell? ⟨T,2,none⟩ = some (.int .i64 t.cfg.wait) := cell_at H1.out.2.2.2.1 rfl
 have HRO := rof_any t.cfg 1 false true w2 H1.out.2.2.2.2
 go_wp2_with (go_at_call 138;refine (HRO).mono ?_;rintro e w3 ⟨R,rfl,hR,hrc,ho3⟩;have h3 := ho3.heap H1.out.2.2.2.1 (by simp);have c5 : w3.cell? ⟨T,5,none⟩ = some tv := cell_at h3 rfl;have f5 : w3.frozen? ⟨T,5,none⟩ = false := free_at h3;have H3 := LH (AI h3 (AI hR (AI hrc ho3)));clear h3 hR hrc ho3)
 go_ret
 have hs := H1.out.2.2.1.size
 refine ⟨rfl,_,_,⟨R,_,_,rfl,rfl,H3.out.2.2.1.of_only (only_set w3 T 5 _) (by intro b hb;simp [rfp,ownL,Value.ownBlock] at hb ⊢;have := H3.out.2.1;omega)⟩,by intro b hb;simp [rfp,ownL,Value.ownBlock] at hb;have := H3.out.2.1;omega,hs_same H3.out.1 rfl,?_⟩
 exact (H1.out.2.2.1.trans (H3.out.2.2.2.weaken (by simp))).setCell (by simp) _
theorem begin1_any (T S addr : Nat) (vl tv vr : Value) (t : M.Board) (w : World) (h : w.heap[T]? = some (.cells (brdA t S vl tv vr) 84 (0,0))) (hc : CfgOk t.cfg) :
  Calls Tryz.prog 119 #[.pointer (some ⟨T,0,none⟩),strB [99,114,99],.int .i64 addr] w fun e w' => e = .returned (.bool true) ∧ ∃ tv' tf',Takes w' tv' tf' (.one (M.rcvOf t.cfg 1 true true 1)) ∧ (∀ b,b ∈ tf' → w.heap.size ≤ b) ∧
   w'.heap[T]? = some (.cells (brdA { t with addr := addr } S vl tv' vr) 84 (0,0)) ∧ Only [T] w w' := by
 have HW := fun w => ways_any w
 obtain ⟨w1,hw1⟩ : ∃ w1,w1 = w.alloc (.cells #[strB [99,104,101,99,107],strB [99,114,99],strB [108,97,114,103,101],strB [98,97,116,99,104]] 9) := ⟨_,rfl⟩
 obtain ⟨A,hA⟩ : ∃ A,A = w.heap.size := ⟨_,rfl⟩
 have hx : w1.heap[A]? = some (.cells #[strB [99,104,101,99,107],strB [99,114,99],strB [108,97,114,103,101],strB [98,97,116,99,104]] 9 (0,0)) := by rw [hw1,hA];exact heap_alloc_new w _
 have o1 : Only [] w w1 := by rw [hw1];exact (Only.refl [] w).alloc _
 have h1 := o1.heap h (by simp)
 have hT := heap_lt h
 have a0 : w1.cell? ⟨A,0,none⟩ = some (strB [99,104,101,99,107]) := cell_at hx rfl
 have a1 : w1.cell? ⟨A,1,none⟩ = some (strB [99,114,99]) := cell_at hx rfl
 have a2 : w1.cell? ⟨A,2,none⟩ = some (strB [108,97,114,103,101]) := cell_at hx rfl
 have a3 : w1.cell? ⟨A,3,none⟩ = some (strB [98,97,116,99,104]) := cell_at hx rfl
 have c6 : w1.cell? ⟨T,6,none⟩ = some (.int .i64 t.addr) := cell_at h1 rfl
 have f6 : w1.frozen? ⟨T,6,none⟩ = false := free_at h1
 have h2 : (w1.setCell ⟨T,6,none⟩ (.int .i64 addr)).heap[T]? = some (.cells (brdA { t with addr := addr } S vl tv vr) 84 (0,0)) := hs_same h1 rfl
 have o2 : Only [T] w (w1.setCell ⟨T,6,none⟩ (.int .i64 addr)) := (o1.weaken (by simp)).setCell (by simp) _
 have H1 := LH (AI hw1 (AI hA (AI o2 (AI h2 hc))))
 clear hw1 hA o1 h h1 hx hc h2 o2
 go_enter Tryz.func119,Tryz.ntmps119
 go_upto_region 2 with (go_at_call 21;refine (HW _).mono ?_;rintro e w2 ⟨rfl,rfl⟩)
 rw [← H1.out.1,← H1.out.2.1]
 refine wp_loop_rounds 2 ?_
 rw [rounds_succ]
 go_wp2_with fail
 rw [rounds_succ]
 go_upto_region 8 with fail
 obtain ⟨w2,hw2⟩ : ∃ w2,w2 = w1.setCell ⟨T,6,none⟩ (.int .i64 addr) := ⟨_,rfl⟩
 rw [← hw2] at H1 ⊢
 clear hw2 a0 a1 a2 a3 c6 f6 HW
 have t1 : w2.cell? ⟨T,1,none⟩ = some (.int .i64 t.cfg.tries) := cell_at H1.out.2.2.2.1 rfl
 have t2 : w2.cell? ⟨T,2,none⟩ = some (.int .i64 t.cfg.wait) := cell_at H1.out.2.2.2.1 rfl
 have HRO := rof_any t.cfg 1 true true w2 H1.out.2.2.2.2
 go_wp2_with (go_at_call 138;refine (HRO).mono ?_;rintro e w3 ⟨R,rfl,hR,hrc,ho3⟩;have h3 := ho3.heap H1.out.2.2.2.1 (by simp);have c5 : w3.cell? ⟨T,5,none⟩ = some tv := cell_at h3 rfl;have f5 : w3.frozen? ⟨T,5,none⟩ = false := free_at h3;have H3 := LH (AI h3 (AI hR (AI hrc ho3)));clear h3 hR hrc ho3)
 go_ret
 have hs := H1.out.2.2.1.size
 refine ⟨rfl,_,_,⟨R,_,_,rfl,rfl,H3.out.2.2.1.of_only (only_set w3 T 5 _) (by intro b hb;simp [rfp,ownL,Value.ownBlock] at hb ⊢;have := H3.out.2.1;omega)⟩,by intro b hb;simp [rfp,ownL,Value.ownBlock] at hb;have := H3.out.2.1;omega,hs_same H3.out.1 rfl,?_⟩
 exact (H1.out.2.2.1.trans (H3.out.2.2.2.weaken (by simp))).setCell (by simp) _
theorem begin3_any (T S addr : Nat) (vl tv vr : Value) (t : M.Board) (w : World) (h : w.heap[T]? = some (.cells (brdA t S vl tv vr) 84 (0,0))) (hc : CfgOk t.cfg) :
  Calls Tryz.prog 119 #[.pointer (some ⟨T,0,none⟩),strB [98,97,116,99,104],.int .i64 addr] w fun e w' => e = .returned (.bool true) ∧ ∃ tv' tf',Takes w' tv' tf' (.batch (M.brcvOf t.cfg)) ∧ (∀ b,b ∈ tf' → w.heap.size ≤ b) ∧
   w'.heap[T]? = some (.cells (brdA { t with addr := addr } S vl tv' vr) 84 (0,0)) ∧ Only [T] w w' := by
 have HW := fun w => ways_any w
 obtain ⟨w1,hw1⟩ : ∃ w1,w1 = w.alloc (.cells #[strB [99,104,101,99,107],strB [99,114,99],strB [108,97,114,103,101],strB [98,97,116,99,104]] 9) := ⟨_,rfl⟩
 obtain ⟨A,hA⟩ : ∃ A,A = w.heap.size := ⟨_,rfl⟩
 have hx : w1.heap[A]? = some (.cells #[strB [99,104,101,99,107],strB [99,114,99],strB [108,97,114,103,101],strB [98,97,116,99,104]] 9 (0,0)) := by rw [hw1,hA];exact heap_alloc_new w _
 have o1 : Only [] w w1 := by rw [hw1];exact (Only.refl [] w).alloc _
 have h1 := o1.heap h (by simp)
 have hT := heap_lt h
 have a0 : w1.cell? ⟨A,0,none⟩ = some (strB [99,104,101,99,107]) := cell_at hx rfl
 have a1 : w1.cell? ⟨A,1,none⟩ = some (strB [99,114,99]) := cell_at hx rfl
 have a2 : w1.cell? ⟨A,2,none⟩ = some (strB [108,97,114,103,101]) := cell_at hx rfl
 have a3 : w1.cell? ⟨A,3,none⟩ = some (strB [98,97,116,99,104]) := cell_at hx rfl
 have c6 : w1.cell? ⟨T,6,none⟩ = some (.int .i64 t.addr) := cell_at h1 rfl
 have f6 : w1.frozen? ⟨T,6,none⟩ = false := free_at h1
 have h2 : (w1.setCell ⟨T,6,none⟩ (.int .i64 addr)).heap[T]? = some (.cells (brdA { t with addr := addr } S vl tv vr) 84 (0,0)) := hs_same h1 rfl
 have o2 : Only [T] w (w1.setCell ⟨T,6,none⟩ (.int .i64 addr)) := (o1.weaken (by simp)).setCell (by simp) _
 have H1 := LH (AI hw1 (AI hA (AI o2 (AI h2 hc))))
 clear hw1 hA o1 h h1 hx hc h2 o2
 go_enter Tryz.func119,Tryz.ntmps119
 go_upto_region 2 with (go_at_call 21;refine (HW _).mono ?_;rintro e w2 ⟨rfl,rfl⟩)
 rw [← H1.out.1,← H1.out.2.1]
 refine wp_loop_rounds 4 ?_
 rw [rounds_succ]
 go_wp2_with fail
 rw [rounds_succ]
 go_wp2_with fail
 rw [rounds_succ]
 go_wp2_with fail
 rw [rounds_succ]
 go_upto_region 7 with fail
 obtain ⟨w2,hw2⟩ : ∃ w2,w2 = w1.setCell ⟨T,6,none⟩ (.int .i64 addr) := ⟨_,rfl⟩
 rw [← hw2] at H1 ⊢
 clear hw2 a0 a1 a2 a3 c6 f6 HW
 have t1 : w2.cell? ⟨T,1,none⟩ = some (.int .i64 t.cfg.tries) := cell_at H1.out.2.2.2.1 rfl
 have t2 : w2.cell? ⟨T,2,none⟩ = some (.int .i64 t.cfg.wait) := cell_at H1.out.2.2.2.1 rfl
 have HRO := btake_any t.cfg w2 H1.out.2.2.2.2
 go_wp2_with (go_at_call 137;refine (HRO).mono ?_;rintro e w3 ⟨X,R,f0,rfl,hX,hR,hrc,ho3⟩;have h3 := ho3.heap H1.out.2.2.2.1 (by simp);have c5 : w3.cell? ⟨T,5,none⟩ = some tv := cell_at h3 rfl;have f5 : w3.frozen? ⟨T,5,none⟩ = false := free_at h3;have H3 := LH (AI h3 (AI hR (AI hX (AI hrc ho3))));clear h3 hR hX hrc ho3)
 go_ret
 have hs := H1.out.2.2.1.size
 refine ⟨rfl,_,_,⟨X,R,_,_,_,f0,rfl,rfl,H3.out.2.2.2.1.of_only (only_set w3 T 5 _) (by intro b hb;simp [bfp,rfp,ownL,Value.ownBlock] at hb ⊢;have := H3.out.2.1;have := H3.out.2.2.1;omega)⟩,by intro b hb;simp [bfp,rfp,ownL,Value.ownBlock] at hb;have := H3.out.2.1;have := H3.out.2.2.1;omega,hs_same H3.out.1 rfl,?_⟩
 exact (H1.out.2.2.1.trans (H3.out.2.2.2.2.weaken (by simp))).setCell (by simp) _
structure Words (line a b c : List UInt8) : Prop where
 cnt : Lib.countB ⟨line.toArray⟩ ⟨#[32]⟩ = 2
 spl : Lib.splitB ⟨#[32]⟩ 0 2 ⟨line.toArray⟩ = [⟨a.toArray⟩,⟨b.toArray⟩,⟨c.toArray⟩]
 len : line.length < 4294967281
theorem split3 (line a b c : List UInt8) (h : Words line a b c) (w : World) (hg : Glob w) : Calls Tryz.prog 117 #[strB line,strB [32]] w fun e w' => ∃ B,e = .returned (.slice (some ⟨B,0,none⟩) 3 3) ∧ Only [] w w' ∧ w'.cell? ⟨B,0,none⟩ = some (strB a) ∧ w'.cell? ⟨B,1,none⟩ = some (strB b) ∧ w'.cell? ⟨B,2,none⟩ = some (strB c) := by
 obtain ⟨m,hm⟩ := hg.mx
 refine (Tryz.strings_Split ⟨line.toArray⟩ ⟨#[32]⟩ m w (by simpa [ByteArray.size] using h.len) hm (by decide)).mono ?_
 rintro e w' ⟨rfl,rfl⟩
 rw [h.cnt,h.spl]
 exact ⟨_,rfl,(Only.refl [] w).alloc _,cell_at (heap_alloc_new w _) rfl,cell_at (heap_alloc_new w _) rfl,cell_at (heap_alloc_new w _) rfl⟩
abbrev loadB : List UInt8 := [108,111,97,100]
abbrev sumB : List UInt8 := [115,117,109]
def BegPost (T S addr : Nat) (vl vr : Value) (t : M.Board) (tk : M.Taker) (w : World) (e : Ending) (w' : World) : Prop :=
 e = .returned (.bool true) ∧ ∃ tv' tf',Takes w' tv' tf' tk ∧ (∀ b,b ∈ tf' → w.heap.size ≤ b) ∧ w'.heap[T]? = some (.cells (brdA { t with addr := addr } S vl tv' vr) 84 (0,0)) ∧ Only [T] w w'
theorem doesload_any (T S addr : Nat) (vl tv vr : Value) (t : M.Board) (tk : M.Taker) (line wy : List UInt8) (w : World) (h : w.heap[T]? = some (.cells (brdA t S vl tv vr) 84 (0,0))) (hg : Glob w) (hl : Words line loadB wy (M.digits 16 addr)) (ha : addr < 4400) (hb : ∀ wx,wx.heap[T]? = some (.cells (brdA t S vl tv vr) 84 (0,0)) → Calls Tryz.prog 119 #[.pointer (some ⟨T,0,none⟩),strB wy,.int .i64 addr] wx (BegPost T S addr vl vr t tk wx)) :
  Calls Tryz.prog 101 #[.pointer (some ⟨T,0,none⟩),strB line] w fun e w' => e = .returned (strB []) ∧ ∃ tv' tf',Takes w' tv' tf' tk ∧ (∀ b,b ∈ tf' → w.heap.size ≤ b) ∧ w'.heap[T]? = some (.cells (brdA { t with addr := addr } S vl tv' vr) 84 (0,0)) ∧ Only [T] w w' := by
 obtain ⟨x,hx⟩ : ∃ x,x = M.digits 16 addr := ⟨_,rfl⟩
 have HS := split3 line loadB wy _ hl w hg
 have HX := fun wx (ho : Only [] w wx) => hex_any addr wx (hg.of_none ho).tabs ha
 have HB := fun wx (ho : Only [] w wx) => hb wx (ho.heap h (by simp))
 rw [← hx] at HS HX
 clear h hg hl ha hb hx
 go_enter Tryz.func101,Tryz.ntmps101
 go_wp2_with (first
  | (go_at_call 117;refine (HS).mono ?_;rintro e w1 ⟨B,rfl,ho1,c0,c1,c2⟩;have HO1 := LH ho1;clear ho1)
  | (go_at_call 118;refine (HX _ HO1.out).mono ?_;rintro e w2 ⟨rfl,ho2⟩;have HO2 := LH (HO1.out.trans ho2);have c12 := ho2.cell c1 (by simp);clear ho2)
  | (go_at_call 119;refine (HB _ HO2.out).mono ?_;rintro e w3 ⟨rfl,tv',tf',q1,q2,q3,q4⟩;have HQ := LH (AI q1 (AI q2 (AI q3 q4)));clear q1 q2 q3 q4))
 go_ret
 refine ⟨rfl,tv',tf',HQ.out.1,fun b hb => Nat.le_trans HO2.out.size (HQ.out.2.1 b hb),HQ.out.2.2.1,(HO2.out.weaken (by simp)).trans HQ.out.2.2.2⟩
theorem printOf_lt (l : List UInt8) : M.printOf l < 4294967296 := by
 have h := pr_lt l
 unfold M.printOf
 omega
theorem lineOf_len (x y p : Nat) : (M.lineOf x y p).length ≤ 300 := by
 unfold M.lineOf
 rw [str_sum]
 have h1 := digits_len 16 x
 have h2 := digits_len 16 y
 have h3 := digits_len 16 p
 simp
 omega
theorem Tryz.info250 : (Tryz.prog.info? 250).map (fun i => (i.zero,i.size,i.bytes)) = some (some (.agg #[.int .i64 0,.int .i64 0,.int .u32 0]),3,24) := by kernel_rfl
theorem doessum_any (T S x y n : Nat) (vl tv vr : Value) (xs : List Value) (t : M.Board) (line : List UInt8) (w : World) (h : w.heap[T]? = some (.cells (brdA t S vl tv vr) 84 (0,0))) (hg : Glob w) (hl : Words line sumB (M.digits 16 x) (M.digits 16 y)) (hx : x < 4400) (hy : y < 4400) (hst : Stored w S t.store) (hrep : w.ownsRow 0 250 3 vr n xs) (hn : n ≤ 1000000) (hT : vr.ownBlock ≠ some T) (hTg : T ∉ glb) (hRg : ∀ g,vr.ownBlock = some g → g ∉ glb) :
  Calls Tryz.prog 101 #[.pointer (some ⟨T,0,none⟩),strB line] w fun e w' => e = .returned (strB (M.lineOf x y (M.printOf (rd t.store x y)) ++ [61,62,32])) ∧ ∃ vr',w'.heap[T]? = some (.cells (brdA t S vl tv vr') 84 (0,0)) ∧ (∃ xs',w'.ownsRow 0 250 3 vr' (n + 1) xs') ∧ (∀ g,vr'.ownBlock = some g → vr.ownBlock = some g ∨ w.heap.size ≤ g) ∧ Only (T :: ownL vr) w w' := by
 obtain ⟨ra,rc,rfl⟩ := own_slice hrep
 obtain ⟨dx,hdx⟩ : ∃ dx,dx = M.digits 16 x := ⟨_,rfl⟩
 obtain ⟨dy,hdy⟩ : ∃ dy,dy = M.digits 16 y := ⟨_,rfl⟩
 obtain ⟨p,hp⟩ : ∃ p,p = M.printOf (rd t.store x y) := ⟨_,rfl⟩
 have HS := split3 line sumB _ _ hl w hg
 have HX := fun wx (ho : Only [] w wx) => hex_any x wx (hg.of_none ho).tabs hx
 have HY := fun wx (ho : Only [] w wx) => hex_any y wx (hg.of_none ho).tabs hy
 have HP := fun wx (ho : Only [] w wx) => sprint_any S t.store x y wx (hst.of_only ho (by simp)) (by omega) (by omega)
 have hp32 : p < 4294967296 := by rw [hp];exact printOf_lt _
 have HL := fun wx (hgx : Glob wx) => line_any x y p wx hgx.tabs (by omega) (by omega) hp32
 rw [← hdx,← hdy] at HS
 rw [← hdx] at HX
 rw [← hdy] at HY
 rw [← hp] at HP ⊢
 have h0 : w.cell? ⟨T,0,none⟩ = some (.pointer (some ⟨S,0,none⟩)) := cell_at h rfl
 have HH := LH (AI h (AI hg (AI hrep (AI hT (AI hTg hRg)))))
 clear h hg hl hx hy hst hrep hT hTg hRg hdx hdy hp
 go_enter Tryz.func101,Tryz.ntmps101
 go_upto_region 8 with (first
  | (go_at_call 117;refine (HS).mono ?_;rintro e w1 ⟨B,rfl,ho1,c0,c1,c2⟩;have HO1 := LH ho1;clear ho1)
  | (go_at_call 118;refine (HX _ HO1.out).mono ?_;rintro e w2 ⟨rfl,ho2⟩;have HO2 := LH (HO1.out.trans ho2);have c22 := ho2.cell c2 (by simp);clear ho2))
 clear HS HX c0 c1 c2
 go_upto_region 9 with (go_at_call 118;refine (HY _ HO2.out).mono ?_;rintro e w3 ⟨rfl,ho3⟩;have HO3 := LH (HO2.out.trans ho3);clear ho3)
 clear HY c22
 have h03 := HO3.out.cell h0 (by simp)
 clear h0
 go_upto_region 12 with (go_at_call 120;refine (HP _ HO3.out).mono ?_;rintro e w4 ⟨rfl,ho4⟩;have HO4 := LH (HO3.out.trans ho4);clear ho4)
 clear HP h03
 obtain ⟨w5,hw5⟩ : ∃ w5,w5 = w4.alloc (.cells #[.int .i64 x,.int .i64 y,.int .u32 p] 250) := ⟨_,rfl⟩
 obtain ⟨E,hE⟩ : ∃ E,E = w4.heap.size := ⟨_,rfl⟩
 have h5E : w5.heap[E]? = some (.cells #[.int .i64 x,.int .i64 y,.int .u32 p] 250 (0,0)) := by rw [hw5,hE];exact heap_alloc_new w4 _
 have o5 : Only [] w w5 := by rw [hw5];exact HO4.out.alloc _
 have h5 := o5.heap HH.out.1 (by simp)
 have hr5 := ownsRow_only HH.out.2.2.1 o5 (by simp)
 rw [← hw5,← hE]
 have e0 := cell_at h5E (i := 0) rfl
 have e1 := cell_at h5E (i := 1) rfl
 have e2 := cell_at h5E (i := 2) rfl
 have x7 : w5.cell? ⟨T,7,none⟩ = some (.slice ra n rc) := cell_at h5 rfl
 have y7 : w5.frozen? ⟨T,7,none⟩ = false := free_at h5
 have hT5 := heap_lt h5
 have hTw := heap_lt HH.out.1
 have hE5 := heap_lt h5E
 have hEw : w.heap.size ≤ E := by have := HO4.out.size;omega
 have hvT := HH.out.2.2.2.1
 obtain ⟨i0,hi,hz0,hz1,hz2⟩ := info_parts Tryz.info250
 have H5 := LH (AI o5 (AI h5 h5E))
 have hvE : (Value.slice ra n rc).ownBlock ≠ some E := fun e => by
  have := (World.ownsRow.lt HH.out.2.2.1 E e).2
  omega
 have hTE : T ≠ E := by omega
 clear hw5 hE h5E o5 h5
 go_region_law (refine step_append_lies _ (by rfl) _ _ _ (by rfl) 0 250 i0 _ 3 24 Tryz.underlying82 hi hz0 hz1 hz2 rfl (by omega) (.slice ra n rc) n _ (by rfl) (by first | exact (hr5.alloc _).drew | exact (hr5.drew).alloc _) ⟨w5.heap.size,0,none⟩ 1 1 [.int .i64 x,.int .i64 y,.int .u32 p] (by rfl) (by rfl) (by first | exact (World.news_of_block (cs := #[.int .i64 x,.int .i64 y,.int .u32 p]) (t := 250) (fr := (0,0)) (heap_alloc_new w5 _)) | exact (World.news_of_block (cs := #[.int .i64 x,.int .i64 y,.int .u32 p]) (t := 250) (fr := (0,0)) (heap_alloc_new w5.drew _))) (by simp [Value.oneCell']) (by omega) (by unfold maxLen;omega) (by omega) (by simp) (w5.heap.size + 1) (by simp) ?_;intro gg cp1 w6 hown1 hgrow hat hlt1;have x7' := far_cell hgrow hT5 hvT x7;have y7' := far_frozen hgrow hT5 hvT y7;have e0' := far_cell hgrow hE5 hvE e0;have e1' := far_cell hgrow hE5 hvE e1;have e2' := far_cell hgrow hE5 hvE e2)
 all_goals (
  obtain ⟨w7,hw7⟩ : ∃ w7,w7 = w6.setCell ⟨T,7,none⟩ (.slice (some ⟨gg,0,none⟩) (n + 1) cp1) := ⟨_,rfl⟩
  rw [← hw7]
  have ho6 : Only (T :: ownL (.slice ra n rc)) w w7 := by
   rw [hw7]
   have oa : Only [] w (w5.alloc (.cells #[.int .i64 x,.int .i64 y,.int .u32 p] 250)).drew := (H5.out.1.alloc _).drew
   exact (((oa.weaken (cs := ownL (.slice ra n rc)) (by simp)).trans (only_grown hgrow)).weaken (by simp;intro g h;exact .inr h)).setCell (by simp) _
  have h7T : w7.heap[T]? = some (.cells (brdA t S vl tv (.slice (some ⟨gg,0,none⟩) (n + 1) cp1)) 84 (0,0)) := by
   rw [hw7]
   have q : w6.heap[T]? = some (.cells (brdA t S vl tv (.slice ra n rc)) 84 (0,0)) := (hgrow.block T (by simp;omega) (by simpa using Ne.symm hvT)).trans ((Below.heap_alloc _ _ _ hT5).trans H5.out.2.1)
   exact hs_same q rfl
  have hr7 : ∃ xs',w7.ownsRow 0 250 3 (.slice (some ⟨gg,0,none⟩) (n + 1) cp1) (n + 1) xs' := by
   refine ⟨_,ownsRow_only hown1 (by rw [hw7];exact only_set w6 T 7 _) (fun g e => ?_)⟩
   simp [Value.ownBlock] at e
   subst e
   rcases hat with h' | h'
   ·intro hb;simp at hb;subst hb;exact hvT h'
   ·simp;omega
  have hgl : Glob w7 := HH.out.2.1.of_only ho6 (fun b hb => by
   rcases List.mem_cons.1 hb with rfl | hb
   ·exact HH.out.2.2.2.2.1
   ·exact HH.out.2.2.2.2.2 b (mem_ownL.1 hb))
  have j0 : w7.cell? ⟨E,0,none⟩ = some (.int .i64 x) := by rw [hw7];exact (World.cell?_setCell_far w6 _ _ _ hTE).trans e0'
  have j1 : w7.cell? ⟨E,1,none⟩ = some (.int .i64 y) := by rw [hw7];exact (World.cell?_setCell_far w6 _ _ _ hTE).trans e1'
  have j2 : w7.cell? ⟨E,2,none⟩ = some (.int .u32 p) := by rw [hw7];exact (World.cell?_setCell_far w6 _ _ _ hTE).trans e2'
  have HLn := HL w7 hgl
  obtain ⟨ls,hls⟩ : ∃ ls,ls = M.lineOf x y p := ⟨_,rfl⟩
  have hlen : ls.length ≤ 300 := by rw [hls];exact lineOf_len _ _ _
  rw [← hls] at HLn
  have HLS := LH hls
  have kk : ¬ 9223372036854775807 < ls.length + 3 := by omega
  have hfr : ∀ g,(Value.slice (some ⟨gg,0,none⟩) (n + 1) cp1).ownBlock = some g → (Value.slice ra n rc).ownBlock = some g ∨ w.heap.size ≤ g := by
   intro g e
   simp [Value.ownBlock] at e
   subst e
   rcases hat with h' | h'
   ·exact .inl h'
   ·right;have := H5.out.1.size;omega
  have HF := LH (AI ho6 (AI h7T (AI hr7 hfr)))
  clear hw7 ho6 h7T hr7 hgl hls hfr e0 e1 e2 e0' e1' e2' x7 y7 x7' y7' hown1 hgrow hat HL hr5 hi hz0 hz1 hz2
  go_wp2_with (go_at_call 113;refine (HLn).mono ?_;rintro e w8 ⟨rfl,ho8⟩;have HO8 := LH ho8;clear ho8)
  go_ret
  rw [← HLS.out]
  refine ⟨?_,_,HO8.out.heap HF.out.2.1 (by simp),?_,HF.out.2.2.2,HF.out.1.trans (HO8.out.weaken (by simp))⟩
  ·refine congrArg (fun b => Ending.returned (Value.string b)) ?_
   simp [ByteArray.mk_append_mk]
  ·obtain ⟨xs',h'⟩ := HF.out.2.2.1
   exact ⟨xs',ownsRow_only h' HO8.out (by simp)⟩)
end Go.Proofs.YtplaamfoeaaaiaaGreatDoor
