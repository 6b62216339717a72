/- A part of the proofs of the laws of lifelinetop (TopNever, TopLost, TopRoom): contracts of functions that these laws reach. No condition of its own. -/
import Derived.Test.YtplaamfoeaaaiaaGreatDoorK02
import Derived.Test.YtplaamfoeaaaiaaGreatDoorK05
import Derived.Test.YtplaamfoeaaaiaaGreatDoorK08
import Derived.Test.YtplaamfoeaaaiaaGreatDoorK11
import Derived.Deep.RegionLaw
import Derived.Deep.RegionHeld3
set_option maxRecDepth 100000
set_option maxHeartbeats 8000000
set_option linter.unusedVariables false
namespace Go.Proofs.YtplaamfoeaaaiaaGreatDoor
open Go.RowKit
theorem reither_any (R : Nat) (s : ByteArray) (dp : Int) (w : World) (h : RdAt w R s 0) (hs : s.size ≤ 1000) (h0 : 0 < s.size) (hp : Plain s) :
  Calls Tryz.prog 122 #[.pointer (some ⟨R,0,none⟩),.int .i64 dp] w fun e w' => ∃ x,e = .returned (.tuple #[.agg x,.nilIface]) ∧ NodeAt w' w.heap.size x s.data.toList ∧ RdAt w' R s s.size ∧ Only [R] w w' := by
 have hR := heap_lt h
 have HT := fun wx (ho : Only [] w wx) => rthen_any R s dp wx (ho.heap h (by simp)) hs h0 hp
 have HE := fun wx (hr : RdAt wx R s s.size) => is_end R s 124 wx hr
 have q0 := fun w => eql_nn w
 have q1 := fun w => neq_nn w
 obtain ⟨w0,hw0⟩ : ∃ w0,w0 = w.alloc (.cells zeroNode 227) := ⟨_,rfl⟩
 obtain ⟨N,hN⟩ : ∃ N,N = w.heap.size := ⟨_,rfl⟩
 have hz : w0.heap[N]? = some (.cells zeroNode 227 (0,0)) := by rw [hw0,hN];exact heap_alloc_new w _
 have o0 : Only [] w w0 := by rw [hw0];exact (Only.refl [] w).alloc _
 have hs0 : w0.heap.size = N + 1 := by rw [hw0,hN];simp
 have hRN : R < N := by omega
 have hNw : w.heap.size ≤ N := by omega
 have HH := LH (AI hw0 (AI hN (AI hz (AI o0 (AI h hs0)))))
 clear h hp h0 hw0 hN hz o0 hs0
 go_enter Tryz.func122,Tryz.ntmps122
 go_upto_region 1 with fail
 rw [← HH.out.1,← HH.out.2.1]
 go_upto_region 2 with (go_at_call 139;refine (HT _ HH.out.2.2.2.1).mono ?_;rintro e w1 ⟨x,rfl,hx1,hr1,ho1⟩;have HO1 := LH (AI hx1 (AI hr1 ho1));obtain ⟨kd,n1,n2,n3,n4,na,nm,nc,rfl⟩ := hx1.form;clear hx1 hr1 ho1)
 obtain ⟨A,hA⟩ : ∃ A,A = w1.heap.size := ⟨_,rfl⟩
 obtain ⟨w2,hw2⟩ : ∃ w2,w2 = w1.alloc (.cells (nodeA kd n1 n2 n3 n4 na nm nc) 227) := ⟨_,rfl⟩
 have hA2 : w2.heap[A]? = some (.cells (nodeA kd n1 n2 n3 n4 na nm nc) 227 (0,0)) := by rw [hw2,hA];exact heap_alloc_new w1 _
 have o2 : Only [] w1 w2 := by rw [hw2];exact (Only.refl [] w1).alloc _
 rw [← hw2,← hA]
 have o02 : Only [R] w w2 := ((HH.out.2.2.2.1.weaken (by simp)).trans HO1.out.2.2).trans (o2.weaken (by simp))
 have hN1 := HO1.out.2.2.heap HH.out.2.2.1 (by simp;omega)
 have hN2 := o2.heap hN1 (by simp)
 have hR2 := o2.heap HO1.out.2.1 (by simp)
 have hx2 : NodeAt w2 (N + 1) (nodeA kd n1 n2 n3 n4 na nm nc) s.data.toList := by
  have := HO1.out.1.of_only o2 (by simp)
  rwa [HH.out.2.2.2.2.2] at this
 obtain ⟨x0,x1,x2,x3,x4,x5⟩ := node_loads hA2
 obtain ⟨y0,y1,y2,y3,y4,y5⟩ := node_cells hN2
 obtain ⟨z0,z1,z2,z3,z4,z5⟩ := node_free hN2
 have HA := LH (AI o02 (AI hN2 (AI hR2 hx2)))
 clear hw2 hA hA2 o2 o02 hN1 hN2 hR2 hx2 HT
 go_loopw [7] (fun s7 wr => s7 = .nilIface ∧ w2 = wr) (fun _ _ => 0)
 case atStart => exact ⟨rfl,rfl⟩
 case round =>
  obtain ⟨rfl,rfl⟩ := hrel
  go_wp2_with (go_at_call 140;refine (HE _ HA.out.2.2.1).mono ?_;rintro e w3 ⟨rfl,m,rfl⟩)
  have o6 := six_only (w2.drewN m) N (.int .i64 kd) (.int .u64 n1) (.int .u64 n2) (.int .u64 n3) (.int .u64 n4) (.slice na nm nc)
  have h9 := six_set (w := w2.drewN m) HA.out.2.1 (.int .i64 kd) (.int .u64 n1) (.int .u64 n2) (.int .u64 n3) (.int .u64 n4) (.slice na nm nc)
  refine bodyPost_ret (results_two (p := 4) (ty := 227) (u := 5) (cs := nodeA kd n1 n2 n3 n4 na nm nc) rfl _ _ N 227 (fr := (0,0)) _ _ rfl rfl h9 Tryz.underlying227 rfl size227) rfl ?_
  refine ⟨_,rfl,?_,o6.heap (by exact HA.out.2.2.1) (by simp;omega),((((((HA.out.1.drewN m).setFresh hNw _).setFresh hNw _).setFresh hNw _).setFresh hNw _).setFresh hNw _).setFresh hNw _⟩
  exact ((HA.out.2.2.2.of_only (only_drewN [] w2 m) (by simp)).of_only o6 (by intro b hb;simp at hb;omega)).lower (by omega)
theorem Only.fresh' {bs ks : List Nat} {a w w' : World} (h : Only bs a w) (ho : Only ks w w') (hk : ∀ b,b ∈ ks → a.heap.size ≤ b) : Only bs a w' :=
 ⟨ho.os.trans h.os,ho.tape.trans h.tape,ho.output.trans h.output,Nat.le_trans h.size ho.size,fun b hb hn => (ho.block b (Nat.lt_of_lt_of_le hb h.size) (fun hx => by have := hk b hx;omega)).trans (h.block b hb hn)⟩
theorem rparse_any (s : ByteArray) (w : World) (hs : s.size ≤ 64) (h0 : 0 < s.size) (hp : Plain s) :
  Calls Tryz.prog 104 #[.string s] w fun e w' => ∃ x,e = .returned (.tuple #[.agg x,.nilIface]) ∧ NodeAt w' w.heap.size x s.data.toList ∧ Only [] w w' := by
 obtain ⟨N,hN⟩ : ∃ N,N = w.heap.size := ⟨_,rfl⟩
 obtain ⟨R,hR⟩ : ∃ R,R = N + 1 := ⟨_,rfl⟩
 obtain ⟨w0,hw0⟩ : ∃ w0,w0 = (w.alloc (.cells zeroNode 227)).alloc (.cells #[.string s,.int .i64 0] 262) := ⟨_,rfl⟩
 have hz : w0.heap[N]? = some (.cells zeroNode 227 (0,0)) := by rw [hw0];exact ((Only.refl [] _).alloc _).heap (by rw [hN];exact heap_alloc_new w _) (by simp)
 have hr : RdAt w0 R s 0 := by
  have := heap_alloc_new (w.alloc (.cells zeroNode 227)) (.cells #[.string s,.int .i64 0] 262)
  unfold RdAt
  rw [hw0,hR,hN];simpa using this
 have o0 : Only [] w w0 := by rw [hw0];exact ((Only.refl [] w).alloc _).alloc _
 have hs0 : w0.heap.size = R + 1 := by rw [hw0,hR,hN];simp
 have hRN : N < R := by omega
 have hNw : w.heap.size ≤ N := by omega
 have k1 : ((s.size : Int) > 64) = False := by simp;omega
 have HT := reither_any R s 0 w0 hr (by omega) h0 hp
 have HM := fun wx (h : RdAt wx R s s.size) => more_no R s wx h
 have q0 := fun w => eql_nn w
 have q1 := fun w => neq_nn w
 have HH := LH (AI hw0 (AI hN (AI hz (AI o0 (AI hs0 hR)))))
 clear hp h0 hw0 hN hz o0 hs0 hr hR
 go_enter Tryz.func104,Tryz.ntmps104
 go_upto_region 4 with fail
 rw [← HH.out.1,← HH.out.2.1,← HH.out.2.2.2.2.2]
 go_upto_region 5 with (go_at_call 122;refine (HT).mono ?_;rintro e w1 ⟨x,rfl,hx1,hr1,ho1⟩;have HO1 := LH (AI hx1 (AI hr1 ho1));obtain ⟨kd,n1,n2,n3,n4,na,nm,nc,rfl⟩ := hx1.form;clear hx1 hr1 ho1)
 obtain ⟨A,hA⟩ : ∃ A,A = w1.heap.size := ⟨_,rfl⟩
 obtain ⟨w2,hw2⟩ : ∃ w2,w2 = w1.alloc (.cells (nodeA kd n1 n2 n3 n4 na nm nc) 227) := ⟨_,rfl⟩
 have hA2 : w2.heap[A]? = some (.cells (nodeA kd n1 n2 n3 n4 na nm nc) 227 (0,0)) := by rw [hw2,hA];exact heap_alloc_new w1 _
 have o2 : Only [] w1 w2 := by rw [hw2];exact (Only.refl [] w1).alloc _
 rw [← hw2,← hA]
 have o02 : Only [] w w2 := by
  exact (HH.out.2.2.2.1.fresh' HO1.out.2.2 (by intro b hb;simp at hb;omega)).trans o2
 have hN1 := HO1.out.2.2.heap HH.out.2.2.1 (by simp;omega)
 have hN2 := o2.heap hN1 (by simp)
 have hR2 := o2.heap HO1.out.2.1 (by simp)
 have hx2 : NodeAt w2 (R + 1) (nodeA kd n1 n2 n3 n4 na nm nc) s.data.toList := by
  have := HO1.out.1.of_only o2 (by simp)
  rwa [HH.out.2.2.2.2.1] at this
 obtain ⟨x0,x1,x2,x3,x4,x5⟩ := node_loads hA2
 obtain ⟨y0,y1,y2,y3,y4,y5⟩ := node_cells hN2
 obtain ⟨z0,z1,z2,z3,z4,z5⟩ := node_free hN2
 have HA := LH (AI o02 (AI hN2 (AI hR2 hx2)))
 clear hw2 hA hA2 o2 o02 hN1 hN2 hR2 hx2 HT
 go_wp2_with (go_at_call 123;refine (HM _ HA.out.2.2.1).mono ?_;rintro e w3 ⟨rfl,m,rfl⟩)
 have o6 := six_only (w2.drewN m) N (.int .i64 kd) (.int .u64 n1) (.int .u64 n2) (.int .u64 n3) (.int .u64 n4) (.slice na nm nc)
 have h9 := six_set (w := w2.drewN m) HA.out.2.1 (.int .i64 kd) (.int .u64 n1) (.int .u64 n2) (.int .u64 n3) (.int .u64 n4) (.slice na nm nc)
 refine bodyPost_ret (results_two (p := 2) (ty := 227) (u := 3) (cs := nodeA kd n1 n2 n3 n4 na nm nc) rfl _ _ N 227 (fr := (0,0)) _ _ rfl rfl h9 Tryz.underlying227 rfl size227) rfl ?_
 refine ⟨_,rfl,?_,((((((HA.out.1.drewN m).setFresh hNw _).setFresh hNw _).setFresh hNw _).setFresh hNw _).setFresh hNw _).setFresh hNw _⟩
 exact ((HA.out.2.2.2.of_only (only_drewN [] w2 m) (by simp)).of_only o6 (by intro b hb;simp at hb;omega)).lower (by omega)
abbrev strB (l : List UInt8) : Value := .string ⟨l.toArray⟩
theorem ways_eq : M.ways = [[99,104,101,99,107],[99,114,99],[108,97,114,103,101],[98,97,116,99,104]] := by decide +kernel
theorem str_load : M.str "load " = [108,111,97,100,32] := by decide +kernel
theorem str_sum : M.str "sum " = [115,117,109,32] := by decide +kernel
theorem digitsF_len (base : Nat) : ∀ f n acc,(M.digitsF base f n acc).length ≤ acc.length + f
 | 0,n,acc => by simp [M.digitsF]
 | f + 1,n,acc => by
  unfold M.digitsF
  split
  ·simp
  ·have := digitsF_len base f (n / base) (M.digit (n % base) :: acc)
   simp at this;omega
theorem digits_len (base n : Nat) : (M.digits base n).length ≤ 64 := by
 have := digitsF_len base 64 n []
 simpa [M.digits] using this
theorem ways_any (w : World) : Calls Tryz.prog 21 #[] w fun e w' => e = .returned (.slice (some ⟨w.heap.size,0,none⟩) 4 4) ∧ w' = w.alloc (.cells #[strB [99,104,101,99,107],strB [99,114,99],strB [108,97,114,103,101],strB [98,97,116,99,104]] 9) := by
 go_enter Tryz.func21,Tryz.ntmps21
 go_wp2_with fail
 go_ret
 exact ⟨rfl,rfl⟩
theorem strB_app (a b : List UInt8) : (⟨a.toArray⟩ : ByteArray) ++ (⟨b.toArray⟩ : ByteArray) = ⟨(a ++ b).toArray⟩ := by
 simp [ByteArray.mk_append_mk]
theorem ask_any (addr n : Nat) (w : World) (h : Tabs w) (h1 : addr < 4294967296) (h2 : n < 4294967296) :
  Calls Tryz.prog 112 #[.int .i64 addr,.int .i64 n] w fun e w' => e = .returned (strB (M.askOf addr n)) ∧ Only [] w w' := by
 have HT := LH h
 clear h
 obtain ⟨x,hx⟩ : ∃ x,x = M.digits 16 addr := ⟨_,rfl⟩
 obtain ⟨y,hy⟩ : ∃ y,y = M.digits 16 n := ⟨_,rfl⟩
 have lx : x.length ≤ 64 := by rw [hx];exact digits_len _ _
 have ly : y.length ≤ 64 := by rw [hy];exact digits_len _ _
 have c1 := fmtI16s addr w HT.out h1
 have c2 := fun wx (ho : Only [] w wx) => fmtI16s n wx (HT.out.of_only ho (by simp)) h2
 have he : M.askOf addr n = [115,117,109,32] ++ x ++ [32] ++ y ++ [13] := by unfold M.askOf;rw [str_sum,hx,hy]
 rw [← hx] at c1
 rw [← hy] at c2
 rw [he]
 have HC := LH (AI c1 c2)
 clear hx hy c1 c2 he h1 h2
 have k1 : ¬ 9223372036854775807 < 4 + x.length := by omega
 have k2 : ¬ 9223372036854775807 < 4 + x.length + 1 := by omega
 have k3 : ¬ 9223372036854775807 < 4 + x.length + 1 + y.length := by omega
 have k4 : ¬ 9223372036854775807 < 4 + x.length + 1 + y.length + 1 := by omega
 go_enter Tryz.func112,Tryz.ntmps112
 go_wp2_with (first
  | (go_at_call 22;(with_reducible refine (HC.out.1).mono ?_);rintro e w1 ⟨rfl,ho1⟩;have HO1 := LH ho1;clear ho1)
  | (go_at_call 22;refine (HC.out.2 _ HO1.out).mono ?_;rintro e w2 ⟨rfl,ho2⟩;have HO2 := LH ho2;clear ho2))
 go_ret
 refine ⟨?_,HO1.out.trans HO2.out⟩
 refine congrArg (fun b => Ending.returned (Value.string b)) ?_
 simp [ByteArray.mk_append_mk]
theorem keepL {w0 w1 w2 : World} {a b c : Addr} {x y z : Value} (h : Only [] w0 w1 ∧ w1.cell? a = some x ∧ w1.cell? b = some y ∧ w1.cell? c = some z) (o : Only [] w1 w2) : Only [] w0 w2 ∧ w2.cell? a = some x ∧ w2.cell? b = some y ∧ w2.cell? c = some z :=
 ⟨h.1.trans o,o.cell h.2.1 (by simp),o.cell h.2.2.1 (by simp),o.cell h.2.2.2 (by simp)⟩
theorem line_any (addr n p : Nat) (w : World) (h : Tabs w) (h1 : addr < 4294967296) (h2 : n < 4294967296) (h3 : p < 4294967296) :
  Calls Tryz.prog 113 #[.agg #[.int .i64 addr,.int .i64 n,.int .u32 p]] w fun e w' => e = .returned (strB (M.lineOf addr n p)) ∧ Only [] w w' := by
 obtain ⟨A,hA⟩ : ∃ A,A = w.heap.size := ⟨_,rfl⟩
 obtain ⟨w0,hw0⟩ : ∃ w0,w0 = w.alloc (.cells #[.int .i64 addr,.int .i64 n,.int .u32 p] 250) := ⟨_,rfl⟩
 have hz : w0.heap[A]? = some (.cells #[.int .i64 addr,.int .i64 n,.int .u32 p] 250 (0,0)) := by rw [hw0,hA];exact heap_alloc_new w _
 have g0 : w0.cell? ⟨A,0,none⟩ = some (.int .i64 addr) := cell_at hz rfl
 have g1 : w0.cell? ⟨A,1,none⟩ = some (.int .i64 n) := cell_at hz rfl
 have g2 : w0.cell? ⟨A,2,none⟩ = some (.int .u32 p) := cell_at hz rfl
 have o0 : Only [] w w0 := by rw [hw0];exact (Only.refl [] w).alloc _
 have HT := LH (h.of_only o0 (by simp))
 have HO := LH o0
 clear h o0 hz
 obtain ⟨x,hx⟩ : ∃ x,x = M.digits 16 addr := ⟨_,rfl⟩
 obtain ⟨y,hy⟩ : ∃ y,y = M.digits 16 n := ⟨_,rfl⟩
 obtain ⟨z,hz⟩ : ∃ z,z = M.digits 16 p := ⟨_,rfl⟩
 have lx : x.length ≤ 64 := by rw [hx];exact digits_len _ _
 have ly : y.length ≤ 64 := by rw [hy];exact digits_len _ _
 have lz : z.length ≤ 64 := by rw [hz];exact digits_len _ _
 have c1 := fun wx (ho : Only [] w0 wx) => fmtI16s addr wx (HT.out.of_only ho (by simp)) h1
 have c2 := fun wx (ho : Only [] w0 wx) => fmtI16s n wx (HT.out.of_only ho (by simp)) h2
 have c3 : ∀ wx,Only [] w0 wx → Calls Tryz.prog 130 #[.int .u64 (IntKind.u64.wrap (p : Int)),.int .i64 16] wx _ := fun wx (ho : Only [] w0 wx) => by rw [toNat_int p (by omega)];exact fmtU16s p wx (HT.out.of_only ho (by simp)) h3
 have he : M.lineOf addr n p = [115,117,109,32] ++ x ++ [32] ++ y ++ [32] ++ z ++ [13,10] := by unfold M.lineOf;rw [str_sum,hx,hy,hz]
 rw [← hx] at c1
 rw [← hy] at c2
 rw [← hz] at c3
 rw [he]
 have HC := LH (AI c1 (AI c2 c3))
 have HW := LH (AI hw0 hA)
 clear hx hy hz c1 c2 c3 he h1 h2 h3 hw0 hA
 have k1 : ¬ 9223372036854775807 < 4 + x.length := by omega
 have k2 : ¬ 9223372036854775807 < 4 + x.length + 1 := by omega
 have k3 : ¬ 9223372036854775807 < 4 + x.length + 1 + y.length := by omega
 have k4 : ¬ 9223372036854775807 < 4 + x.length + 1 + y.length + 1 := by omega
 have k5 : ¬ 9223372036854775807 < 4 + x.length + 1 + y.length + 1 + z.length := by omega
 have k6 : ¬ 9223372036854775807 < 4 + x.length + 1 + y.length + 1 + z.length + 2 := by omega
 go_enter Tryz.func113,Tryz.ntmps113
 go_upto_region 1 with fail
 rw [← HW.out.1,← HW.out.2]
 have oo : Only [] w0 w0 := Only.refl _ _
 go_region_held3 (fun w' => Only [] w0 w' ∧ w'.cell? ⟨A,0,none⟩ = some (.int .i64 addr) ∧ w'.cell? ⟨A,1,none⟩ = some (.int .i64 n) ∧ w'.cell? ⟨A,2,none⟩ = some (.int .u32 p)) (first
   | (exact keepL ‹_› ho2)
   | (exact ⟨oo.drew,‹_›,‹_›,‹_›⟩)
   | go_keep)
  (first
   | (go_at_call 22;refine (HC.out.1 _ (by first | exact oo.drew | exact (‹Only [] w0 _ ∧ _ ∧ _ ∧ _›).1)).mono ?_;rintro e w2 ⟨rfl,ho2⟩)
   | (go_at_call 22;refine (HC.out.2.1 _ (by first | exact oo.drew | exact (‹Only [] w0 _ ∧ _ ∧ _ ∧ _›).1)).mono ?_;rintro e w2 ⟨rfl,ho2⟩)
   | (go_at_call 130;refine (HC.out.2.2 _ (by first | exact oo.drew | exact (‹Only [] w0 _ ∧ _ ∧ _ ∧ _›).1)).mono ?_;rintro e w2 ⟨rfl,ho2⟩))
 rename_i hk
 have HK := LH hk.1
 clear hk
 go_wp2_with fail
 go_ret
 refine ⟨?_,HO.out.trans HK.out⟩
 refine congrArg (fun b => Ending.returned (Value.string b)) ?_
 simp [ByteArray.mk_append_mk]
theorem ways_at (way : Nat) (hw : way < 4) (w : World) : Calls Tryz.prog 21 #[] w fun e w' => ∃ A,e = .returned (.slice (some ⟨A,0,none⟩) 4 4) ∧ Only [] w w' ∧ w'.cell? ⟨A,way,none⟩ = some (strB (M.ways.getD way [])) := by
 refine (ways_any w).mono ?_
 rintro e w' ⟨rfl,rfl⟩
 refine ⟨_,rfl,(Only.refl [] w).alloc _,cell_at (heap_alloc_new w _) ?_⟩
 rw [ways_eq]
 match way,hw with
 | 0,_ => rfl
 | 1,_ => rfl
 | 2,_ => rfl
 | 3,_ => rfl
theorem load_any (way addr : Nat) (w : World) (h : Tabs w) (hw : way < 4) (h1 : addr < 4294967296) :
  Calls Tryz.prog 9 #[.int .i64 way,.int .i64 addr] w fun e w' => e = .returned (strB (M.loadOf way addr)) ∧ Only [] w w' := by
 have HT := LH h
 clear h
 obtain ⟨x,hx⟩ : ∃ x,x = M.ways.getD way [] := ⟨_,rfl⟩
 obtain ⟨y,hy⟩ : ∃ y,y = M.digits 16 addr := ⟨_,rfl⟩
 have lx : x.length ≤ 64 := by
  rw [hx,ways_eq]
  match way,hw with
  | 0,_ => simp
  | 1,_ => simp
  | 2,_ => simp
  | 3,_ => simp
 have ly : y.length ≤ 64 := by rw [hy];exact digits_len _ _
 have c1 := ways_at way hw w.drew
 have c2 := fun wx (ho : Only [] w wx) => fmtI16s addr wx (HT.out.of_only ho (by simp)) h1
 have he : M.loadOf way addr = [108,111,97,100,32] ++ x ++ [32] ++ y ++ [13] := by unfold M.loadOf;rw [str_load,hx,hy,Nat.min_eq_left (by omega)]
 rw [← hx] at c1
 rw [← hy] at c2
 rw [he]
 have HC := LH (AI c1 c2)
 clear hx hy c1 c2 he h1
 have k1 : ¬ 9223372036854775807 < 5 + x.length := by omega
 have k2 : ¬ 9223372036854775807 < 5 + x.length + 1 := by omega
 have k3 : ¬ 9223372036854775807 < 5 + x.length + 1 + y.length := by omega
 have k4 : ¬ 9223372036854775807 < 5 + x.length + 1 + y.length + 1 := by omega
 have m1 : (if 3 < (way : Int) then 3 else (way : Int)) = (way : Int) := by rw [if_neg (by omega)]
 have m2 : (if 0 < way then (way : Int) else 0) = (way : Int) := by split <;> omega
 have m3 : (0 : Int) ≤ (way : Int) := by omega
 have m4 : (way : Int) < 4 := by omega
 go_enter Tryz.func9,Tryz.ntmps9
 go_upto_region 1 with fail
 go_region_law (first
  | (go_simp;go_at_call 21;refine (HC.out.1).mono ?_;rintro e w1 ⟨A,rfl,ho1,ca⟩)
  | (go_simp;go_at_call 22;refine (HC.out.2 _ (by first | exact Only.trans ((Only.refl [] w).drew) ho1)).mono ?_;rintro e w2 ⟨rfl,ho2⟩;have cb := ho2.cell ca (by simp)))
 all_goals go_wp2_with fail
 all_goals go_ret
 all_goals refine ⟨?_,(Only.refl [] w).drew.trans (ho1.trans ho2)⟩
 all_goals refine congrArg (fun b => Ending.returned (Value.string b)) ?_
 all_goals simp [ByteArray.mk_append_mk]
theorem far_cell1 {w w1 : World} {row : Option Nat} {D i : Nat} {v : Value} (hg : w.drew.grownBy w1 row) (hD : D < w.heap.size) (hv : row ≠ some D) (h : w.cell? ⟨D,i,none⟩ = some v) : w1.cell? ⟨D,i,none⟩ = some v :=
 (hg.cell_far ⟨D,i,none⟩ hD (Ne.symm hv)).trans h
theorem far_frozen1 {w w1 : World} {row : Option Nat} {D i : Nat} (hg : w.drew.grownBy w1 row) (hD : D < w.heap.size) (hv : row ≠ some D) (h : w.frozen? ⟨D,i,none⟩ = false) : w1.frozen? ⟨D,i,none⟩ = false :=
 (hg.frozen_far ⟨D,i,none⟩ hD (Ne.symm hv)).trans h
theorem rcv_grown {w w1 : World} {R : Nat} {vb vd vd' : Value} {r : M.Rcv} {ds : List UInt8} {N : Nat} (h : Rcved w R vb vd r) (hown : w1.ownsRow 0 5 1 vd' N ((r.data ++ ds).map byteV)) (hN : N = (r.data ++ ds).length) (hgrow : w.drew.grownBy w1 vd.ownBlock) (hat : ∀ g,vd'.ownBlock = some g → vd.ownBlock = some g ∨ w.heap.size ≤ g) (hl : (r.data ++ ds).length ≤ 1099511627776) :
  Rcved (w1.setCell ⟨R,8,none⟩ vd') R vb vd' { r with data := r.data ++ ds } ∧ Ev w (w1.setCell ⟨R,8,none⟩ vd') (rfp R vb vd) (rfp R vb vd') := by
 have o1 : Only (ownL vd) w w1 := (Only.refl _ w).drew.trans (only_grown hgrow)
 have oset : Only [R] w1 (w1.setCell ⟨R,8,none⟩ vd') := only_set _ _ _ _
 have hRl := heap_lt h.str
 have ndR : vd'.ownBlock ≠ some R := fun e => by
  rcases hat R e with h' | h'
  ·exact h.sd h'
  ·omega
 subst hN
 refine ⟨⟨hs_same (o1.heap h.str (fun hb => h.sd (mem_ownL.1 hb))) rfl,ownsRow_only (ownsRow_only h.buf o1 fun g e hb => h.sbd g e (mem_ownL.1 hb)) oset (fun g e hg => h.sb (by simp at hg;rw [← hg];exact e)),ownsRow_only hown oset (fun g e hg => ndR (by simp at hg;rw [← hg];exact e)),h.sb,ndR,fun g e e' => ?_,h.wt,h.tr,h.lf,h.bl,hl,h.kl⟩,?_⟩
 ·rcases hat g e' with h' | h'
  ·exact h.sbd g e h'
  ·have := h.buf.live g e;omega
 ·refine ⟨(o1.weaken (by intro b hb;simp [rfp] at hb ⊢;exact .inr (.inr hb))).setCell (by simp [rfp]) _,fun b hb => ?_⟩
  simp only [rfp,List.mem_cons,List.mem_append,mem_ownL] at hb ⊢
  rcases hb with hb | hb | hb
  ·exact .inl (.inl hb)
  ·exact .inl (.inr (.inl hb))
  ·rcases hat b hb with h' | h'
   ·exact .inl (.inr (.inr h'))
   ·exact .inr h'
theorem rtake_any (R : Nat) (vb : Value) (ad : Option Addr) (cd : Nat) (r : M.Rcv) (B off n c : Nat) (ds : List UInt8) (w : World) (h : Rcved w R vb (.slice ad r.data.length cd) r) (hb : Bytes w (some ⟨B,off,none⟩) ds) (hn : ds.length = n) (h0 : 0 < n) (hl : r.data.length + n ≤ 1099511627776) (hk : r.blocks + 1 ≤ 1099511627776) :
  Calls Tryz.prog 255 #[.pointer (some ⟨R,0,none⟩),.agg #[byteV r.number,.slice (some ⟨B,off,none⟩) n c]] w (RPost w R vb (.slice ad r.data.length cd) (r.take ⟨r.number,ds⟩)) := by
 obtain ⟨i0,hi,hz0,hz1,hz2⟩ := info_parts Tryz.info5
 have HI := LH (AI hi (AI hz0 (AI hz1 hz2)))
 obtain ⟨K,hK⟩ : ∃ K,K = r.data.length := ⟨_,rfl⟩
 rw [← hK] at h hl
 have HK := LH hK
 have H := LH (AI h (AI hb hn))
 clear h hb hn hi hz0 hz1 hz2
 rw [← hK]
 clear hK
 go_enter Tryz.func255,Tryz.ntmps255
 go_upto_region 1 with fail
 obtain ⟨wa,hwa⟩ : ∃ wa,wa = w.alloc (.cells #[byteV r.number,.slice (some ⟨B,off,none⟩) n c] 234) := ⟨_,rfl⟩
 rw [← hwa]
 have oa : Only [] w wa := by rw [hwa];exact (Only.refl [] w).alloc _
 have bx : wa.heap[w.heap.size]? = some (.cells #[byteV r.number,.slice (some ⟨B,off,none⟩) n c] 234 (0,0)) := by rw [hwa];exact heap_alloc_new w _
 have ha := H.out.1.of_none oa
 have x0 : wa.cell? ⟨w.heap.size,0,none⟩ = some (byteV r.number) := cell_at bx rfl
 have x1 : wa.cell? ⟨w.heap.size,1,none⟩ = some (.slice (some ⟨B,off,none⟩) n c) := cell_at bx rfl
 have c4 : wa.cell? ⟨R,4,none⟩ = some (byteV r.number) := cell_at ha.str rfl
 have HA := LH (AI oa (AI bx ha))
 clear hwa oa bx ha
 go_quiet (fail)
 have oq : Only [] wa (wa.drewN nq) := only_drewN [] wa nq
 obtain ⟨wq,hwq⟩ : ∃ wq,wq = wa.drewN nq := ⟨_,rfl⟩
 rw [← hwq] at oq ⊢
 clear hwq
 have hq := HA.out.2.2.of_none oq
 have c4' : wq.cell? ⟨R,4,none⟩ = some (byteV r.number) := cell_at hq.str rfl
 have c8 : wq.cell? ⟨R,8,none⟩ = some (.slice ad K cd) := cell_at hq.str rfl
 have f8 : wq.frozen? ⟨R,8,none⟩ = false := free_at hq.str
 have bq := oq.heap HA.out.2.1 (by simp)
 have x0' : wq.cell? ⟨w.heap.size,0,none⟩ = some (byteV r.number) := cell_at bq rfl
 have x1' : wq.cell? ⟨w.heap.size,1,none⟩ = some (.slice (some ⟨B,off,none⟩) n c) := cell_at bq rfl
 have hbq : Bytes wq (some ⟨B,off,none⟩) ds := (H.out.2.1.of_only HA.out.1 (.inr (by intro ad e;simp))).of_only oq (.inr (by intro ad e;simp))
 have HQ := LH (AI oq (AI hq (AI bq hbq)))
 clear oq hq bq hbq x0 x1 c4
 go_upto_region 2 with fail
 go_cut [20] (fun _ wx => ∃ ad' cd',Rcved wx R vb (.slice ad' (K + n) cd') { r with data := r.data ++ ds } ∧ Ev wq wx (rfp R vb (.slice ad K cd)) (rfp R vb (.slice ad' (K + n) cd')))
 case first =>
  obtain ⟨hi,hz0,hz1,hz2⟩ := HI.out
  have hown : wq.ownsRow 0 5 1 (.slice ad K cd) K (r.data.map byteV) := by have := HQ.out.2.1.dat;rw [RowB,← HK.out] at this;exact this
  have hRl := heap_lt HQ.out.2.1.str
  have hvR : (Value.slice ad K cd).ownBlock ≠ some R := HQ.out.2.1.sd
  have hN : ∀ gg cp1 w1,w1.ownsRow 0 5 1 (.slice (some ⟨gg,0,none⟩) (K + n) cp1) (K + n) (r.data.map byteV ++ ds.map byteV) → wq.drew.grownBy w1 (Value.slice ad K cd).ownBlock → ((Value.slice ad K cd).ownBlock = some gg ∨ gg = wq.heap.size) →
    ∃ ad' cd',Rcved (w1.setCell ⟨R,8,none⟩ (.slice (some ⟨gg,0,none⟩) (K + n) cp1)) R vb (.slice ad' (K + n) cd') { r with data := r.data ++ ds } ∧ Ev wq (w1.setCell ⟨R,8,none⟩ (.slice (some ⟨gg,0,none⟩) (K + n) cp1)) (rfp R vb (.slice ad K cd)) (rfp R vb (.slice ad' (K + n) cd')) := by
   intro gg cp1 w1 q1 q2 q3
   have hlen : K + n = (r.data ++ ds).length := by simp [HK.out,H.out.2.2]
   rw [← List.map_append] at q1
   have := rcv_grown HQ.out.2.1 q1 hlen q2 (fun g e => by simp [Value.ownBlock] at e;subst e;exact q3.imp id (fun e => by omega)) (by rw [← hlen];exact hl)
   exact ⟨_,_,this⟩
  have HN := LH hN
  clear hN
  go_region_law (refine step_append_lies _ (by rfl) _ _ _ (by rfl) 0 5 i0 _ 1 1 Tryz.underlying22 hi hz0 hz1 hz2 rfl (by omega) (.slice ad K cd) K _ (by rfl) hown.drew ⟨B,off,none⟩ n c (ds.map byteV) (by rfl) (by simp [H.out.2.2]) (bytes_news HQ.out.2.2.2.drew) (byteV_one ds) h0 (by unfold maxLen;omega) (by omega) (Nat.zero_le _) wq.heap.size rfl ?_;intro gg cp1 w1 hown1 hgrow hat hlt1;have c8' := far_cell1 hgrow hRl hvR c8;have f8' := far_frozen1 hgrow hRl hvR f8)
  all_goals go_wp2_with fail
  all_goals go_meet
  all_goals exact HN.out _ _ _ hown1 hgrow hat
 case rest =>
  obtain ⟨ad',cd',hr,hev⟩ := hcut
  have c4 : wc.cell? ⟨R,4,none⟩ = some (byteV r.number) := cell_at hr.str rfl
  have c5 : wc.cell? ⟨R,5,none⟩ = some (.bool r.begun) := cell_at hr.str rfl
  have c6 : wc.cell? ⟨R,6,none⟩ = some (.bool r.close) := cell_at hr.str rfl
  have c9 : wc.cell? ⟨R,9,none⟩ = some (.int .i64 r.blocks) := cell_at hr.str rfl
  have c10 : wc.cell? ⟨R,10,none⟩ = some (.int .i64 r.want) := cell_at hr.str rfl
  have f4 : wc.frozen? ⟨R,4,none⟩ = false := free_at hr.str
  have f5 : wc.frozen? ⟨R,5,none⟩ = false := free_at hr.str
  have f9 : wc.frozen? ⟨R,9,none⟩ = false := free_at hr.str
  have ht : ∀ w',w'.heap[R]? = some (.cells (rcvA { r with data := r.data ++ ds,number := r.number + 1,blocks := r.blocks + 1,begun := true } vb (.slice ad' (K + n) cd')) 308 (0,0)) → Only [R] wc w' → Rcved w' R vb (.slice ad' (K + n) cd') { r with data := r.data ++ ds,number := r.number + 1,blocks := r.blocks + 1,begun := true } := fun w' q o =>
   ⟨q,ownsRow_only hr.buf o (fun g e hg => by simp at hg;subst hg;exact hr.sb e),ownsRow_only hr.dat o (fun g e hg => by simp at hg;subst hg;exact hr.sd e),hr.sb,hr.sd,hr.sbd,hr.wt,hr.tr,hr.lf,hr.bl,hr.dl,hk⟩
  have hnum : (((r.number.toNat : Int) + 1) % 256) = ((r.number + 1).toNat : Int) := by rw [UInt8.toNat_add];simp
  have htake : r.take ⟨r.number,ds⟩ = (if (!r.close && r.blocks + 1 == r.want) = true then M.Rcv.end_ { r with data := r.data ++ ds,number := r.number + 1,blocks := r.blocks + 1,begun := true } 0 [6] else ([6],{ r with data := r.data ++ ds,number := r.number + 1,blocks := r.blocks + 1,begun := true })) := by
   unfold M.Rcv.take
   simp only [if_true]
  have hev0 : Ev w wc (rfp R vb (.slice ad K cd)) (rfp R vb (.slice ad' (K + n) cd')) := (Ev.of_only (HA.out.1.trans HQ.out.1) (by simp)).trans hev
  have HR := LH (AI hr (AI hev0 (AI ht htake)))
  have HNM := LH hnum
  clear hr hev ht htake hev0 hnum c4' c8 f8 x0' x1'
  obtain ⟨wz,hwz⟩ : ∃ wz,wz = (((wc.setCell ⟨R,4,none⟩ (.int .u8 (((r.number.toNat : Int) + 1) % 256))).setCell ⟨R,9,none⟩ (.int .i64 ((r.blocks : Int) + 1))).setCell ⟨R,5,none⟩ (.bool true)) := ⟨_,rfl⟩
  have hz3 : Only [R] wc wz ∧ Rcved wz R vb (.slice ad' (K + n) cd') { r with data := r.data ++ ds,number := r.number + 1,blocks := r.blocks + 1,begun := true } := by
   rw [hwz]
   have o3 : Only [R] wc (((wc.setCell ⟨R,4,none⟩ (.int .u8 (((r.number.toNat : Int) + 1) % 256))).setCell ⟨R,9,none⟩ (.int .i64 ((r.blocks : Int) + 1))).setCell ⟨R,5,none⟩ (.bool true)) := (((Only.refl [R] wc).setCell (by simp) _).setCell (by simp) _).setCell (by simp) _
   have h3 : Rcved (((wc.setCell ⟨R,4,none⟩ (.int .u8 (((r.number.toNat : Int) + 1) % 256))).setCell ⟨R,9,none⟩ (.int .i64 ((r.blocks : Int) + 1))).setCell ⟨R,5,none⟩ (.bool true)) R vb (.slice ad' (K + n) cd') { r with data := r.data ++ ds,number := r.number + 1,blocks := r.blocks + 1,begun := true } := HR.out.2.2.1 _ (hs_same (hs_same (hs_same HR.out.1.str (by rw [HNM.out])) rfl) rfl) o3
   exact ⟨o3,h3⟩
  have HZ := LH hz3
  have HWZ := LH hwz
  clear hz3 hwz
  have hcase : r.close = true ∨ (r.close = false ∧ r.blocks + 1 ≠ r.want) ∨ (r.close = false ∧ r.blocks + 1 = r.want) := by
   cases r.close with
   | true => exact .inl rfl
   | false =>
    by_cases e : r.blocks + 1 = r.want
    ·exact .inr (.inr ⟨rfl,e⟩)
    ·exact .inr (.inl ⟨rfl,e⟩)
  rcases hcase with k1 | ⟨k1,k2⟩ | ⟨k1,k2⟩
  ·have HT : Hid (r.take ⟨r.number,ds⟩ = ([6],{ r with data := r.data ++ ds,number := r.number + 1,blocks := r.blocks + 1,begun := true })) := by rw [HR.out.2.2.2,k1];exact rfl
   rw [k1] at c6
   clear k1
   go_wp2_with fail
   go_quiet (fail)
   rw [← HWZ.out]
   go_wp2_with fail
   go_ret
   rw [HT.out]
   have o5 : Only [] wz ((wz.drewN nq).alloc (.cells #[.int .u8 6] 5)) := (only_drewN [] wz nq).alloc _
   have e5 : Ev w ((wz.drewN nq).alloc (.cells #[.int .u8 6] 5)) (rfp R vb (.slice ad K cd)) (rfp R vb (.slice ad' (K + n) cd')) := (HR.out.2.1.trans (Ev.of_only HZ.out.1 (by simp [rfp]))).trans (Ev.of_only o5 (by simp))
   refine ⟨_,vb,.slice ad' (K + n) cd',rfl,out_one w (wz.drewN nq) 6 6 rfl (HR.out.2.1.trans (Ev.of_only HZ.out.1 (by simp [rfp]) : Ev wc wz (rfp R vb (.slice ad' (K + n) cd')) _)).size,HZ.out.2.of_none o5,e5,fun g e => ?_⟩
   simp [Value.ownBlock] at e
   subst e
   intro hb
   have := HZ.out.2.live _ hb
   simp at this
  ·have HT : Hid (r.take ⟨r.number,ds⟩ = ([6],{ r with data := r.data ++ ds,number := r.number + 1,blocks := r.blocks + 1,begun := true })) := by rw [HR.out.2.2.2,if_neg (by simp [k1,k2])];exact rfl
   rw [k1] at c6
   have d1 : (((r.blocks + 1 : Nat) : Int) == (r.want : Int)) = false := by simp;omega
   have d2 : (((r.blocks : Int) + 1) == (r.want : Int)) = false := by simp;omega
   clear k1 k2
   go_wp2_with fail
   go_quiet (fail)
   rw [← HWZ.out]
   go_wp2_with fail
   go_ret
   rw [HT.out]
   have o5 : Only [] wz ((wz.drewN nq).alloc (.cells #[.int .u8 6] 5)) := (only_drewN [] wz nq).alloc _
   have e5 : Ev w ((wz.drewN nq).alloc (.cells #[.int .u8 6] 5)) (rfp R vb (.slice ad K cd)) (rfp R vb (.slice ad' (K + n) cd')) := (HR.out.2.1.trans (Ev.of_only HZ.out.1 (by simp [rfp]))).trans (Ev.of_only o5 (by simp))
   refine ⟨_,vb,.slice ad' (K + n) cd',rfl,out_one w (wz.drewN nq) 6 6 rfl (HR.out.2.1.trans (Ev.of_only HZ.out.1 (by simp [rfp]) : Ev wc wz (rfp R vb (.slice ad' (K + n) cd')) _)).size,HZ.out.2.of_none o5,e5,fun g e => ?_⟩
   simp [Value.ownBlock] at e
   subst e
   intro hb
   have := HZ.out.2.live _ hb
   simp at this
  ·have HT : Hid (r.take ⟨r.number,ds⟩ = M.Rcv.end_ { r with data := r.data ++ ds,number := r.number + 1,blocks := r.blocks + 1,begun := true } 0 [6]) := by rw [HR.out.2.2.2,if_pos (by simp [k1,k2])];exact rfl
   rw [k1] at c6
   have d1 : (((r.blocks + 1 : Nat) : Int) == (r.want : Int)) = true := by simp;omega
   have d2 : (((r.blocks : Int) + 1) == (r.want : Int)) = true := by simp;omega
   clear k1 k2
   go_wp2_with fail
   go_quiet (fail)
   rw [← HWZ.out]
   have o5 : Only [] wz ((wz.drewN nq).alloc (.cells #[.int .u8 6] 5)) := (only_drewN [] wz nq).alloc _
   go_wp2_with (first | (go_at_call 253;refine (rend_any R vb (.slice ad' (K + n) cd') _ 0 .nilIface _ _ _ _ (HZ.out.2.of_none o5) rfl).mono ?_;rintro e w6 ⟨rfl,h6,o6⟩))
   go_ret
   rw [HT.out]
   have e5 : Ev w w6 (rfp R vb (.slice ad K cd)) (rfp R vb (.slice ad' (K + n) cd')) := ((HR.out.2.1.trans (Ev.of_only HZ.out.1 (by simp [rfp]))).trans (Ev.of_only o5 (by simp))).trans (Ev.of_only o6 (by simp [rfp]))
   have hfr : ∀ g,(Value.slice (some ⟨wz.heap.size,0,none⟩) 1 1).ownBlock = some g → g ∉ rfp R vb (.slice ad' (K + n) cd') := fun g e hb => by
    simp [Value.ownBlock] at e
    subst e
    have := HZ.out.2.live _ hb
    simp at this
   refine ⟨_,vb,.slice ad' (K + n) cd',rfl,(out_one w (wz.drewN nq) 6 6 rfl (HR.out.2.1.trans (Ev.of_only HZ.out.1 (by simp [rfp]) : Ev wc wz (rfp R vb (.slice ad' (K + n) cd')) _)).size).of_only o6 (fun g e hb => hfr g e (by simp at hb;simp [rfp,hb])),h6,e5,hfr⟩
end Go.Proofs.YtplaamfoeaaaiaaGreatDoor
