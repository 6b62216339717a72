/- A part of the proofs of the laws of lifelinetop (TopNever, TopLost, TopRoom): contracts of functions that these laws reach. No condition of its own. -/
import Derived.Test.YtplaamfoeaaaiaaGreatDoorK02
import Derived.Test.YtplaamfoeaaaiaaGreatDoorK09
import Derived.Test.YtplaamfoeaaaiaaGreatDoorK12
import Derived.Test.YtplaamfoeaaaiaaGreatDoorK16
import Derived.Test.YtplaamfoeaaaiaaGreatDoorK17
import Derived.Test.YtplaamfoeaaaiaaGreatDoorK19
import Derived.Test.YtplaamfoeaaaiaaGreatDoorK26
set_option maxRecDepth 100000
set_option maxHeartbeats 8000000
set_option linter.unusedVariables false
namespace Go.Proofs.YtplaamfoeaaaiaaGreatDoor
open Go.RowKit
def bcvA (r : M.BRcv) (R : Nat) (f0 vd : Value) : Array Value :=
 #[.int .i64 r.cfg.tries,.int .i64 r.cfg.wait,.pointer (some ⟨R,0,none⟩),.int .i64 r.stage,f0,.int .i64 r.size,.int .i64 0,.int .i64 0,vd,.bool r.over,errV r.err]
structure BAt (w : World) (X R : Nat) (vb vp vd f0 : Value) (r : M.BRcv) : Prop where
 str : w.heap[X]? = some (.cells (bcvA r R f0 vd) 306 (0,0))
 part : Rcved w R vb vp r.part
 dat : RowB w vd r.data
 sX : X ∉ rfp R vb vp
 sD : ∀ g,vd.ownBlock = some g → g ≠ X ∧ g ∉ rfp R vb vp
 ok : CfgOk r.cfg
 dl : r.data.length ≤ 1099511627776
abbrev bfp (X R : Nat) (vb vp vd : Value) : List Nat := X :: (rfp R vb vp ++ ownL vd)
theorem BAt.live {w : World} {X R : Nat} {vb vp vd f0 : Value} {r : M.BRcv} (h : BAt w X R vb vp vd f0 r) : Live w (bfp X R vb vp vd) := by
 intro b hb
 simp only [bfp,List.mem_cons,List.mem_append,mem_ownL] at hb
 rcases hb with rfl | hb | hb
 ·exact heap_lt h.str
 ·exact h.part.live b (by simpa [rfp] using hb)
 ·exact h.dat.live b hb
theorem BAt.of_only {w w' : World} {X R : Nat} {vb vp vd f0 : Value} {r : M.BRcv} {ks : List Nat} (h : BAt w X R vb vp vd f0 r) (ho : Only ks w w') (hs : Sep (bfp X R vb vp vd) ks) : BAt w' X R vb vp vd f0 r :=
 ⟨ho.heap h.str (hs X (by simp [bfp])),h.part.of_only ho (fun b hb => hs b (List.mem_cons_of_mem _ (List.mem_append_left _ hb))),ownsRow_only h.dat ho (fun g e => hs g (by simp [bfp,mem_ownL.2 e])),h.sX,h.sD,h.ok,h.dl⟩
theorem BAt.of_none {w w' : World} {X R : Nat} {vb vp vd f0 : Value} {r : M.BRcv} (h : BAt w X R vb vp vd f0 r) (ho : Only [] w w') : BAt w' X R vb vp vd f0 r := h.of_only ho (fun b _ => by simp)
theorem bdone_any (X R : Nat) (vb vp vd f0 : Value) (r : M.BRcv) (w : World) (h : BAt w X R vb vp vd f0 r) :
  Calls Tryz.prog 242 #[.pointer (some ⟨X,0,none⟩)] w fun e w' => e = .returned (.tuple #[.bool r.over,errV r.err]) ∧ Only [] w w' := by
 have c9 : w.cell? ⟨X,9,none⟩ = some (.bool r.over) := cell_at h.str rfl
 have c10 : w.cell? ⟨X,10,none⟩ = some (errV r.err) := cell_at h.str rfl
 have ho : ∀ n,Only [] w (w.drewN n) := fun n => only_drewN [] w n
 have HO := LH ho
 clear h ho
 go_enter Tryz.func242,Tryz.ntmps242
 go_wp2_with fail
 go_quiet (fail)
 go_wp2_with fail
 go_ret2
 exact ⟨rfl,HO.out _⟩
theorem bdata_any (X R : Nat) (vb vp vd f0 : Value) (r : M.BRcv) (w : World) (h : BAt w X R vb vp vd f0 r) :
  Calls Tryz.prog 241 #[.pointer (some ⟨X,0,none⟩)] w fun e w' => ∃ v,e = .returned v ∧ Out w w' v r.data ∧ Only [] w w' := by
 have hdl := h.dl
 obtain ⟨a,c,rfl,hb,h1,h2,h3,_⟩ := h.dat.slc
 have c8 : w.cell? ⟨X,8,none⟩ = some (.slice a r.data.length c) := cell_at h.str rfl
 have HB := LH (AI hb h3)
 clear h hb h1 h2 h3
 go_enter Tryz.func241,Tryz.ntmps241
 go_wp2_with (at_builtin;refine wpList_appAt _ rfl (.const (.slice none 0 0)) (.tmp 6) rfl w.heap.size (.slice none 0 0) 0 [] rfl (World.ownsRow_nil _ _ _ _) a r.data.length c r.data rfl HB.out.1 rfl HB.out.2 r.data rfl r.data.length (Nat.zero_add _) (by omega) (Nat.le_refl _) ?_;intro a' c' w1 q1 q2 q3)
 go_ret
 exact ⟨_,rfl,q1,(only_grown q2).weaken (by simp [Value.ownBlock])⟩
theorem keep2 {w0 w1 w2 : World} {a b : Addr} {x y : Value} (h : Only [] w0 w1 ∧ w1.cell? a = some x ∧ w1.cell? b = some y) (o : Only [] w1 w2) : Only [] w0 w2 ∧ w2.cell? a = some x ∧ w2.cell? b = some y :=
 ⟨h.1.trans o,o.cell h.2.1 (by simp),o.cell h.2.2 (by simp)⟩
def AfterOk (r : M.BRcv) : Prop :=
 r.part.over = true → r.part.err = 0 ∧ ((r.stage = 0 ∧ r.part.data = M.headerMake fb 100) ∨ (r.stage = 1 ∧ r.size ≤ r.part.data.length) ∨ (r.stage = 2 ∧ r.part.data.length = 128 ∧ r.part.data.getD 0 0 = 0))
theorem read_hdr : M.headerRead (M.headerMake fb 100) = some 100 := by decide +kernel
theorem after_no (r : M.BRcv) (out : M.B) (h : r.part.over = false) : (r.after (out,r.part)).2 = r := by
 unfold M.BRcv.after
 simp [h]
theorem after_0 (r : M.BRcv) (out : M.B) (h : r.part.over = true) (he : r.part.err = 0) (h0 : r.stage = 0) (hd : r.part.data = M.headerMake fb 100) : (r.after (out,r.part)).2 = { r with stage := 1,size := 100,part := M.rcvOf r.cfg 1 true true 1 } := by
 unfold M.BRcv.after
 simp [h,he,h0,hd,read_hdr]
theorem after_1 (r : M.BRcv) (out : M.B) (h : r.part.over = true) (he : r.part.err = 0) (h0 : r.stage = 1) (hd : r.size ≤ r.part.data.length) : (r.after (out,r.part)).2 = { r with stage := 2,data := r.part.data.take r.size,part := M.rcvOf r.cfg 0 true false 1 } := by
 unfold M.BRcv.after
 have : ¬ r.part.data.length < r.size := by omega
 simp [h,he,h0,this]
theorem after_2 (r : M.BRcv) (out : M.B) (h : r.part.over = true) (he : r.part.err = 0) (h0 : r.stage = 2) (hd : r.part.data.length = 128) (hz : r.part.data.getD 0 0 = 0) : (r.after (out,r.part)).2 = { r with stage := 3,over := true } := by
 unfold M.BRcv.after
 simp only [h,he,h0,hd,hz]
 simp
theorem RowB.head {w : World} {a : Option Addr} {n c k : Nat} {bs : List UInt8} (h : RowB w (.slice a n c) bs) (hn : n = bs.length) (hk : k ≤ n) : RowB w (.slice a k c) (bs.take k) := by
 have hl : (bs.take k).length = k := by simp;omega
 unfold RowB
 rw [hl]
 refine ⟨by simp;omega,?_⟩
 rcases h.2 with ⟨hv,h0⟩ | ⟨g,cap,cur,hv,hg,hh,hle,hm,hs,ht⟩
 ·simp only [Value.slice.injEq] at hv
  obtain ⟨rfl,rfl,rfl⟩ := hv
  have : k = 0 := by omega
  subst this
  exact .inl ⟨rfl,rfl⟩
 ·simp only [Value.slice.injEq] at hv
  obtain ⟨rfl,hn',rfl⟩ := hv
  refine .inr ⟨g,c,cur,rfl,hg,hh,by omega,hm,hs,?_⟩
  have e : (cur.toList.take (bs.length * 1)).take (k * 1) = (bs.map byteV).take (k * 1) := by rw [ht]
  rw [List.take_take,Nat.min_eq_left (by omega)] at e
  rw [e]
  simp
theorem btake_any (c : M.Cfg) (w : World) (h : CfgOk c) :
  Calls Tryz.prog 137 #[.agg #[.int .i64 c.tries,.int .i64 c.wait]] w fun e w' => ∃ X R f0,e = .returned (.pointer (some ⟨X,0,none⟩)) ∧ w.heap.size ≤ X ∧ w.heap.size ≤ R ∧ BAt w' X R (.slice none 0 0) (.slice none 0 0) (.slice none 0 0) f0 (M.brcvOf c) ∧ Only [] w w' := by
 obtain ⟨A,hA⟩ : ∃ A,A = w.heap.size := ⟨_,rfl⟩
 obtain ⟨w0,hw0⟩ : ∃ w0,w0 = w.alloc (.cells #[.int .i64 c.tries,.int .i64 c.wait] 31) := ⟨_,rfl⟩
 have hz : w0.heap[A]? = some (.cells #[.int .i64 c.tries,.int .i64 c.wait] 31 (0,0)) := by rw [hw0,hA];exact heap_alloc_new w _
 have g0 : w0.cell? ⟨A,0,none⟩ = some (.int .i64 c.tries) := cell_at hz rfl
 have g1 : w0.cell? ⟨A,1,none⟩ = some (.int .i64 c.wait) := cell_at hz rfl
 have o0 : Only [] w w0 := by rw [hw0];exact (Only.refl [] w).alloc _
 have HR := fun wx => rof_any c 0 true false wx h
 have HA := LH (AI hw0 (AI hA (AI o0 h)))
 clear hw0 hA o0 hz h
 go_enter Tryz.func137,Tryz.ntmps137
 go_upto_region 1 with fail
 rw [← HA.out.1,← HA.out.2.1]
 have oo : Only [] w0 w0 := Only.refl _ _
 go_region_held3 (fun w' => Only [] w0 w' ∧ w'.cell? ⟨A,0,none⟩ = some (.int .i64 c.tries) ∧ w'.cell? ⟨A,1,none⟩ = some (.int .i64 c.wait)) (first
   | (exact keep2 ‹_› ho2)
   | (exact keep2 ‹_› ((Only.refl [] _).alloc _))
   | (exact ⟨oo.drew,‹_›,‹_›⟩)
   | go_keep)
  (first | (go_at_call 138;refine (HR _).mono ?_;rintro e w2 ⟨R,rfl,hR,hrc,ho2⟩))
 all_goals go_wp2_with fail
 rename_i hk
 have HK := LH hk.1
 clear hk
 go_ret
 have hRl := hrc.live R (by simp [rfp])
 have oa : Only [] w2 (w2.alloc (.cells (bcvA (M.brcvOf c) R (strB []) (.slice none 0 0)) 306)) := (Only.refl [] w2).alloc _
 have hRw : w.heap.size ≤ R := by
  have := HA.out.2.2.1.size
  simp at hR
  omega
 refine ⟨w2.heap.size,R,strB [],rfl,by omega,hRw,?_,HA.out.2.2.1.trans HK.out⟩
 refine ⟨heap_alloc_new w2 _,hrc.of_none oa,RowB.nil _,fun hb => ?_,fun g e => by simp [Value.ownBlock] at e,HA.out.2.2.2,by simp [M.brcvOf]⟩
 have := hrc.live _ hb
 omega
theorem bev {w w' : World} {X R R' : Nat} {vb vp vd vd' : Value} (ho : Only [X] w w') (hR : w.heap.size ≤ R') (hd : ∀ g,vd'.ownBlock = some g → vd.ownBlock = some g ∨ w.heap.size ≤ g) :
  Ev w w' (bfp X R vb vp vd) (bfp X R' (.slice none 0 0) (.slice none 0 0) vd') := by
 refine ⟨ho.weaken (by simp [bfp]),fun b hb => ?_⟩
 simp only [bfp,rfp,List.mem_cons,List.mem_append,mem_ownL] at hb ⊢
 rcases hb with rfl | (rfl | hb | hb) | hb
 ·simp
 ·right;exact hR
 ·simp [Value.ownBlock] at hb
 ·simp [Value.ownBlock] at hb
 ·rcases hd b hb with h | h
  ·left;right;right;exact h
  ·right;exact h
theorem bafter_any (X R : Nat) (vb vp vd f0 : Value) (r : M.BRcv) (v : Value) (out : M.B) (w : World) (h : BAt w X R vb vp vd f0 r) (hg : Glob w) (hXg : X ∉ glb) (hok : AfterOk r) :
  Calls Tryz.prog 245 #[.pointer (some ⟨X,0,none⟩),v] w fun e w' => e = .returned v ∧ ∃ R' vb' vp' vd' f0',BAt w' X R' vb' vp' vd' f0' (r.after (out,r.part)).2 ∧ Ev w w' (bfp X R vb vp vd) (bfp X R' vb' vp' vd') := by
 have HD := fun wx (ho : Only [] w wx) => rdone_any R vb vp r.part wx (h.part.of_none ho)
 have HT := fun wx (ho : Only [] w wx) => rdata_any R vb vp r.part wx (h.part.of_none ho)
 have q1 := fun w => neq_nn w
 have c2 : w.cell? ⟨X,2,none⟩ = some (.pointer (some ⟨R,0,none⟩)) := cell_at h.str rfl
 have hbr : ∀ o,r.part.over = o → o = false ∨ o = true := fun o _ => by cases o <;> simp
 cases hov : r.part.over with
 | false =>
  have hr := after_no r out hov
  rw [hov] at HD
  have HH := LH (AI h hr)
  clear h hr hov hok hg HT q1 hbr
  go_enter Tryz.func245,Tryz.ntmps245
  go_wp2_with (go_at_call 248;refine (HD _ (Only.refl _ _)).mono ?_;rintro e w1 ⟨rfl,ho1⟩;have HO1 := LH ho1;clear ho1)
  go_ret
  rw [HH.out.2]
  exact ⟨rfl,R,vb,vp,vd,f0,HH.out.1.of_none HO1.out,⟨HO1.out.weaken (by simp),Grow.refl _ _⟩⟩
 | true =>
  obtain ⟨he,hst⟩ := hok hov
  rw [hov,he,errV_zero] at HD
  have hX := heap_lt h.str
  have HH := LH (AI h (AI hg (AI hst (AI hov he))))
  clear h hov hok hg hbr he hst
  go_enter Tryz.func245,Tryz.ntmps245
  go_upto_region 7 with (go_at_call 248;refine (HD _ (Only.refl _ _)).mono ?_;rintro e w1 ⟨rfl,ho1⟩;have HO1 := LH ho1;have c21 := ho1.cell c2 (by simp);clear ho1)
  clear HD q1 c2
  go_upto_region 8 with (go_at_call 250;refine (HT _ HO1.out).mono ?_;rintro e w2 ⟨vg,rfl,hout,ho2⟩;have HO2 := LH (HO1.out.trans ho2);obtain ⟨ga,gc,rfl,z1,z2,z3,z4,z5,z6⟩ := hout.read;have HU := LH (AI hout (AI z1 (AI z2 (AI z3 (AI z4 (AI z5 z6))))));clear ho2 hout z1 z2 z3 z4 z5 z6)
  clear HT c21
  have h2 := HH.out.1.of_none HO2.out
  have d3 : w2.cell? ⟨X,3,none⟩ = some (.int .i64 r.stage) := cell_at h2.str rfl
  have f3 : w2.frozen? ⟨X,3,none⟩ = false := free_at h2.str
  have hX2 := heap_lt h2.str
  have H2 := LH h2
  clear h2
  rcases HH.out.2.2.1 with ⟨hs,hd⟩ | ⟨hs,hd⟩ | ⟨hs,hd,hz⟩
  ·have hr := after_0 r out HH.out.2.2.2.1 HH.out.2.2.2.2 hs hd
   have HS := LH (AI hs (AI hd hr))
   rw [hs] at d3
   clear hs hd hr
   have hn : r.part.data.length = 128 := by rw [HS.out.2.1,hdr_eq];rfl
   rw [hn]
   have hby : Bytes (w2.setCell ⟨X,3,none⟩ (.int .i64 1)) ga (M.headerMake fb 100) := by
    have h1 := HU.out.2.1
    rw [HS.out.2.1] at h1
    refine h1.of_only (only_set w2 X 3 _) (.inr fun ad e hb => ?_)
    have h5 := HU.out.2.2.2.2.1 ad e
    have h6 := HO1.out.size
    simp at hb
    omega
   have h3 : (w2.setCell ⟨X,3,none⟩ (.int .i64 1)).heap[X]? = some (.cells (bcvA { r with stage := 1 } R f0 vd) 306 (0,0)) := hs_same H2.out.str rfl
   have hgl : Glob (w2.setCell ⟨X,3,none⟩ (.int .i64 1)) := by
    refine (HH.out.2.1.of_none HO2.out).of_only (only_set w2 X 3 _) (fun b hb hc => ?_)
    simp at hb
    subst hb
    exact hXg hc
   have HR := hread_any ga gc _ hgl hby
   have H3 := LH h3
   have o23 : Only [X] w2 (w2.setCell ⟨X,3,none⟩ (.int .i64 1)) := only_set w2 X 3 _
   have HO3 := LH o23
   clear hby h3 hgl hn o23
   go_upto_region 15 with fail
   clear d3 f3
   obtain ⟨w3,hw3⟩ : ∃ w3,w3 = w2.setCell ⟨X,3,none⟩ (.int .i64 1) := ⟨_,rfl⟩
   rw [← hw3] at HR H3 HO3 ⊢
   clear hw3
   go_upto_region 19 with (go_at_call 251;refine (HR).mono ?_;rintro e w4 ⟨rfl,ho4⟩;have h4 := ho4.heap H3.out (by simp);have HO4 := LH ho4;clear ho4)
   obtain ⟨w5,hw5⟩ : ∃ w5,w5 = w4.alloc (.cells #[strB fb,.int .i64 100,.int .i64 0,.int .i64 0] 203) := ⟨_,rfl⟩
   obtain ⟨F,hF⟩ : ∃ F,F = w4.heap.size := ⟨_,rfl⟩
   have h5F : w5.heap[F]? = some (.cells #[strB fb,.int .i64 100,.int .i64 0,.int .i64 0] 203 (0,0)) := by rw [hw5,hF];exact heap_alloc_new w4 _
   have o45 : Only [] w4 w5 := by rw [hw5];exact (Only.refl [] w4).alloc _
   have h5 := o45.heap h4 (by simp)
   rw [← hw5,← hF]
   have e0 := cell_at h5F (i := 0) rfl
   have e1 := cell_at h5F (i := 1) rfl
   have e2 := cell_at h5F (i := 2) rfl
   have e3 := cell_at h5F (i := 3) rfl
   have x4 : w5.cell? ⟨X,4,none⟩ = some f0 := cell_at h5 rfl
   have x5 : w5.cell? ⟨X,5,none⟩ = some (.int .i64 r.size) := cell_at h5 rfl
   have x6 : w5.cell? ⟨X,6,none⟩ = some (.int .i64 0) := cell_at h5 rfl
   have x7 : w5.cell? ⟨X,7,none⟩ = some (.int .i64 0) := cell_at h5 rfl
   have y4 : w5.frozen? ⟨X,4,none⟩ = false := free_at h5
   have y5 : w5.frozen? ⟨X,5,none⟩ = false := free_at h5
   have y6 : w5.frozen? ⟨X,6,none⟩ = false := free_at h5
   have y7 : w5.frozen? ⟨X,7,none⟩ = false := free_at h5
   have h6 : ((((w5.setCell ⟨X,4,none⟩ (strB fb)).setCell ⟨X,5,none⟩ (.int .i64 100)).setCell ⟨X,6,none⟩ (.int .i64 0)).setCell ⟨X,7,none⟩ (.int .i64 0)).heap[X]? = some (.cells (bcvA { r with stage := 1,size := 100 } R (strB fb) vd) 306 (0,0)) := hs_same (hs_same (hs_same (hs_same h5 rfl) rfl) rfl) rfl
   have o56 : Only [X] w5 ((((w5.setCell ⟨X,4,none⟩ (strB fb)).setCell ⟨X,5,none⟩ (.int .i64 100)).setCell ⟨X,6,none⟩ (.int .i64 0)).setCell ⟨X,7,none⟩ (.int .i64 0)) := ((((Only.refl _ _).setCell (by simp) _).setCell (by simp) _).setCell (by simp) _).setCell (by simp) _
   have H6 := LH (AI h6 (AI o56 o45))
   clear h6 o56 o45 hw5 hF h5F h4
   have hXF : X < w5.heap.size := heap_lt h5
   clear h5
   go_upto_region 20 with fail
   obtain ⟨w6,hw6⟩ : ∃ w6,w6 = ((((w5.setCell ⟨X,4,none⟩ (strB fb)).setCell ⟨X,5,none⟩ (.int .i64 100)).setCell ⟨X,6,none⟩ (.int .i64 0)).setCell ⟨X,7,none⟩ (.int .i64 0)) := ⟨_,rfl⟩
   rw [← hw6] at H6 ⊢
   clear hw6 e0 e1 e2 e3 x4 x5 x6 x7 y4 y5 y6 y7
   have t0 : w6.cell? ⟨X,0,none⟩ = some (.int .i64 r.cfg.tries) := cell_at H6.out.1 rfl
   have t1 : w6.cell? ⟨X,1,none⟩ = some (.int .i64 r.cfg.wait) := cell_at H6.out.1 rfl
   have HRO := rof_any r.cfg 1 true true w6 HH.out.1.ok
   go_wp2_with (go_at_call 138;refine (HRO).mono ?_;rintro e w7 ⟨R',rfl,hR',hrc,ho7⟩;have h7 := ho7.heap H6.out.1 (by simp);have t2 : w7.cell? ⟨X,2,none⟩ = some (.pointer (some ⟨R,0,none⟩)) := cell_at h7 rfl;have g2 : w7.frozen? ⟨X,2,none⟩ = false := free_at h7;have H7 := LH (AI h7 (AI hR' (AI hrc ho7)));clear h7 hR' hrc ho7)
   go_ret
   rw [HS.out.2.2]
   have hs6 : w.heap.size ≤ w6.heap.size := by
    have a1 := HO2.out.size
    have a2 := HO3.out.size
    have a3 := HO4.out.size
    have a4 := H6.out.2.1.size
    have a5 := H6.out.2.2.size
    omega
   have hRX : R' ≠ X := by have := H7.out.2.1;omega
   have oX : Only [X] w (w7.setCell ⟨X,2,none⟩ (.pointer (some ⟨R',0,none⟩))) := ((((((HO2.out.weaken (by simp)).trans HO3.out).trans (HO4.out.weaken (by simp))).trans (H6.out.2.2.weaken (by simp))).trans H6.out.2.1).trans (H7.out.2.2.2.weaken (by simp))).setCell (by simp) _
   refine ⟨rfl,R',_,_,vd,strB fb,?_,bev oX (by have := H7.out.2.1;omega) (fun g e => .inl e)⟩
   refine ⟨hs_same H7.out.1 rfl,H7.out.2.2.1.of_only (only_set w7 X 2 _) (by intro b hb;simp [rfp,ownL,Value.ownBlock] at hb ⊢;omega),ownsRow_only HH.out.1.dat oX (fun g e => by have := (HH.out.1.sD g e).1;simpa using this),by simp [rfp,ownL,Value.ownBlock];omega,fun g e => ⟨(HH.out.1.sD g e).1,?_⟩,HH.out.1.ok,HH.out.1.dl⟩
   have h1 := HH.out.1.dat.live g e
   have h2 := H7.out.2.1
   simp [rfp,ownL,Value.ownBlock]
   omega
  ·have hr := after_1 r out HH.out.2.2.2.1 HH.out.2.2.2.2 hs hd
   obtain ⟨N,hN⟩ : ∃ N,N = r.part.data.length := ⟨_,rfl⟩
   obtain ⟨S,hS⟩ : ∃ S,S = r.size := ⟨_,rfl⟩
   rw [← hN,← hS] at hd
   have hsl := fun w => run_head Tryz.prog w 22 ga N gc S Tryz.elem22 1 Tryz.size5 (by have := HU.out.2.2.1;omega) .i64
   have HS := LH (AI hs (AI hr (AI hN hS)))
   rw [hs] at d3
   have k1 : decide (N < S) = false := by simp;omega
   have h3 : (w2.setCell ⟨X,3,none⟩ (.int .i64 2)).heap[X]? = some (.cells (bcvA { r with stage := 2 } R f0 vd) 306 (0,0)) := hs_same H2.out.str rfl
   have o23 : Only [X] w2 (w2.setCell ⟨X,3,none⟩ (.int .i64 2)) := only_set w2 X 3 _
   have H3 := LH (AI h3 o23)
   rw [← hN]
   clear hs hr hN hS h3 o23
   go_upto_region 21 with fail
   clear d3 f3
   obtain ⟨w3,hw3⟩ : ∃ w3,w3 = w2.setCell ⟨X,3,none⟩ (.int .i64 2) := ⟨_,rfl⟩
   rw [← hw3] at H3 ⊢
   clear hw3
   have x5 : w3.cell? ⟨X,5,none⟩ = some (.int .i64 S) := by rw [HS.out.2.2.2];exact cell_at H3.out.1 rfl
   have x8 : w3.cell? ⟨X,8,none⟩ = some vd := cell_at H3.out.1 rfl
   have y8 : w3.frozen? ⟨X,8,none⟩ = false := free_at H3.out.1
   have h6 : (w3.setCell ⟨X,8,none⟩ (.slice ga S gc)).heap[X]? = some (.cells (bcvA { r with stage := 2 } R f0 (.slice ga S gc)) 306 (0,0)) := hs_same H3.out.1 rfl
   have o36 : Only [X] w3 (w3.setCell ⟨X,8,none⟩ (.slice ga S gc)) := only_set w3 X 8 _
   have H6 := LH (AI h6 o36)
   clear h6 o36
   go_upto_region 26 with fail
   obtain ⟨w6,hw6⟩ : ∃ w6,w6 = w3.setCell ⟨X,8,none⟩ (.slice ga S gc) := ⟨_,rfl⟩
   rw [← hw6] at H6 ⊢
   clear hw6 x5 x8 y8 hsl k1
   have t0 : w6.cell? ⟨X,0,none⟩ = some (.int .i64 r.cfg.tries) := cell_at H6.out.1 rfl
   have t1 : w6.cell? ⟨X,1,none⟩ = some (.int .i64 r.cfg.wait) := cell_at H6.out.1 rfl
   have HRO := rof_any r.cfg 0 true false w6 HH.out.1.ok
   go_wp2_with (go_at_call 138;refine (HRO).mono ?_;rintro e w7 ⟨R',rfl,hR',hrc,ho7⟩;have h7 := ho7.heap H6.out.1 (by simp);have t2 : w7.cell? ⟨X,2,none⟩ = some (.pointer (some ⟨R,0,none⟩)) := cell_at h7 rfl;have g2 : w7.frozen? ⟨X,2,none⟩ = false := free_at h7;have H7 := LH (AI h7 (AI hR' (AI hrc ho7)));clear h7 hR' hrc ho7)
   go_ret
   rw [HS.out.2.1]
   have hs6 : w2.heap.size ≤ w6.heap.size := Nat.le_trans H3.out.2.size H6.out.2.size
   have hs2 := HO2.out.size
   have hRX : R' ≠ X := by have := H7.out.2.1;omega
   have o2X : Only [X] w2 (w7.setCell ⟨X,2,none⟩ (.pointer (some ⟨R',0,none⟩))) := ((H3.out.2.trans H6.out.2).trans (H7.out.2.2.2.weaken (by simp))).setCell (by simp) _
   have oX : Only [X] w (w7.setCell ⟨X,2,none⟩ (.pointer (some ⟨R',0,none⟩))) := (HO2.out.weaken (by simp)).trans o2X
   have hgb : ∀ g,(Value.slice ga S gc).ownBlock = some g → w1.heap.size ≤ g ∧ g < w2.heap.size := by
    intro g e
    have h1 : (Value.slice ga r.part.data.length gc).ownBlock = some g := by rw [← e];cases ga <;> rfl
    exact HU.out.1.fresh g h1
   have hs1 := HO1.out.size
   have hrow : RowB w2 (.slice ga S gc) (r.part.data.take S) := RowB.head HU.out.1.row rfl (by have := HS.out.2.2.1;omega)
   rw [← HS.out.2.2.2]
   have hlen : (r.part.data.take S).length = S := by simp;have := HS.out.2.2.1;omega
   have hdl := HH.out.1.part.dl
   refine ⟨rfl,R',_,_,(.slice ga S gc),f0,?_,bev oX (by have := H7.out.2.1;omega) (fun g e => .inr (by have := hgb g e;omega))⟩
   refine ⟨by have h := hs_same (v := Value.pointer (some ⟨R',0,none⟩)) (i := 2) H7.out.1 rfl;rw [HS.out.2.2.2] at h ⊢;exact h,H7.out.2.2.1.of_only (only_set w7 X 2 _) (by intro b hb;simp [rfp,ownL,Value.ownBlock] at hb ⊢;omega),ownsRow_only hrow o2X (fun g e => by have := hgb g e;simp;omega),by simp [rfp,ownL,Value.ownBlock];omega,fun g e => ⟨by have := hgb g e;omega,?_⟩,HH.out.1.ok,by show (r.part.data.take S).length ≤ _;rw [hlen];have := HS.out.2.2.1;omega⟩
   have h1 := hgb g e
   have h2 := H7.out.2.1
   simp [rfp,ownL,Value.ownBlock]
   omega
  ·have hr := after_2 r out HH.out.2.2.2.1 HH.out.2.2.2.2 hs hd hz
   have HS := LH (AI hs (AI hr (AI hd hz)))
   rw [hs] at d3
   rw [hd]
   have hby : Bytes (w2.setCell ⟨X,3,none⟩ (.int .i64 3)) ga r.part.data := by
    refine HU.out.2.1.of_only (only_set w2 X 3 _) (.inr fun ad e hb => ?_)
    have h5 := HU.out.2.2.2.2.1 ad e
    have h6 := HO1.out.size
    simp at hb
    omega
   have h3 : (w2.setCell ⟨X,3,none⟩ (.int .i64 3)).heap[X]? = some (.cells (bcvA { r with stage := 3 } R f0 vd) 306 (0,0)) := hs_same H2.out.str rfl
   have o23 : Only [X] w2 (w2.setCell ⟨X,3,none⟩ (.int .i64 3)) := only_set w2 X 3 _
   have H3 := LH (AI h3 o23)
   have HE := ends_any ga 128 gc r.part.data _ hby hd rfl hz
   clear hs hr hd hz h3 o23 hby
   go_upto_region 10 with fail
   clear d3 f3
   obtain ⟨w3,hw3⟩ : ∃ w3,w3 = w2.setCell ⟨X,3,none⟩ (.int .i64 3) := ⟨_,rfl⟩
   rw [← hw3] at H3 HE ⊢
   clear hw3
   have x9 : w3.cell? ⟨X,9,none⟩ = some (.bool r.over) := cell_at H3.out.1 rfl
   have y9 : w3.frozen? ⟨X,9,none⟩ = false := free_at H3.out.1
   go_wp2_with (go_at_call 252;refine (HE).mono ?_;rintro e w' ⟨rfl,rfl⟩)
   go_ret
   rw [HS.out.2.1]
   have o2X : Only [X] w (w3.setCell ⟨X,9,none⟩ (.bool true)) := ((HO2.out.weaken (by simp)).trans H3.out.2).setCell (by simp) _
   refine ⟨rfl,R,vb,vp,vd,f0,?_,⟨o2X.weaken (by simp [bfp]),Grow.refl _ _⟩⟩
   exact ⟨hs_same H3.out.1 rfl,HH.out.1.part.of_only o2X (fun b hb hx => by simp at hx;subst hx;exact HH.out.1.sX hb),ownsRow_only HH.out.1.dat o2X (fun g e => by have := (HH.out.1.sD g e).1;simpa using this),HH.out.1.sX,HH.out.1.sD,HH.out.1.ok,HH.out.1.dl⟩
theorem Out.ev {w w1 w2 : World} {v : Value} {bs : List UInt8} {f1 f2 : List Nat} (h : Out w w1 v bs) (he : Ev w1 w2 f1 f2) (hn : ∀ g,v.ownBlock = some g → g ∉ f1) : Out w w2 v bs ∧ ∀ g,v.ownBlock = some g → g ∉ f2 :=
 ⟨h.of_only he.only hn,fun g e hg => by
  rcases he.grow g hg with h' | h'
  ·exact hn g e h'
  ·have := (h.fresh g e).2;omega⟩
def RPutOk (r : M.Rcv) (bs : List UInt8) : Prop :=
 r.over = false ∧ bs ≠ [] ∧ r.buffer.length + bs.length ≤ 1099511627776 ∧ r.data.length + 1024 ≤ 1099511627776 ∧ r.blocks + 1 ≤ 1099511627776 ∧ Comes4 r (r.buffer ++ bs)
def RTickOk (r : M.Rcv) : Prop := r.begun = false → 1 ≤ r.tries
theorem rput_ok (R : Nat) (vb vd : Value) (r : M.Rcv) (a : Option Addr) (n c : Nat) (bs : List UInt8) (w : World) (h : Rcved w R vb vd r) (hb : Bytes w a bs) (hn : bs.length = n) (hnil : a = none → c = 0) (haw : Away a (rfp R vb vd)) (ho : RPutOk r bs) :
  Calls Tryz.prog 246 #[.pointer (some ⟨R,0,none⟩),.slice a n c] w (RPost w R vb vd (r.put bs)) := by
 obtain ⟨h1,h2,h3,h4,h5,h6⟩ := ho
 obtain ⟨ab,cb,rfl⟩ := own_slice h.buf
 have hpos : 0 < n := by
  rw [← hn]
  exact List.length_pos_iff.2 h2
 exact rput_any R ab cb vd r a n c bs w h hb hn hpos hnil h1 haw (by omega) h4 h5 h6
def BPutOk (r : M.BRcv) (bs : List UInt8) : Prop := r.over = false → RPutOk r.part bs ∧ AfterOk { r with part := (r.part.put bs).2 }
def BTickOk (r : M.BRcv) : Prop := r.over = false → RTickOk r.part ∧ AfterOk { r with part := r.part.tick.2 }
def BPost (w : World) (X R : Nat) (vb vp vd : Value) (r : M.B × M.BRcv) (x : Ending) (w' : World) : Prop :=
 ∃ v R' vb' vp' vd' f0',x = .returned v ∧ Out w w' v r.1 ∧ BAt w' X R' vb' vp' vd' f0' r.2 ∧ Ev w w' (bfp X R vb vp vd) (bfp X R' vb' vp' vd') ∧ ∀ g,v.ownBlock = some g → g ∉ bfp X R' vb' vp' vd'
theorem BAt.part' {w w1 : World} {X R : Nat} {vb vp vd f0 vb' vp' : Value} {r : M.BRcv} {p : M.Rcv} (h : BAt w X R vb vp vd f0 r) (hp : Rcved w1 R vb' vp' p) (he : Ev w w1 (rfp R vb vp) (rfp R vb' vp')) :
  BAt w1 X R vb' vp' vd f0 { r with part := p } ∧ Ev w w1 (bfp X R vb vp vd) (bfp X R vb' vp' vd) := by
 have hX := heap_lt h.str
 refine ⟨⟨he.only.heap h.str h.sX,hp,ownsRow_only h.dat he.only (fun g e => (h.sD g e).2),fun hb => ?_,fun g e => ⟨(h.sD g e).1,fun hb => ?_⟩,h.ok,h.dl⟩,⟨he.only.weaken fun b hb => List.mem_cons_of_mem _ (List.mem_append_left _ hb),fun b hb => ?_⟩⟩
 ·rcases he.grow X hb with h' | h'
  ·exact h.sX h'
  ·omega
 ·rcases he.grow g hb with h' | h'
  ·exact (h.sD g e).2 h'
  ·have := h.dat.live g e;omega
 ·simp only [bfp,List.mem_cons,List.mem_append] at hb ⊢
  rcases hb with rfl | hb | hb
  ·left;left;rfl
  ·rcases he.grow b (by simpa [rfp] using hb) with h' | h'
   ·left;right;left;simpa [rfp] using h'
   ·right;exact h'
  ·left;right;right;exact hb
theorem bstep (X R : Nat) (vb vp vd f0 : Value) (r : M.BRcv) (w w1 : World) (h : BAt w X R vb vp vd f0 r) (hg : Glob w) (hS : Sep (bfp X R vb vp vd) glb) (v vb' vp' : Value) (y : M.B × M.Rcv) (ho : Out w w1 v y.1) (hp : Rcved w1 R vb' vp' y.2) (he : Ev w w1 (rfp R vb vp) (rfp R vb' vp')) (hv : ∀ g,v.ownBlock = some g → g ∉ rfp R vb' vp') (hok : AfterOk { r with part := y.2 }) :
  Calls Tryz.prog 245 #[.pointer (some ⟨X,0,none⟩),v] w1 (BPost w X R vb vp vd (r.after y)) := by
 obtain ⟨h1,e1⟩ := h.part' hp he
 have hX := heap_lt h.str
 refine (bafter_any X R vb' vp' vd f0 _ v y.1 w1 h1 (hg.of_only e1.only hS) (hS X (by simp [bfp])) hok).mono ?_
 rintro x w2 ⟨rfl,R',vb2,vp2,vd2,f2,h2,e2⟩
 have hn : ∀ g,v.ownBlock = some g → g ∉ bfp X R vb' vp' vd := by
  intro g e hb
  have hf := ho.fresh g e
  simp only [bfp,List.mem_cons,List.mem_append] at hb
  rcases hb with rfl | hb | hb
  ·omega
  ·exact hv g e (by simpa [rfp] using hb)
  ·have := h.dat.live g (mem_ownL.1 hb);omega
 obtain ⟨q1,q2⟩ := ho.ev e2 hn
 exact ⟨v,R',vb2,vp2,vd2,f2,rfl,q1,h2,e1.trans e2,q2⟩
theorem bput_any (X R : Nat) (vb vp vd f0 : Value) (r : M.BRcv) (a : Option Addr) (n c : Nat) (bs : List UInt8) (w : World) (h : BAt w X R vb vp vd f0 r) (hg : Glob w) (hS : Sep (bfp X R vb vp vd) glb) (hb : Bytes w a bs) (hn : bs.length = n) (hnil : a = none → c = 0) (haw : Away a (bfp X R vb vp vd)) (ho : BPutOk r bs) :
  Calls Tryz.prog 243 #[.pointer (some ⟨X,0,none⟩),.slice a n c] w (BPost w X R vb vp vd (r.put bs)) := by
 have c9 : w.cell? ⟨X,9,none⟩ = some (.bool r.over) := cell_at h.str rfl
 have c2 : w.cell? ⟨X,2,none⟩ = some (.pointer (some ⟨R,0,none⟩)) := cell_at h.str rfl
 cases hov : r.over with
 | true =>
  rw [hov] at c9
  have hr : r.put bs = ([],r) := by unfold M.BRcv.put;simp [hov]
  have HH := LH (AI h hr)
  clear h hg hS hb hn hnil haw ho hov hr
  go_enter Tryz.func243,Tryz.ntmps243
  go_wp2_with fail
  go_ret
  rw [HH.out.2]
  exact ⟨_,R,vb,vp,vd,f0,rfl,Out.nil _ _,HH.out.1,⟨Only.refl _ _,Grow.refl _ _⟩,fun g e => by simp [Value.ownBlock] at e⟩
 | false =>
  rw [hov] at c9
  have hr : r.put bs = r.after (r.part.put bs) := by unfold M.BRcv.put;simp [hov]
  obtain ⟨o1,o2⟩ := ho hov
  have HP := rput_ok R vb vp r.part a n c bs w h.part hb hn hnil (fun ad e hx => haw ad e (List.mem_cons_of_mem _ (List.mem_append_left _ hx))) o1
  have HB := fun w1 v vb' vp' q1 q2 q3 q4 => bstep X R vb vp vd f0 r w w1 h hg hS v vb' vp' (r.part.put bs) q1 q2 q3 q4 o2
  rw [hr]
  clear h hg hS hb hn hnil haw ho hov hr o1 o2
  go_enter Tryz.func243,Tryz.ntmps243
  go_wp2_with (first
   | (go_at_call 246;refine (HP).mono ?_;rintro e w1 ⟨v,vb',vp',rfl,q1,q2,q3,q4⟩)
   | (go_at_call 245;refine (HB _ v vb' vp' q1 q2 q3 q4).mono ?_;rintro e w2 ⟨v2,R',vb2,vp2,vd2,f2,rfl,p1,p2,p3,p4⟩))
  go_ret
  exact ⟨v2,R',vb2,vp2,vd2,f2,rfl,p1,p2,p3,p4⟩
theorem btick_any (X R : Nat) (vb vp vd f0 : Value) (r : M.BRcv) (w : World) (h : BAt w X R vb vp vd f0 r) (hg : Glob w) (hS : Sep (bfp X R vb vp vd) glb) (ho : BTickOk r) :
  Calls Tryz.prog 244 #[.pointer (some ⟨X,0,none⟩)] w (BPost w X R vb vp vd r.tick) := by
 have c9 : w.cell? ⟨X,9,none⟩ = some (.bool r.over) := cell_at h.str rfl
 have c2 : w.cell? ⟨X,2,none⟩ = some (.pointer (some ⟨R,0,none⟩)) := cell_at h.str rfl
 cases hov : r.over with
 | true =>
  rw [hov] at c9
  have hr : r.tick = ([],r) := by unfold M.BRcv.tick;simp [hov]
  have HH := LH (AI h hr)
  clear h hg hS ho hov hr
  go_enter Tryz.func244,Tryz.ntmps244
  go_wp2_with fail
  go_ret
  rw [HH.out.2]
  exact ⟨_,R,vb,vp,vd,f0,rfl,Out.nil _ _,HH.out.1,⟨Only.refl _ _,Grow.refl _ _⟩,fun g e => by simp [Value.ownBlock] at e⟩
 | false =>
  rw [hov] at c9
  have hr : r.tick = r.after r.part.tick := by unfold M.BRcv.tick;simp [hov]
  obtain ⟨o1,o2⟩ := ho hov
  have HP := rtick_any R vb vp r.part w h.part o1
  have HB := fun w1 v vb' vp' q1 q2 q3 q4 => bstep X R vb vp vd f0 r w w1 h hg hS v vb' vp' r.part.tick q1 q2 q3 q4 o2
  rw [hr]
  clear h hg hS ho hov hr o1 o2
  go_enter Tryz.func244,Tryz.ntmps244
  go_wp2_with (first
   | (go_at_call 247;refine (HP).mono ?_;rintro e w1 ⟨v,vb',vp',rfl,q1,q2,q3,q4⟩)
   | (go_at_call 245;refine (HB _ v vb' vp' q1 q2 q3 q4).mono ?_;rintro e w2 ⟨v2,R',vb2,vp2,vd2,f2,rfl,p1,p2,p3,p4⟩))
  go_ret
  exact ⟨v2,R',vb2,vp2,vd2,f2,rfl,p1,p2,p3,p4⟩
def Takes (w : World) (tv : Value) (tf : List Nat) : M.Taker → Prop
 | .none => tv = .nilIface ∧ tf = []
 | .one r => ∃ R vb vd,tv = .iface 293 (.pointer (some ⟨R,0,none⟩)) ∧ tf = rfp R vb vd ∧ Rcved w R vb vd r
 | .batch r => ∃ X R vb vp vd f0,tv = .iface 291 (.pointer (some ⟨X,0,none⟩)) ∧ tf = bfp X R vb vp vd ∧ BAt w X R vb vp vd f0 r
theorem Takes.live {w : World} {tv : Value} {tf : List Nat} {t : M.Taker} (h : Takes w tv tf t) : Live w tf := by
 cases t with
 | none => obtain ⟨_,rfl⟩ := h;intro b hb;simp at hb
 | one r => obtain ⟨R,vb,vd,_,rfl,h⟩ := h;exact h.live
 | batch r => obtain ⟨X,R,vb,vp,vd,f0,_,rfl,h⟩ := h;exact h.live
theorem Takes.of_only {w w' : World} {tv : Value} {tf ks : List Nat} {t : M.Taker} (h : Takes w tv tf t) (ho : Only ks w w') (hs : Sep tf ks) : Takes w' tv tf t := by
 cases t with
 | none => exact h
 | one r => obtain ⟨R,vb,vd,e,rfl,h⟩ := h;exact ⟨R,vb,vd,e,rfl,h.of_only ho hs⟩
 | batch r => obtain ⟨X,R,vb,vp,vd,f0,e,rfl,h⟩ := h;exact ⟨X,R,vb,vp,vd,f0,e,rfl,h.of_only ho hs⟩
def brdA (t : M.Board) (S : Nat) (vl tv vr : Value) : Array Value :=
 #[.pointer (some ⟨S,0,none⟩),.int .i64 t.cfg.tries,.int .i64 t.cfg.wait,.bool t.asleep,vl,tv,.int .i64 t.addr,vr]
structure Brd (w : World) (T S : Nat) (vl tv : Value) (tf : List Nat) (vr : Value) (n : Nat) (t : M.Board) (G : Nat → Nat) : Prop where
 str : w.heap[T]? = some (.cells (brdA t S vl tv vr) 84 (0,0))
 sto : Stored w S t.store
 lin : RowB w vl t.line
 tak : Takes w tv tf t.taker
 rep : ∃ xs,w.ownsRow 0 250 3 vr n xs
 gT : G T = 0
 gS : G S = 1
 gl : Tag G 2 (ownL vl)
 gt : Tag G 3 tf
 gr : Tag G 4 (ownL vr)
 ll : t.line.length ≤ 80
 ok : CfgOk t.cfg
abbrev dfp (T S : Nat) (vl : Value) (tf : List Nat) (vr : Value) : List Nat := T :: S :: (ownL vl ++ (tf ++ ownL vr))
theorem Brd.live {w : World} {T S n : Nat} {vl tv vr : Value} {tf : List Nat} {t : M.Board} {G : Nat → Nat} (h : Brd w T S vl tv tf vr n t G) : Live w (dfp T S vl tf vr) := by
 intro b hb
 simp only [dfp,List.mem_cons,List.mem_append,mem_ownL] at hb
 rcases hb with rfl | rfl | hb | hb | hb
 ·exact heap_lt h.str
 ·exact h.sto.lt
 ·exact h.lin.live b hb
 ·exact h.tak.live b hb
 ·obtain ⟨xs,hx⟩ := h.rep;exact (World.ownsRow.lt hx b hb).2
theorem Tag.not_mem {G : Nat → Nat} {i j : Nat} {f : List Nat} {b : Nat} (h : Tag G j f) (hb : G b = i) (hij : i ≠ j) : b ∉ f := fun hm => hij (hb.symm.trans (h b hm))
theorem Tag.sub {G : Nat → Nat} {j : Nat} {f f' : List Nat} (h : Tag G j f) (hs : ∀ b,b ∈ f' → b ∈ f) : Tag G j f' := fun b hb => h b (hs b hb)
theorem Tag.step {G : Nat → Nat} {w : World} {i j : Nat} {f f' : List Nat} (h : Tag G j f) (hl : Live w f) (hc : (∀ b,b ∈ f' → b ∈ f) ∨ (i = j ∧ Grow f f' w)) : Tag (retag G w.heap.size i) j f' := by
 rcases hc with hc | ⟨rfl,hc⟩
 ·exact (h.sub hc).keep (fun b hb => hl b (hc b hb))
 ·exact h.grow hc
theorem retag_old {G : Nat → Nat} {n i b : Nat} (h : b < n) : retag G n i b = G b := by unfold retag;rw [if_pos h]
theorem Brd.step {w w' : World} {T S n n' : Nat} {vl tv vr vl' tv' vr' : Value} {tf tf' : List Nat} {t t' : M.Board} {G : Nat → Nat} (h : Brd w T S vl tv tf vr n t G) (i : Nat) (str : w'.heap[T]? = some (.cells (brdA t' S vl' tv' vr') 84 (0,0))) (sto : Stored w' S t'.store) (lin : RowB w' vl' t'.line) (tak : Takes w' tv' tf' t'.taker) (rep : ∃ xs,w'.ownsRow 0 250 3 vr' n' xs) (cl : (∀ b,b ∈ ownL vl' → b ∈ ownL vl) ∨ (i = 2 ∧ Grow (ownL vl) (ownL vl') w)) (ct : (∀ b,b ∈ tf' → b ∈ tf) ∨ (i = 3 ∧ Grow tf tf' w)) (cr : (∀ b,b ∈ ownL vr' → b ∈ ownL vr) ∨ (i = 4 ∧ Grow (ownL vr) (ownL vr') w)) (ll : t'.line.length ≤ 80) (ok : CfgOk t'.cfg) :
  Brd w' T S vl' tv' tf' vr' n' t' (retag G w.heap.size i) ∧ Grow (dfp T S vl tf vr) (dfp T S vl' tf' vr') w := by
 have hlv := h.live
 refine ⟨⟨str,sto,lin,tak,rep,?_,?_,?_,?_,?_,ll,ok⟩,?_⟩
 ·rw [retag_old (heap_lt h.str)];exact h.gT
 ·rw [retag_old h.sto.lt];exact h.gS
 ·exact h.gl.step (fun b hb => hlv b (by simp [hb])) cl
 ·exact h.gt.step (fun b hb => hlv b (by simp [hb])) ct
 ·exact h.gr.step (fun b hb => hlv b (by simp [hb])) cr
 ·intro b hb
  simp only [dfp,List.mem_cons,List.mem_append] at hb ⊢
  rcases hb with rfl | rfl | hb | hb | hb
  ·simp
  ·simp
  ·rcases cl with c | ⟨_,c⟩
   ·left;simp [c b hb]
   ·rcases c b hb with h' | h'
    ·left;simp [h']
    ·right;exact h'
  ·rcases ct with c | ⟨_,c⟩
   ·left;simp [c b hb]
   ·rcases c b hb with h' | h'
    ·left;simp [h']
    ·right;exact h'
  ·rcases cr with c | ⟨_,c⟩
   ·left;simp [c b hb]
   ·rcases c b hb with h' | h'
    ·left;simp [h']
    ·right;exact h'
def Boarded (w : World) (T : Nat) (fp : List Nat) (N : Nat) (t : M.Board) : Prop :=
 ∃ S vl tv tf vr n G,n ≤ N ∧ fp = dfp T S vl tf vr ∧ Brd w T S vl tv tf vr n t G
end Go.Proofs.YtplaamfoeaaaiaaGreatDoor
