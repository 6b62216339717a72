/- A part of the proofs of the laws of lifelinetop (TopNever, TopLost, TopRoom): contracts of functions that these laws reach. No condition of its own. -/
import Derived.Test.YtplaamfoeaaaiaaGreatDoorK02
import Derived.Test.YtplaamfoeaaaiaaGreatDoorK08
import Derived.Test.YtplaamfoeaaaiaaGreatDoorK38
set_option maxRecDepth 100000
set_option maxHeartbeats 8000000
set_option linter.unusedVariables false
namespace Go.Proofs.YtplaamfoeaaaiaaGreatDoor
open Go.RowKit
theorem glb_lt {w : World} (h : Glob w) : ∀ b,b ∈ glb → b < w.heap.size := fun b hb => by
 have l3 : 3 < w.heap.size := World.block_lt_of_cell? w _ h.tabs.t16
 obtain ⟨m,hm⟩ := h.mx
 have l4 : 4 < w.heap.size := World.block_lt_of_cell? w _ hm
 simp at hb
 omega
theorem conf5 {w : World} {C : Nat} {c : M.Cfg} {tries room D : Nat} (h : w.heap[C]? = some (.cells #[.int .i64 c.tries,.int .i64 c.wait,.int .i64 tries,.int .i64 room,.slice (some ⟨D,0,none⟩) 5 5] 34 (0,0))) :
  w.cell? ⟨C,0,none⟩ = some (.int .i64 c.tries) ∧ w.cell? ⟨C,1,none⟩ = some (.int .i64 c.wait) ∧ w.cell? ⟨C,2,none⟩ = some (.int .i64 tries) ∧ w.cell? ⟨C,3,none⟩ = some (.int .i64 room) ∧ w.cell? ⟨C,4,none⟩ = some (.slice (some ⟨D,0,none⟩) 5 5) :=
 ⟨cell_at h rfl,cell_at h rfl,cell_at h rfl,cell_at h rfl,cell_at h rfl⟩
theorem hof_is (c : M.Cfg) (tries room : Nat) (ea : Option Addr) (n ec : Nat) (es : List RE) (ia : Option Addr) (m ic : Nat) (ims : List M.B) (ro : List Nat) (w : World) (hc : CfgOk c) (h1 : 1 ≤ tries) (h2 : tries ≤ 9) (h3 : 1 ≤ room) (h4 : room ≤ 4096) (he : EsRaw w ea es) (hn : es.length = n) (hen : ea = none → ec = 0) (hn8 : n ≤ 1000000) (hi : ImRaw w ro ia ims) (hm : ims.length = m) (hic : m ≤ ic) (hm8 : m ≤ 1048576) (hib : ∀ im,im ∈ ims → im.length ≤ 1048576) (hgl : Glob w) (r : Nat) (HR : ∀ wx,Only [] w wx → Calls Tryz.prog 42 #[.slice ea n ec,.slice ia m ic] wx fun e w' => e = .returned (errV r) ∧ Only [] wx w') (hgood : r = 0 → n ≤ 8 ∧ ∀ e,e ∈ es → e.Pos) :
  Calls Tryz.prog 23 #[.agg #[.int .i64 c.tries,.int .i64 c.wait,.int .i64 tries,.int .i64 room,.slice none 0 0],.slice ea n ec,.slice ia m ic] w (OfPost c tries room es ims r w) := by
 obtain ⟨i3,z0,z1,z2,z3⟩ := info_parts info39
 have HH := LH (AI hc (AI he (AI hn (AI hen (AI hi (AI hm hib))))))
 have HG := LH (AI hgl (AI HR hgood))
 have HI := LH (AI z0 (AI z1 (AI z2 z3)))
 clear hc he hn hen hi hm hib hgl HR hgood z0 z1 z2 z3
 go_enter Tryz.func23,Tryz.ntmps23
 go_upto_region 1 with fail
 obtain ⟨C,hC⟩ : ∃ C,C = w.heap.size := ⟨_,rfl⟩
 obtain ⟨w0,hw0⟩ : ∃ w0,w0 = w.alloc (.cells #[.int .i64 c.tries,.int .i64 c.wait,.int .i64 tries,.int .i64 room,.slice none 0 0] 34) := ⟨_,rfl⟩
 have hC0 : w0.heap[C]? = some (.cells #[.int .i64 c.tries,.int .i64 c.wait,.int .i64 tries,.int .i64 room,.slice none 0 0] 34 (0,0)) := by rw [hw0,hC];exact heap_alloc_new w _
 have o0 : Only [] w w0 := by rw [hw0];exact (Only.refl [] w).alloc _
 rw [← hC,← hw0]
 have a0 : w0.cell? ⟨C,0,none⟩ = some (.int .i64 c.tries) := cell_at hC0 rfl
 have a1 : w0.cell? ⟨C,1,none⟩ = some (.int .i64 c.wait) := cell_at hC0 rfl
 have a2 : w0.cell? ⟨C,2,none⟩ = some (.int .i64 tries) := cell_at hC0 rfl
 have a3 : w0.cell? ⟨C,3,none⟩ = some (.int .i64 room) := cell_at hC0 rfl
 have a4 : w0.cell? ⟨C,4,none⟩ = some (.slice none 0 0) := cell_at hC0 rfl
 have hCw : w.heap.size ≤ C := by omega
 have H0 := LH (AI hC0 (AI o0 hC))
 clear hC0 o0 hw0 hC
 go_upto_region 2 with (go_at_call 39;go_loud (refine (hfit_is c tries room w0 h1 h2 h3 h4).mono ?_;rintro e w1 ⟨D,D0,rfl,hd,hD,hD0,o1⟩;have hC1 := o1.heap H0.out.1 (by simp);have b0 : w1.cell? ⟨C,0,none⟩ = some (.int .i64 c.tries) := cell_at hC1 rfl;have b1 : w1.cell? ⟨C,1,none⟩ = some (.int .i64 c.wait) := cell_at hC1 rfl;have b2 : w1.cell? ⟨C,2,none⟩ = some (.int .i64 tries) := cell_at hC1 rfl;have b3 : w1.cell? ⟨C,3,none⟩ = some (.int .i64 room) := cell_at hC1 rfl;have b4 : w1.cell? ⟨C,4,none⟩ = some (.slice none 0 0) := cell_at hC1 rfl;have g0 : w1.frozen? ⟨C,0,none⟩ = false := free_at hC1;have g1 : w1.frozen? ⟨C,1,none⟩ = false := free_at hC1;have g2 : w1.frozen? ⟨C,2,none⟩ = false := free_at hC1;have g3 : w1.frozen? ⟨C,3,none⟩ = false := free_at hC1;have g4 : w1.frozen? ⟨C,4,none⟩ = false := free_at hC1;have H1 := LH (AI hC1 (AI hd (AI hD (AI hD0 o1))));clear hC1 hd hD hD0 o1))
 obtain ⟨w2,hw2⟩ : ∃ w2,w2 = ((((w1.setCell ⟨C,0,none⟩ (.int .i64 c.tries)).setCell ⟨C,1,none⟩ (.int .i64 c.wait)).setCell ⟨C,2,none⟩ (.int .i64 tries)).setCell ⟨C,3,none⟩ (.int .i64 room)).setCell ⟨C,4,none⟩ (.slice (some ⟨D,0,none⟩) 5 5) := ⟨_,rfl⟩
 have hC2 : w2.heap[C]? = some (.cells #[.int .i64 c.tries,.int .i64 c.wait,.int .i64 tries,.int .i64 room,.slice (some ⟨D,0,none⟩) 5 5] 34 (0,0)) := by rw [hw2];exact hs_same (hs_same (hs_same (hs_same (hs_same H1.out.1 rfl) rfl) rfl) rfl) rfl
 have o2 : Only [C] w1 w2 := by rw [hw2];exact ((((only_set _ C 0 _).trans (only_set _ C 1 _)).trans (only_set _ C 2 _)).trans (only_set _ C 3 _)).trans (only_set _ C 4 _)
 rw [← hw2]
 have hs0 := heap_lt H0.out.1
 have hd2 := H1.out.2.1.of_only o2 (fun b hb => by
  have e1 := H1.out.2.2.1
  have e2 := H1.out.2.2.2.1
  simp only [List.mem_cons,List.not_mem_nil,or_false] at hb ⊢
  omega)
 have o02 : Only [] w w2 := only_new (H0.out.2.1.trans H1.out.2.2.2.2) o2 (fun k hk => by simp at hk;omega)
 have H2 := LH (AI hC2 (AI hd2 (AI o02 (HH.out.2.1.of_only o02 (fun ad e _ => by simp)))))
 clear hC2 o2 hd2 o02 hw2 b0 b1 b2 b3 b4 g0 g1 g2 g3 g4 a0 a1 a2 a3 a4
 have b0 : w2.cell? ⟨C,0,none⟩ = some (.int .i64 c.tries) := cell_at H2.out.1 rfl
 have b1 : w2.cell? ⟨C,1,none⟩ = some (.int .i64 c.wait) := cell_at H2.out.1 rfl
 have b2 : w2.cell? ⟨C,2,none⟩ = some (.int .i64 tries) := cell_at H2.out.1 rfl
 have b3 : w2.cell? ⟨C,3,none⟩ = some (.int .i64 room) := cell_at H2.out.1 rfl
 have b4 : w2.cell? ⟨C,4,none⟩ = some (.slice (some ⟨D,0,none⟩) 5 5) := cell_at H2.out.1 rfl
 go_region_held3 (fun w' => w'.cell? ⟨C,0,none⟩ = some (.int .i64 c.tries) ∧ w'.cell? ⟨C,1,none⟩ = some (.int .i64 c.wait) ∧ w'.cell? ⟨C,2,none⟩ = some (.int .i64 tries) ∧ w'.cell? ⟨C,3,none⟩ = some (.int .i64 room) ∧ w'.cell? ⟨C,4,none⟩ = some (.slice (some ⟨D,0,none⟩) 5 5)) (first | exact ⟨b0,b1,b2,b3,b4⟩ | exact conf5 H6.out | exact conf5 H5.out.1 | exact conf5 H4.out.1 | exact conf5 H3.out.1 | go_keep) (first
  | (go_at_call 40;go_loud (refine (ringof_any room w3).mono ?_;rintro e w4 ⟨rfl,hr4,o4⟩;have H4 := LH (AI (o4.heap H3.out.1 (by simp)) (AI hr4 o4));clear hr4 o4))
  | (go_at_call 41;go_loud (refine (dof_any 1 w4).mono ?_;rintro e w5 ⟨rfl,hd5,o5⟩;have hC5 := o5.heap H4.out.1 (by simp);have H6 := LH (((Only.refl [] w5).alloc (.cells (hostMk c tries room D (.slice a3 n c3) (.slice none 0 0) (w3.heap.size + 1) w4.heap.size) 96)).heap hC5 (by simp));have H5 := LH (AI hC5 (AI hd5 o5));clear hd5 o5 hC5))
  | ((refine step_appG (by rfl) _ _ 25 (by rfl) w2.heap.size 39 i3 reZ 5 48 Tryz.underlying25 HI.out.1 HI.out.2.1 HI.out.2.2.1 HI.out.2.2.2 rfl (by omega) (.slice none 0 0) 0 [] (by rfl) (World.ownsRow_nil _ _ _ _) ea n ec (by rfl) (esCells es) (by rw [esCells_length,HH.out.2.2.1]) (fun e => ⟨HH.out.2.2.2.1 e,by rw [← HH.out.2.2.1,HH.out.2.1.nil e];rfl⟩) (fun ad e j u hj => H2.out.2.2.2.cell ad e j u hj) (esCells_one es) (by unfold maxLen;omega) (by omega) (Nat.le_refl _) ?_;intro a3 c3 w3 own3 grow3 at3;have o3 : Only [] w2 w3 := ((Only.refl [] w2).drew).trans ((only_grown grow3).weaken (by simp [Value.ownBlock]));rw [Nat.zero_add,List.nil_append] at own3;have H3 := LH (AI (o3.heap H2.out.1 (by simp)) (AI own3 o3));clear own3 grow3 at3 o3)))
 go_upto_region 3 with fail
 obtain ⟨H,hH⟩ : ∃ H,H = w5.heap.size := ⟨_,rfl⟩
 obtain ⟨w6,hw6⟩ : ∃ w6,w6 = w5.alloc (.cells (hostMk c tries room D (.slice a3 n c3) (.slice none 0 0) (w3.heap.size + 1) w4.heap.size) 96) := ⟨_,rfl⟩
 have hH6 : w6.heap[H]? = some (.cells (hostMk c tries room D (.slice a3 n c3) (.slice none 0 0) (w3.heap.size + 1) w4.heap.size) 96 (0,0)) := by rw [hw6,hH];exact heap_alloc_new w5 _
 have o56 : Only [] w5 w6 := by rw [hw6];exact (Only.refl [] w5).alloc _
 have o06 : Only [] w w6 := (((H2.out.2.2.1.trans H3.out.2.2).trans H4.out.2.2).trans H5.out.2.2).trans o56
 have hHw : w.heap.size ≤ H := by rw [hH];exact (((H2.out.2.2.1.trans H3.out.2.2).trans H4.out.2.2).trans H5.out.2.2).size
 have hw6' : w5.alloc (.cells #[.int .i64 c.tries,.int .i64 c.wait,.int .i64 tries,.int .i64 room,.slice (some ⟨D,0,none⟩) 5 5,.slice a3 n c3,.slice none 0 0,.int .i64 0,.int .i64 0,.int .i64 0,.pointer none,.nilIface,.pointer none,.int .i64 0,.pointer (some ⟨w3.heap.size + 1,0,none⟩),.pointer (some ⟨w4.heap.size,0,none⟩),.slice none 0 0,.slice none 0 0,.complex .f64 0 0,.nilIface] 96) = w6 := hw6.symm
 rw [hw6',← hH]
 have hsz : w6.heap.size = w5.heap.size + 1 := by rw [hw6];simp
 have H7 := LH (AI hH6 (AI o56 (AI o06 hH)))
 clear hH6 o56 o06 hw6 hw6' hH b0 b1 b2 b3 b4
 have hst : MakeLoop w6 H c tries room D (.slice a3 n c3) (w3.heap.size + 1) w4.heap.size ims 0 w6 := ⟨.slice none 0 0,[],H7.out.1,⟨⟨[],World.ownsRow_nil _ _ _ _,fun j p hj => by simp at hj⟩,fun b hb => by simp at hb,fun g e => by simp [Value.ownBlock] at e⟩,Only.refl _ _⟩
 have hs6 : w6.heap.size = H + 1 := by rw [hsz,H7.out.2.2.2]
 have HST := LH hst
 have HS := LH hs6
 clear hst hs6 hsz
 go_wp2_with fail
 go_loopw [26] (fun s26 wr => ∃ k : Nat,k ≤ m ∧ s26 = .int .i64 k ∧ MakeLoop w6 H c tries room D (.slice a3 n c3) (w3.heap.size + 1) w4.heap.size ims k wr) (fun s26 _ => m - (intOf s26).toNat)
 case atStart => exact ⟨0,Nat.zero_le _,rfl,HST.out⟩
 case round =>
  obtain ⟨k,hk,rfl,vi,ro',hHr,hP,ho⟩ := hrel
  by_cases hlt : k < m
  ·obtain ⟨im,him⟩ : ∃ im,ims[k]? = some im := ⟨_,List.getElem?_eq_getElem (by rw [HH.out.2.2.2.2.2.1];exact hlt)⟩
   have o0r : Only [] w wr := only_new H7.out.2.2.1 ho (fun b hb => by simp at hb;omega)
   have hir := HH.out.2.2.2.2.1.of_only o0r (fun b _ => by simp)
   obtain ⟨ad,hia⟩ : ∃ ad,ia = some ad := by
    cases hia : ia with
    | none => rw [hir.nil hia] at him;simp at him
    | some ad => exact ⟨ad,rfl⟩
   obtain ⟨u,hcu,au,cu,rfl,bu,cu1,cu2,cu3,cu4⟩ := hir.cell ad hia k im him
   subst hia
   obtain ⟨B,off,sp⟩ := ad
   have hsp : sp = none := by
    obtain ⟨im0,h0⟩ : ∃ im0,ims[0]? = some im0 := ⟨_,List.getElem?_eq_getElem (by rw [HH.out.2.2.2.2.2.1];omega)⟩
    obtain ⟨u0,hc0,_⟩ := hir.cell ⟨B,off,sp⟩ rfl 0 im0 h0
    simpa [Addr.add] using spot_of_cell hc0
   subst hsp
   rw [Addr.add_lit] at hcu
   obtain ⟨us0,hus0,hus1⟩ := hP.own
   have hlk : (ims.take k).length = k := by rw [List.length_take,HH.out.2.2.2.2.2.1];omega
   rw [hlk] at hus0
   obtain ⟨av,cv,rfl⟩ := own_slice hus0
   have c6 : wr.cell? ⟨H,6,none⟩ = some (.slice av k cv) := cell_at hHr rfl
   have f6 : wr.frozen? ⟨H,6,none⟩ = false := free_at hHr
   have hHl := heap_lt hHr
   have hHn : H ∉ ownL (.slice av k cv) := fun hm => by have := (hus0.lt H (mem_ownL.1 hm)).1;omega
   have hil : im.length ≤ 1048576 := HH.out.2.2.2.2.2.2 im (List.mem_of_getElem? him)
   obtain ⟨i22,y0,y1,y2,y3⟩ := info_parts Tryz.info22
   have hk6 : k ≤ 1048576 := by omega
   have HX := LH (AI him (AI o0r (AI bu (AI cu3 (AI hus0 (AI hus1 (AI hHr (AI hP (AI ho hlk)))))))))
   have HY := LH (AI y0 (AI y1 (AI y2 y3)))
   have HN := LH hHn
   clear hHn him o0r bu cu3 hus0 hus1 hHr hP ho hlk y0 y1 y2 y3 hir cu4
   go_upto_region 6 with fail
   go_region_law (first
    | (refine step_appAt (by rfl) _ _ (by rfl) wr.heap.size (.slice none 0 0) 0 [] (by rfl) (World.ownsRow_nil _ _ _ _) au im.length cu im (by rfl) (HX.out.2.2.1.of_only ((Only.refl [] wr).drew) (.inr (fun ad e => by simp))) rfl HX.out.2.2.2.1 (by omega) (Nat.le_refl _) ?_;intro a7 c7 w7 own7 grow7 at7;have o7 : Only [] wr w7 := ((Only.refl [] wr).drew).trans ((only_grown grow7).weaken (by simp [Value.ownBlock]));rw [Nat.zero_add,List.nil_append] at own7;have c67 : w7.cell? ⟨H,6,none⟩ = some (.slice av k cv) := o7.cell c6 (by simp);have hs7 := o7.size;have hH7 : H < w7.heap.size := Nat.lt_of_lt_of_le hHl hs7)
    | (refine step_appG (by rfl) _ _ 26 (by rfl) (H + 1) 22 i22 (.slice none 0 0) 1 24 Tryz.underlying26 HY.out.1 HY.out.2.1 HY.out.2.2.1 HY.out.2.2.2 rfl (by omega) (.slice av k cv) k us0 (by rfl) ((ownsRow_only HX.out.2.2.2.2.1 o7 (by simp)).alloc _) (some ⟨w7.heap.size,0,none⟩) 1 1 (by rfl) [.slice a7 im.length c7] rfl (fun e => by cases e) (fun ad e j u hj => by cases e;exact World.news_of_block (cs := #[.slice a7 im.length c7]) (t := 22) (fr := (0,0)) (heap_alloc_new w7 _) j u hj) (by simp [Value.oneCell']) (by unfold maxLen;omega) (by omega) (by simp;omega) ?_;intro a8 c8 w8 own8 grow8 at8;have h8 := (((Only.refl _ w7).alloc _).trans (only_grown grow8)).heap (o7.heap HX.out.2.2.2.2.2.2.1 (by simp)) HN.out;have c68 : w8.cell? ⟨H,6,none⟩ = some (.slice av k cv) := cell_at h8 rfl;have f68 : w8.frozen? ⟨H,6,none⟩ = false := free_at h8))
   all_goals go_wp2_with fail
   all_goals exact ⟨⟨k + 1,by omega,by go_num,MakeLoop.next HS.out HX.out.1 HX.out.2.2.2.2.2.2.2.2.2 HX.out.2.2.2.2.2.2.1 HX.out.2.2.2.2.2.2.2.1 HX.out.2.2.2.2.2.2.2.2.1 HX.out.2.2.2.2.1 HX.out.2.2.2.2.2.1 own7 o7 own8 grow8 at8⟩,by simp [intOf];omega⟩
  ·obtain rfl : k = m := by omega
   have kl : ¬ ((k : Int) < (k : Int)) := by omega
   have htk : ims.take k = ims := by rw [← HH.out.2.2.2.2.2.1,List.take_length]
   rw [htk] at hP
   have o0r : Only [] w wr := only_new H7.out.2.2.1 ho (fun b hb => by simp at hb;omega)
   have HX := LH (AI hHr (AI hP (AI ho o0r)))
   have hRr := HG.out.2.1 wr o0r
   clear hHr hP ho o0r htk
   obtain ⟨q1,q2⟩ := H4.out.2.1.lt
   have q3 := heap_lt H5.out.2.1.str
   have q4 : w5.heap.size ≤ H := Nat.le_of_eq H7.out.2.2.2.symm
   have q7 := H5.out.2.2.size
   by_cases hr : r = 0
   ·subst hr
    rw [errV_zero] at hRr
    have hnn := fun w => neq_nn w
    have HRr := LH hRr
    clear hRr
    go_upto_region 12 with (go_at_call 42;go_loud (refine HRr.out.mono ?_;rintro e w9 ⟨rfl,o9⟩))
    have hD9 := ((H5.out.2.1.of_only H7.out.2.1 (by simp) (fun g e => by simp)).of_only HX.out.2.2.1 (by simp;omega) (fun g e => by simp [Value.ownBlock] at e)).of_only o9 (by simp) (fun g e => by simp)
    have q8 := heap_lt H2.out.2.1.arm
    have q9 := H3.out.2.2.size
    have q10 := H4.out.2.2.size
    have o69 : Only [H] w6 w9 := HX.out.2.2.1.trans (o9.weaken (by simp))
    have o39 : Only [] w3 w6 := ((H4.out.2.2.trans H5.out.2.2).trans H7.out.2.1)
    have hC9 : w9.heap[C]? = _ := o69.heap (H7.out.2.1.heap (H5.out.2.2.heap H4.out.1 (by simp)) (by simp)) (by have := heap_lt H2.out.1;simp;omega)
    have hd9 : DlgAt w9 D D0 := (H2.out.2.1.of_only (H3.out.2.2.trans o39) (fun b hb => by simp)).of_only o69 (fun b hb => by
     have e1 := heap_lt H2.out.2.1.arm
     have e2 := H2.out.2.1.lt
     simp only [List.mem_cons,List.not_mem_nil,or_false] at hb ⊢
     omega)
    have c4 : w9.cell? ⟨C,4,none⟩ = some (.slice (some ⟨D,0,none⟩) 5 5) := cell_at hC9 rfl
    have HPO := LH (pof_any D D0 w9 hd9)
    have H9 := LH (AI (o9.heap HX.out.1 (by simp)) (AI hD9 (AI o69 (AI o39 o9))))
    clear hD9 o69 o39 hC9 hd9 o9
    go_upto_region 13 with (go_at_call 43;go_loud (refine HPO.out.mono ?_;rintro e w10 ⟨P,v,fp,rfl,hv,hL,hfp,hvf,o10⟩))
    obtain ⟨a13,c13,rfl,b13,_,n13,lo13,_,_⟩ := hv.read
    have hH10 := o10.heap H9.out.1 (by simp)
    have c10 : w10.cell? ⟨H,10,none⟩ = some (.pointer none) := cell_at hH10 rfl
    have f10 : w10.frozen? ⟨H,10,none⟩ = false := free_at hH10
    have H10 := LH (AI hH10 (AI hL (AI hfp (AI b13 (AI n13 (AI lo13 o10))))))
    clear hH10 hL hfp hvf b13 n13 lo13 o10 hv c4
    go_upto_region 14 with fail
    obtain ⟨w11,hw11⟩ : ∃ w11,w11 = w10.setCell ⟨H,10,none⟩ (.pointer (some ⟨P,0,none⟩)) := ⟨_,rfl⟩
    rw [← hw11]
    obtain ⟨h9,hD9,o69,o39,o9⟩ := H9.out
    obtain ⟨hH10,hL,hfp,b13,n13,lo13,o10⟩ := H10.out
    have hH9 := heap_lt h9
    have o11 : Only [H] w10 w11 := by rw [hw11];exact only_set w10 H 10 _
    have hH11 : w11.heap[H]? = _ := (hw11 ▸ hs_same hH10 rfl : w11.heap[H]? = some (.cells ((hostMk c tries room D (.slice a3 n c3) vi (w3.heap.size + 1) w4.heap.size).setIfInBounds 10 (.pointer (some ⟨P,0,none⟩))) 96 (0,0)))
    have o911 : Only [H] w9 w11 := (o10.weaken (by simp)).trans o11
    have o311 : Only [H] w3 w11 := ((o39.weaken (by simp)).trans o69).trans o911
    have own11 := ownsRow_only H3.out.2.1 o311 (fun g e => by have := (H3.out.2.1.lt g e).2;simp;omega)
    have hP11 := HX.out.2.1.of_only ((o9.weaken (by simp)).trans o911) (fun b hb => by simp at hb;omega)
    have hL11 := hL.of_only o11 (fun b hb => by
     rcases hfp b hb with h | h
     ·simp;omega
     ·simp;omega)
    have o45 : Only [H] w4 w11 := (((H5.out.2.2.trans H7.out.2.1).weaken (by simp)).trans o69).trans o911
    have hR11 := H4.out.2.1.of_only o45 (by simp;omega) (by simp;omega)
    rw [capOf_in room h3 h4] at hR11
    have hD11 := hD9.of_only o911 (by simp;omega) (fun g e => by simp [Value.ownBlock] at e)
    have s0 := H0.out.2.1.size
    have s1 := H1.out.2.2.2.1
    obtain ⟨us,hus,_⟩ := HX.out.2.1.own
    have s9 := o9.size
    obtain ⟨fpH,hI,hfr⟩ := host_make (N0 := w.heap.size) (B2 := w2.heap.size) (K := w9.heap.size) hH11 own11 HH.out.2.2.1 (HG.out.2.2 trivial).1 (HG.out.2.2 trivial).2 hP11 hL11 hR11 hD11 HH.out.1 (by omega) q8 (fun g e => (H3.out.2.1.lt g e).2) (by omega) (by omega) (by omega) hH9 (fun g e => Nat.lt_of_lt_of_le (hus.lt g e).2 s9) (fun b hb => Nat.lt_of_lt_of_le (HX.out.2.1.lo b hb).2 s9) hfp q9
    have o011 : Only [] w w11 := only_new (HX.out.2.2.2.trans o9) o911 (fun b hb => by simp at hb;omega)
    have gs11 : GS w11 fpH := ⟨HG.out.1.of_none o011,fun b hb hm => by have h1 := glb_lt HG.out.1 b hm;have h2 := hfr b hb;omega⟩
    have hb11 := b13.of_only o11 (.inr (fun ad e => by have := lo13 ad e;simp;omega))
    have H11 := LH (AI hI (AI hfr (AI o011 (AI gs11 (AI hb11 n13)))))
    clear hw11 h9 hD9 o69 o39 o9 hH10 hL hfp b13 n13 lo13 o10 o11 hH11 o911 o311 own11 hP11 hL11 o45 hR11 hD11 s0 s1 hus s9 hI hfr o011 gs11 hb11 c10 f10
    go_wp2_with (first
     | (go_at_call 44;go_loud (refine (hsend_is a13 1 c13 [13] H fpH _ w11 H11.out.1 H11.out.2.2.2.2.1 rfl H11.out.2.2.2.2.2 (by show 0 + 1 ≤ 1000000;omega)).mono ?_;rintro e w12 ⟨rfl,f12,h12,e12⟩;have H12 := LH (AI h12 e12);clear h12 e12))
     | (go_at_call 45;go_loud (refine (hwoken_is H f12 _ w12 H12.out.1 (H11.out.2.2.2.1.ev H12.out.2).glob (H11.out.2.2.2.1.ev H12.out.2).sep (.inl rfl)).mono ?_;rintro e w13 ⟨rfl,f13,h13,e13⟩;have H13 := LH (AI h13 e13);clear h13 e13)))
    go_ret
    have e13 := H12.out.2.trans H13.out.2
    have hs11 := H11.out.2.2.1.size
    refine ⟨H,rfl,only_new H11.out.2.2.1 e13.only H11.out.2.1,hHw,fun h => absurd rfl h,fun _ => ⟨f13,?_,fun b hb => ?_⟩⟩
    ·have h13 := H13.out.1
     rw [woken_zero _ rfl] at h13
     exact h13
    ·rcases e13.grow b hb with h | h
     ·exact H11.out.2.1 b h
     ·omega
   ·rw [errV_pos (by omega)] at hRr
    have hnn := fun w => neq_in w 57 (.int .i64 r)
    have HRr := LH hRr
    have hr0 : 0 < r := by omega
    clear hRr hr
    go_upto_region 10 with (go_at_call 42;go_loud (refine HRr.out.mono ?_;rintro e w9 ⟨rfl,o9⟩))
    have hH9 := o9.heap HX.out.1 (by simp)
    have hD9 := ((H5.out.2.1.of_only H7.out.2.1 (by simp) (fun g e => by simp)).of_only HX.out.2.2.1 (by simp;omega) (fun g e => by simp [Value.ownBlock] at e)).of_only o9 (by simp) (fun g e => by simp)
    have HE := LH (hend_raw (.iface 57 (.int .i64 r)) (.inr ⟨r,rfl⟩) _ _ _ _ _ _ H _ _ _ _ _ _ _ _ _ _ _ _ _ _ _ _ _ _ _ w9 hH9 hD9 (by omega) (fun g e => by simp [Value.ownBlock] at e))
    have HO := LH (HX.out.2.2.2.trans o9)
    clear hH9 hD9 o9
    go_wp2_with (go_at_call 31;go_loud (refine HE.out.mono ?_;rintro e w10 ⟨rfl,hH10,_,o10⟩;have H10 := LH (AI hH10 o10);clear hH10 o10))
    go_ret
    refine ⟨H,rfl,only_new HO.out H10.out.2 (fun b hb => by simp only [List.mem_cons,List.not_mem_nil,or_false] at hb;have := ((H2.out.2.2.1.trans H3.out.2.2).trans H4.out.2.2).size;omega),hHw,fun _ => ?_,fun h => by omega⟩
    have h10 := H10.out.1
    rw [← errV_pos hr0] at h10
    exact ⟨_,_,_,_,_,_,_,_,_,_,_,_,_,_,_,_,_,h10⟩
def roomE (size way : Int) : Int := if way = 3 ∨ size < 0 ∨ 8192 < size then max 0 (min size 8192) else (size + 127) / 128 * 128
theorem roomE_bd (size way : Int) : 0 ≤ roomE size way ∧ roomE size way ≤ 8192 := by
 unfold roomE
 split <;> omega
def RE.room (e : RE) : Int := roomE e.size e.way
def chkRange (e : RE) : Bool := decide (e.addr < 0 ∨ e.size < 1 ∨ 8192 < e.size ∨ 16384 - e.room < e.addr ∨ e.way < 0 ∨ 3 < e.way)
def chkOver (e x : RE) : Bool := decide (e.addr < x.addr + x.room ∧ x.addr < e.addr + e.room)
def chkName (e x : RE) : Bool := decide (x.name = e.name)
def chk1 (es : List RE) (k : Nat) (e : RE) : Nat :=
 if nameOk e.name = false then 3 else if (es.take k).any (chkName e) = true then 4 else if chkRange e = true then 5 else if (es.take k).any (chkOver e) = true then 6 else 0
def chkAt (es : List RE) (k : Nat) : Nat := match es[k]? with
 | none => 0
 | some e => chk1 es k e
def checkE (es : List RE) : Nat :=
 if es.length = 0 ∨ 8 < es.length then 7 else match (List.range es.length).find? (fun k => chkAt es k != 0) with
  | none => 0
  | some k => chkAt es k
theorem checkE_len (es : List RE) (h : es.length = 0 ∨ 8 < es.length) : checkE es = 7 := by unfold checkE;rw [if_pos h]
theorem checkE_none (es : List RE) (h0 : 0 < es.length) (h8 : es.length ≤ 8) (h : ∀ j,j < es.length → chkAt es j = 0) : checkE es = 0 := by
 unfold checkE
 rw [if_neg (by omega)]
 have : (List.range es.length).find? (fun k => chkAt es k != 0) = none := by
  rw [List.find?_eq_none]
  intro x hx
  have := h x (by simpa using hx)
  simp [this]
 rw [this]
theorem checkE_some (es : List RE) (h8 : es.length ≤ 8) (k v : Nat) (hk : k < es.length) (h : ∀ j,j < k → chkAt es j = 0) (hv : chkAt es k = v) (hv0 : v ≠ 0) : checkE es = v := by
 unfold checkE
 rw [if_neg (by omega)]
 have : (List.range es.length).find? (fun k => chkAt es k != 0) = some k := by
  rw [List.find?_range_eq_some]
  refine ⟨by simp [hv,hv0],by simpa using hk,fun j hj => by simp [h j hj]⟩
 rw [this]
 exact hv
theorem room_is (e : RE) (w : World) :
  Calls Tryz.prog 35 #[.agg #[.string e.name,.int .i64 e.addr,.int .i64 e.size,.int .u32 e.print,.int .i64 e.way]] w fun x w' => x = .returned (.int .i64 e.room) ∧ Only [] w w' := by
 obtain ⟨nm,addr,size,print,way⟩ := e
 simp only [RE.room]
 by_cases h3 : way = 3
 ·subst h3
  have hr : roomE size 3 = max 0 (min size 8192) := by unfold roomE;rw [if_pos (.inl rfl)]
  rw [hr]
  go_enter Tryz.func35,Tryz.ntmps35
  go_wp2_with fail
  go_ret
  exact ⟨rfl,(Only.refl [] w).alloc _⟩
 ·by_cases h0 : size < 0
  ·have hr : roomE size way = max 0 (min size 8192) := by unfold roomE;rw [if_pos (.inr (.inl h0))]
   rw [hr]
   have hd : (way == 3) = false := by simpa using h3
   clear h3
   go_enter Tryz.func35,Tryz.ntmps35
   go_wp2_with fail
   go_ret
   exact ⟨rfl,(Only.refl [] w).alloc _⟩
  ·by_cases h8 : 8192 < size
   ·have hr : roomE size way = max 0 (min size 8192) := by unfold roomE;rw [if_pos (.inr (.inr h8))]
    rw [hr]
    have hd : (way == 3) = false := by simpa using h3
    clear h3
    go_enter Tryz.func35,Tryz.ntmps35
    go_wp2_with fail
    go_ret
    exact ⟨rfl,(Only.refl [] w).alloc _⟩
   ·have hr : roomE size way = (size + 127) / 128 * 128 := by unfold roomE;rw [if_neg (by omega)]
    have hr2 : (size + 127) / 128 * 128 = (size + 128 - 1) / 128 * 128 := by omega
    rw [hr,hr2]
    have hd : (way == 3) = false := by simpa using h3
    have g0 : 0 ≤ size := by omega
    have g8 : size ≤ 8192 := by omega
    clear h3 hr hr2
    go_enter Tryz.func35,Tryz.ntmps35
    go_wp2_with fail
    go_ret
    exact ⟨rfl,(Only.refl [] w).alloc _⟩
end Go.Proofs.YtplaamfoeaaaiaaGreatDoor
