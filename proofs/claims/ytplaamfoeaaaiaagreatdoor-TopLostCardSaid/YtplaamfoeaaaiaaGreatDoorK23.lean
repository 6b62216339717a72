/- A part of the proofs of the laws of lifelinetop (TopNever, TopLost, TopRoom): contracts of functions that these laws reach. No condition of its own. -/
import Derived.Test.YtplaamfoeaaaiaaGreatDoorK02
import Derived.Test.YtplaamfoeaaaiaaGreatDoorK22
import Derived.Deep.RegionHeld3
import Derived.Deep.AppendLies
import Derived.Deep.CutBlock
import Derived.Lib.ConvBytes
import Derived.StillTailTactics
import Derived.Deep.QuietTactic
import Derived.BigQuiet
import Derived.Laws.AppendOwnNone
set_option maxRecDepth 100000
set_option maxHeartbeats 8000000
set_option linter.unusedVariables false
namespace Go.Proofs.YtplaamfoeaaaiaaGreatDoor
open Go.RowKit
theorem info9s : (Tryz.prog.info? 9).map (fun i => (i.zero,i.size,i.bytes)) = some (some (.string ⟨#[]⟩),1,16) := by kernel_rfl
theorem step_new (w : World) (x0 x1 x2 x3 x4 x5 x6 : Value) : (w.alloc (.cells #[x0,x1,x2,x3,x4,x5,x6] 192)).heap[w.heap.size]? = some (.cells #[x0,x1,x2,x3,x4,x5,x6] 192 (0,0)) := heap_alloc_new w _
theorem plain_arrow : Plain ⟨#[61,62,32]⟩ := by
 intro k h
 have h3 : k < 3 := h
 match k,h3 with
 | 0,_ => exact (by unfold plainC;decide : plainC 61)
 | 1,_ => exact (by unfold plainC;decide : plainC 62)
 | 2,_ => exact (by unfold plainC;decide : plainC 32)
theorem new0 (w : World) (a b : Obj) : ((w.alloc a).alloc b).heap[w.heap.size]? = some a := ((Only.refl [] (w.alloc a)).alloc b).heap (heap_alloc_new w a) (by simp)
theorem new1 (w : World) (a b : Obj) : ((w.alloc a).alloc b).heap[w.heap.size + 1]? = some b := by
 have h := heap_alloc_new (w.alloc a) b
 rw [show (w.alloc a).heap.size = w.heap.size + 1 by simp] at h
 exact h
theorem step_cells {w : World} {N : Nat} {x0 x1 x2 x3 x4 x5 x6 : Value} (h : w.heap[N]? = some (.cells #[x0,x1,x2,x3,x4,x5,x6] 192 (0,0))) :
  w.cell? ⟨N,0,none⟩ = some x0 ∧ w.cell? ⟨N,1,none⟩ = some x1 ∧ w.cell? ⟨N,3,none⟩ = some x3 ∧ w.cell? ⟨N,4,none⟩ = some x4 ∧ w.cell? ⟨N,5,none⟩ = some x5 :=
 ⟨cell_at h rfl,cell_at h rfl,cell_at h rfl,cell_at h rfl,cell_at h rfl⟩
theorem check_dlg (w : World) (D D0 : Nat) (h : DlgAt w D D0) : Calls Tryz.prog 64 #[.slice (some ⟨D,0,none⟩) 5 5] w fun e w' => e = .returned (.tuple #[.int .i64 0,.nilIface]) ∧ Only [] w w' := by
 obtain ⟨i4,e0,e1,e2,e3⟩ := info_parts info9s
 have H0 := LH (AI h (Only.refl [] w))
 have HI := LH (AI e0 (AI e1 (AI e2 e3)))
 clear h e0 e1 e2 e3
 go_enter Tryz.func64,Tryz.ntmps64
 go_wp2_with fail
 refine wp_loop_rounds 6 ?_
 obtain ⟨a0,a1,a2,a3,a4,a5,a6⟩ := H0.out.1.s0
 show Code.wp _ _ (Exit.then (Code.rounds _ _ _ 5) _) _ _
 go_upto_region 6 with fail
 obtain ⟨N,hN⟩ : ∃ N,N = w.heap.size := ⟨_,rfl⟩
 generalize hwa : World.alloc _ _ = wa
 have HA := LH (show wa.heap[N]? = some (.cells #[.string ⟨#[97]⟩,.int .i64 0,.string ⟨#[13]⟩,.slice none 0 0,.int .i64 0,.string ⟨#[]⟩,.int .i64 0] 192 (0,0)) ∧ DlgAt wa D D0 ∧ Only [] w wa by subst hwa hN;exact ⟨step_new _ _ _ _ _ _ _ _,H0.out.1.of_none ((Only.refl [] _).alloc _),H0.out.2.alloc _⟩)
 rw [← hN]
 clear hwa hN a0 a1 a2 a3 a4 a5 a6
 obtain ⟨b0,b1,b3,b4,b5⟩ := step_cells HA.out.1
 go_upto_region 9 with (go_at_call 86;refine (find_a _ D D0 5 HA.out.2.1).mono ?_;rintro e w1 ⟨rfl,ho1⟩;have HB := LH ho1;clear ho1)
 obtain ⟨c0,c1,c3,c4,c5⟩ := step_cells (HB.out.heap HA.out.1 (by simp))
 clear b0 b1 b3 b4 b5
 go_wp2_with fail
 refine wp_loop_rounds 1 ?_
 show Code.wp _ _ (Exit.then (Code.rounds _ _ _ 0) _) _ _
 go_wp2_with fail
 have H1 := LH (show DlgAt w1 D D0 ∧ Only [] w w1 from ⟨HA.out.2.1.of_none HB.out,HA.out.2.2.trans HB.out⟩)
 clear HA HB c0 c1 c3 c4 c5
 obtain ⟨a0,a1,a2,a3,a4,a5,a6⟩ := H1.out.1.s1
 show Code.wp _ _ (Exit.then (Code.rounds _ _ _ 4) _) _ _
 go_upto_region 6 with fail
 obtain ⟨N,hN⟩ : ∃ N,N = w1.heap.size := ⟨_,rfl⟩
 generalize hwa : World.alloc _ _ = wa
 have HA := LH (show wa.heap[N]? = some (.cells #[.string ⟨#[]⟩,.int .i64 1,.string ⟨#[]⟩,.slice (some ⟨D0,0,none⟩) 1 1,.int .i64 8,.string ⟨#[99]⟩,.int .i64 0] 192 (0,0)) ∧ DlgAt wa D D0 ∧ Only [] w wa by subst hwa hN;exact ⟨step_new _ _ _ _ _ _ _ _,H1.out.1.of_none ((Only.refl [] _).alloc _),H1.out.2.alloc _⟩)
 rw [← hN]
 clear hwa hN a0 a1 a2 a3 a4 a5 a6
 obtain ⟨b0,b1,b3,b4,b5⟩ := step_cells HA.out.1
 go_upto_region 11 with (at_builtin;refine wpList_append_lies _ rfl (.tmp 56) (.tmp 59) 71 rfl wa.heap.size 9 i4 (.string ⟨#[]⟩) 1 16 Tryz.underlying71 HI.out.1 HI.out.2.1 HI.out.2.2.1 HI.out.2.2.2 rfl (by omega) (.slice none 0 0) 0 [] rfl (World.ownsRow_nil _ _ _ _) ⟨wa.heap.size,0,none⟩ 1 1 [.string ⟨#[99]⟩] rfl rfl (World.news_of_block (cs := #[.string ⟨#[99]⟩]) (t := 9) (fr := (0,0)) (heap_alloc_new wa _)) (by simp [Value.oneCell']) (by omega) (by unfold maxLen;omega) (by omega) (by simp) (wa.heap.size + 1) (by simp) ?_;intro g6 c6 w8 own8 grow8 at8 lt8)
 have HB := LH (show Only [] wa w8 ∧ w8.ownsRow wa.heap.size 9 1 (.slice (some ⟨g6,0,none⟩) 1 c6) 1 [.string ⟨#[99]⟩] from ⟨(((Only.refl [] wa).alloc _).trans ((only_grown grow8).weaken (by simp [Value.ownBlock]))),own8⟩)
 clear own8 grow8 at8 lt8 b0 b1 b3 b4 b5
 obtain ⟨c0,c1,c3,c4,c5⟩ := step_cells (HB.out.1.heap HA.out.1 (by simp))
 obtain ⟨d0,d1⟩ := (HA.out.2.1.of_none HB.out.1).a0
 go_upto_region 14 with fail
 refine wp_loop_rounds 2 ?_
 show Code.wp _ _ (Exit.then (Code.rounds _ _ _ 1) _) _ _
 go_upto_block 3 with fail
 go_cut [6,7] (fun s6 s7 wx => ∃ g c g7 c7,s6 = .slice (some ⟨g,0,none⟩) 2 c ∧ s7 = .slice (some ⟨g7,0,none⟩) 1 c7 ∧ wx.ownsRow 0 9 1 s6 2 [.string ⟨#[99]⟩,.string ⟨#[98]⟩] ∧ wx.ownsRow 0 9 1 s7 1 [.string ⟨#[61,62,32]⟩] ∧ Only [] wa wx)
 case first =>
  go_upto_region 16 with fail
  obtain ⟨M,hM⟩ : ∃ M,M = w8.heap.size := ⟨_,rfl⟩
  generalize hw9 : World.alloc _ _ = w9
  have H9 := LH (show Only [] wa w9 ∧ w9.ownsRow wa.heap.size 9 1 (.slice (some ⟨g6,0,none⟩) 1 c6) 1 [.string ⟨#[99]⟩] ∧ w9.heap[M]? = some (.cells #[.string ⟨#[61,62,32]⟩,.string ⟨#[98]⟩] 194 (0,0)) ∧ wa.heap.size ≤ w9.heap.size ∧ g6 < M by
   subst hw9 hM
   exact ⟨HB.out.1.alloc _,HB.out.2.alloc _,heap_alloc_new w8 _,((Only.refl [] w8).alloc _ |> fun h => Nat.le_trans HB.out.1.size h.size),(HB.out.2.lt g6 rfl).2⟩)
  rw [← hM]
  clear hw9 hM c0 c1 c3 c4 c5 d0 d1
  have m0 : w9.cell? ⟨M,0,none⟩ = some (.string ⟨#[61,62,32]⟩) := cell_at H9.out.2.2.1 rfl
  have m1 : w9.cell? ⟨M,1,none⟩ = some (.string ⟨#[98]⟩) := cell_at H9.out.2.2.1 rfl
  have hs9 := H9.out.2.2.2.1
  have hM6 := H9.out.2.2.2.2
  have h6a : wa.heap.size ≤ g6 := (H9.out.2.1.lt g6 rfl).1
  have h69 : g6 < w9.heap.size := (H9.out.2.1.lt g6 rfl).2
  have hM9 : M < w9.heap.size := heap_lt H9.out.2.2.1
  go_region_held3 (fun w' => w'.cell? ⟨M,0,none⟩ = some (.string ⟨#[61,62,32]⟩) ∧ w'.cell? ⟨M,1,none⟩ = some (.string ⟨#[98]⟩)) (first | exact ⟨m0,m1⟩ | go_keep) (first
   | (refine step_append_lies _ (by rfl) (.tmp 76) (.tmp 79) 71 (by rfl) wa.heap.size 9 i4 _ 1 16 Tryz.underlying71 HI.out.1 HI.out.2.1 HI.out.2.2.1 HI.out.2.2.2 rfl (by omega) (.slice none 0 0) 0 [] (by rfl) (World.ownsRow_nil _ _ _ _) _ 1 1 [.string ⟨#[61,62,32]⟩] rfl (by rfl) (World.news_of_block (cs := #[.string ⟨#[61,62,32]⟩]) (t := 9) (fr := (0,0)) (by first | exact heap_alloc_new _ _ | exact (only_grown grow2).heap (new0 w9 _ _) (by simp [Value.ownBlock];omega) | exact (only_grown grow2).heap (new1 w9 _ _) (by simp [Value.ownBlock];omega))) (by simp [Value.oneCell']) (by omega) (by unfold maxLen;omega) (by omega) (by have := O2.size;simp;omega) _ rfl ?_;intro g7 c7 w7 own7 grow7 at7 lt7;have O27 : Only [] w2 w7 := (by first | exact ((Only.refl [] w2).alloc _).trans ((only_grown grow7).weaken (by simp [Value.ownBlock])) | exact ((only_grown grow7).weaken (by simp [Value.ownBlock])));have m07 := O27.cell m02 (by simp);have m17 := O27.cell m12 (by simp))
   | (go_loud (refine step_append_lies _ (by rfl) (.tmp 71) (.tmp 74) 71 (by rfl) wa.heap.size 9 i4 _ 1 16 Tryz.underlying71 HI.out.1 HI.out.2.1 HI.out.2.2.1 HI.out.2.2.2 rfl (by omega) (.slice (some ⟨g6,0,none⟩) 1 c6) 1 [.string ⟨#[99]⟩] (by rfl) (by first | exact (H9.out.2.1.alloc _).drew | exact ((H9.out.2.1.alloc _).alloc _).drew | exact (H9.out.2.1.alloc _) | exact ((H9.out.2.1.alloc _).alloc _) | exact H9.out.2.1) _ 1 1 [.string ⟨#[98]⟩] rfl (by rfl) (World.news_of_block (cs := #[.string ⟨#[98]⟩]) (t := 9) (fr := (0,0)) (by first | exact heap_alloc_new _ _ | exact new0 _ _ _ | exact new1 _ _ _)) (by simp [Value.oneCell']) (by omega) (by unfold maxLen;omega) (by omega) (by simp;omega) _ rfl ?_;intro g2 c2 w2 own2 grow2 at2 lt2;have m02 : w2.cell? ⟨M,0,none⟩ = some (.string ⟨#[61,62,32]⟩) := (grow2.cell_far ⟨M,0,none⟩ (by simp;omega) (by simp [Value.ownBlock];omega)).trans (by first | exact m0 | exact (World.cell?_alloc_past _ _ _ (by omega)).trans m0 | exact (World.cell?_alloc_past _ _ _ (by simp;omega)).trans ((World.cell?_alloc_past _ _ _ (by omega)).trans m0));have m12 : w2.cell? ⟨M,1,none⟩ = some (.string ⟨#[98]⟩) := (grow2.cell_far ⟨M,1,none⟩ (by simp;omega) (by simp [Value.ownBlock];omega)).trans (by first | exact m1 | exact (World.cell?_alloc_past _ _ _ (by omega)).trans m1 | exact (World.cell?_alloc_past _ _ _ (by simp;omega)).trans ((World.cell?_alloc_past _ _ _ (by omega)).trans m1));have s2 := (only_grown grow2).size;have O2 : Only [] wa w2 := Only.grown (by first | exact (H9.out.1.alloc _).drew | exact ((H9.out.1.alloc _).alloc _).drew | exact (H9.out.1.alloc _)) grow2 (fun j hj => .inr (by simp [Value.ownBlock] at hj;omega)))))
  all_goals go_wp2_with fail
  all_goals go_meet
  all_goals exact ⟨g2,c2,g7,c7,rfl,rfl,ownsRow_base (ownsRow_only own2 O27 (by simp)) (Nat.zero_le _),ownsRow_base own7 (Nat.zero_le _),O2.trans O27⟩
 case rest =>
  obtain ⟨g2,c2,g7,c7,rfl,rfl,r6,r7,oc⟩ := hcut
  have HC := LH (AI (HA.out.2.1.of_none oc) (AI (HA.out.2.2.trans oc) (AI r6 r7)))
  obtain ⟨c0,c1,c3,c4,c5⟩ := step_cells (oc.heap HA.out.1 (by simp))
  have t0 := r6.cellAt 0 (by omega)
  have t1 := r6.cellAt 1 (by omega)
  have t7 := r7.cellAt 0 (by omega)
  clear r6 r7 oc
  go_wp2_with fail
  show Code.wp _ _ (Exit.then (Code.rounds _ _ _ 0) _) _ _
  go_upto_region 22 with (go_at_call 87;go_loud (refine (eof_any g7 c7 [⟨#[61,62,32]⟩] wc (by simp) (by simp) (fun k s e => by match k,e with | 0,e => cases e;exact t7) (fun s e => by simp at e;subst e;exact ⟨plain_arrow,by decide,by decide⟩)).mono ?_;rintro e w2 ⟨W,fp,rfl,_,_,ho2⟩;have HO := LH ho2;clear ho2))
  have t0' := HO.out.cell t0 (by simp)
  have t1' := HO.out.cell t1 (by simp)
  have HD := LH (show DlgAt w2 D D0 ∧ Only [] w w2 from ⟨HC.out.1.of_none HO.out,HC.out.2.1.trans HO.out⟩)
  clear t0 t1 t7 c0 c1 c3 c4 c5
  refine wp_loop_rounds 3 ?_
  show Code.wp _ _ (Exit.then (Code.rounds _ _ _ 2) _) _ _
  go_wp2_with (go_at_call 86;refine (find_c _ D D0 5 HD.out.1).mono ?_;rintro e w3 ⟨rfl,ho3⟩;have HE := LH ho3;have t1'' := ho3.cell t1' (by simp);clear ho3 t0' t1')
  show Code.wp _ _ (Exit.then (Code.rounds _ _ _ 1) _) _ _
  go_wp2_with (go_at_call 86;refine (find_b _ D D0 5 (HD.out.1.of_none HE.out)).mono ?_;rintro e w4 ⟨rfl,ho4⟩;have HF := LH ho4;clear ho4 t1'')
  show Code.wp _ _ (Exit.then (Code.rounds _ _ _ 0) _) _ _
  go_wp2_with fail
  have H2 := LH (show DlgAt w4 D D0 ∧ Only [] w w4 from ⟨(HD.out.1.of_none HE.out).of_none HF.out,(HD.out.2.trans HE.out).trans HF.out⟩)
  clear HD HE HF HO HC HA HB H1 H0
  obtain ⟨a0,a1,a2,a3,a4,a5,a6⟩ := H2.out.1.s2
  show Code.wp _ _ (Exit.then (Code.rounds _ _ _ 3) _) _ _
  go_upto_region 6 with fail
  obtain ⟨N,hN⟩ : ∃ N,N = w4.heap.size := ⟨_,rfl⟩
  generalize hwa : World.alloc _ _ = wa
  have HA := LH (show wa.heap[N]? = some (.cells #[.string ⟨#[99]⟩,.int .i64 3,.string ⟨#[]⟩,.slice none 0 0,.int .i64 5,.string ⟨#[97]⟩,.int .i64 0] 192 (0,0)) ∧ DlgAt wa D D0 ∧ Only [] w wa by subst hwa hN;exact ⟨step_new _ _ _ _ _ _ _ _,H2.out.1.of_none ((Only.refl [] _).alloc _),H2.out.2.alloc _⟩)
  rw [← hN]
  clear hwa hN a0 a1 a2 a3 a4 a5 a6
  obtain ⟨b0,b1,b3,b4,b5⟩ := step_cells HA.out.1
  go_upto_region 9 with (go_at_call 86;refine (find_c _ D D0 5 HA.out.2.1).mono ?_;rintro e w5 ⟨rfl,ho1⟩;have HB := LH ho1;clear ho1)
  obtain ⟨c0,c1,c3,c4,c5⟩ := step_cells (HB.out.heap HA.out.1 (by simp))
  clear b0 b1 b3 b4 b5
  go_upto_region 11 with (at_builtin;refine wpList_append_lies _ rfl (.tmp 56) (.tmp 59) 71 rfl w5.heap.size 9 i4 (.string ⟨#[]⟩) 1 16 Tryz.underlying71 HI.out.1 HI.out.2.1 HI.out.2.2.1 HI.out.2.2.2 rfl (by omega) (.slice none 0 0) 0 [] rfl (World.ownsRow_nil _ _ _ _) ⟨w5.heap.size,0,none⟩ 1 1 [.string ⟨#[97]⟩] rfl rfl (World.news_of_block (cs := #[.string ⟨#[97]⟩]) (t := 9) (fr := (0,0)) (heap_alloc_new w5 _)) (by simp [Value.oneCell']) (by omega) (by unfold maxLen;omega) (by omega) (by simp) (w5.heap.size + 1) (by simp) ?_;intro g6 c6 w8 own8 grow8 at8 lt8)
  have HC := LH (show Only [] w5 w8 from (((Only.refl [] w5).alloc _).trans ((only_grown grow8).weaken (by simp [Value.ownBlock]))))
  have t0 := own8.cellAt 0 (by omega)
  clear own8 grow8 at8 lt8
  obtain ⟨b0,b1,b3,b4,b5⟩ := step_cells (HC.out.heap (HB.out.heap HA.out.1 (by simp)) (by simp))
  clear c0 c1 c3 c4 c5
  have HD := LH (show DlgAt w8 D D0 ∧ Only [] w w8 from ⟨(HA.out.2.1.of_none HB.out).of_none HC.out,(HA.out.2.2.trans HB.out).trans HC.out⟩)
  go_wp2_with fail
  refine wp_loop_rounds 2 ?_
  show Code.wp _ _ (Exit.then (Code.rounds _ _ _ 1) _) _ _
  go_wp2_with (go_at_call 86;refine (find_a _ D D0 5 HD.out.1).mono ?_;rintro e w9 ⟨rfl,ho9⟩;have HE := LH ho9;clear ho9 t0)
  show Code.wp _ _ (Exit.then (Code.rounds _ _ _ 0) _) _ _
  go_wp2_with fail
  have H3 := LH (show DlgAt w9 D D0 ∧ Only [] w w9 from ⟨HD.out.1.of_none HE.out,HD.out.2.trans HE.out⟩)
  clear HD HE HC HA HB H2 b0 b1 b3 b4 b5
  obtain ⟨a0,a1,a2,a3,a4,a5,a6⟩ := H3.out.1.s3
  show Code.wp _ _ (Exit.then (Code.rounds _ _ _ 2) _) _ _
  go_upto_region 6 with fail
  obtain ⟨N,hN⟩ : ∃ N,N = w9.heap.size := ⟨_,rfl⟩
  generalize hwa : World.alloc _ _ = wa
  have HA := LH (show wa.heap[N]? = some (.cells #[.string ⟨#[]⟩,.int .i64 5,.string ⟨#[]⟩,.slice none 0 0,.int .i64 0,.string ⟨#[]⟩,.int .i64 0] 192 (0,0)) ∧ DlgAt wa D D0 ∧ Only [] w wa by subst hwa hN;exact ⟨step_new _ _ _ _ _ _ _ _,H3.out.1.of_none ((Only.refl [] _).alloc _),H3.out.2.alloc _⟩)
  rw [← hN]
  clear hwa hN a0 a1 a2 a3 a4 a5 a6
  obtain ⟨b0,b1,b3,b4,b5⟩ := step_cells HA.out.1
  go_wp2_with fail
  refine wp_loop_rounds 1 ?_
  show Code.wp _ _ (Exit.then (Code.rounds _ _ _ 0) _) _ _
  go_wp2_with fail
  have H4 := LH (show DlgAt wa D D0 ∧ Only [] w wa from HA.out.2)
  clear HA H3 b0 b1 b3 b4 b5
  obtain ⟨wz,hwz⟩ : ∃ wz,wz = wa := ⟨_,rfl⟩
  rw [← hwz]
  rw [← hwz] at H4
  clear hwz
  obtain ⟨a0,a1,a2,a3,a4,a5,a6⟩ := H4.out.1.s4
  show Code.wp _ _ (Exit.then (Code.rounds _ _ _ 1) _) _ _
  go_upto_region 6 with fail
  obtain ⟨N,hN⟩ : ∃ N,N = wz.heap.size := ⟨_,rfl⟩
  generalize hwa : World.alloc _ _ = wa
  have HA := LH (show wa.heap[N]? = some (.cells #[.string ⟨#[98]⟩,.int .i64 4,.string ⟨#[]⟩,.slice none 0 0,.int .i64 0,.string ⟨#[]⟩,.int .i64 0] 192 (0,0)) ∧ DlgAt wa D D0 ∧ Only [] w wa by subst hwa hN;exact ⟨step_new _ _ _ _ _ _ _ _,H4.out.1.of_none ((Only.refl [] _).alloc _),H4.out.2.alloc _⟩)
  rw [← hN]
  clear hwa hN a0 a1 a2 a3 a4 a5 a6
  obtain ⟨b0,b1,b3,b4,b5⟩ := step_cells HA.out.1
  go_upto_region 9 with (go_at_call 86;refine (find_b _ D D0 5 HA.out.2.1).mono ?_;rintro e w10 ⟨rfl,ho1⟩;have HB := LH ho1;clear ho1)
  obtain ⟨c0,c1,c3,c4,c5⟩ := step_cells (HB.out.heap HA.out.1 (by simp))
  clear b0 b1 b3 b4 b5
  go_wp2_with fail
  refine wp_loop_rounds 1 ?_
  show Code.wp _ _ (Exit.then (Code.rounds _ _ _ 0) _) _ _
  go_wp2_with fail
  show Code.wp _ _ (Exit.then (Code.rounds _ _ _ 0) _) _ _
  go_wp2_with fail
  go_ret2
  exact ⟨rfl,HA.out.2.2.trans HB.out⟩
def playCells (D cd : Nat) (pos : Int) (X : Nat) (wt : Value) (left : Int) (x5 x7 : Value) (st : Int) : Array Value :=
 #[.slice (some ⟨D,0,none⟩) 5 cd,.int .i64 pos,.map (some X),wt,.int .i64 left,x5,.int .i64 st,x7]
theorem pstate_any (P D cd X : Nat) (pos left st : Int) (wt x5 x7 : Value) (w : World) (h : w.heap[P]? = some (.cells (playCells D cd pos X wt left x5 x7 st) 157 (0,0))) :
  Calls Tryz.prog 66 #[.pointer (some ⟨P,0,none⟩)] w fun e w' => e = .returned (.int .i64 st) ∧ w = w' := by
 have c6 : w.cell? ⟨P,6,none⟩ = some (.int .i64 st) := cell_at h rfl
 clear h
 go_enter Tryz.func66,Tryz.ntmps66
 go_wp2_with fail
 go_ret
 exact ⟨rfl,rfl⟩
theorem jump_b (P D cd X D0 : Nat) (pos left st : Int) (wt x5 x7 : Value) (w : World) (h : w.heap[P]? = some (.cells (playCells D cd pos X wt left x5 x7 st) 157 (0,0))) (hd : DlgAt w D D0) :
  Calls Tryz.prog 97 #[.pointer (some ⟨P,0,none⟩),.string ⟨#[98]⟩] w fun e w' => e = .returned (.tuple #[]) ∧ w'.heap[P]? = some (.cells (playCells D cd 4 X wt left x5 x7 st) 157 (0,0)) ∧ Only [P] w w' := by
 have c0 : w.cell? ⟨P,0,none⟩ = some (.slice (some ⟨D,0,none⟩) 5 cd) := cell_at h rfl
 have HH := LH (AI h hd)
 clear h hd
 go_enter Tryz.func97,Tryz.ntmps97
 go_wp2_with (go_at_call 86;refine (find_b _ D D0 cd HH.out.2).mono ?_;rintro e w1 ⟨rfl,ho1⟩;have h1 := ho1.heap HH.out.1 (by simp);have c1 : w1.cell? ⟨P,1,none⟩ = some (.int .i64 pos) := cell_at h1 rfl;have f1 : w1.frozen? ⟨P,1,none⟩ = false := free_at h1;have HB := LH (AI h1 ho1);clear h1 ho1)
 go_end0
 exact ⟨rfl,hs_same HB.out.1 rfl,(HB.out.2.weaken (by simp)).trans (only_set _ P 1 _)⟩
theorem only_bytes (w : World) (e : TypeId) (s : ByteArray) : Only [] w (Lib.bytesWorld w e s) :=
 ⟨rfl,rfl,rfl,by rw [Lib.bytesWorld_size];omega,fun k hk _ => Lib.bytesWorld_at_old w e s k hk⟩
theorem one_send (P D cd X : Nat) (left : Int) (wt x5 x7 : Value) (w : World) (h : w.heap[P]? = some (.cells (playCells D cd 0 X wt left x5 x7 0) 157 (0,0))) :
  Calls Tryz.prog 88 #[.pointer (some ⟨P,0,none⟩),.agg #[.string ⟨#[97]⟩,.int .i64 0,.string ⟨#[13]⟩,.slice none 0 0,.int .i64 0,.string ⟨#[]⟩,.int .i64 0]] w fun e w' => ∃ g c,e = .returned (.slice (some ⟨g,0,none⟩) 1 c) ∧ w.heap.size ≤ g ∧ w'.cell? ⟨g,0,none⟩ = some (byteV 13) ∧ w'.heap[P]? = some (.cells (playCells D cd 1 X wt left x5 x7 0) 157 (0,0)) ∧ Only [P] w w' := by
 have c1 : w.cell? ⟨P,1,none⟩ = some (.int .i64 0) := cell_at h rfl
 have f1 : w.frozen? ⟨P,1,none⟩ = false := free_at h
 have hP := heap_lt h
 have hk := fun w => Lib.run_convert_string_bytes (P := Tryz.prog) w 9 22 5 ⟨#[13]⟩ Tryz.underlying9 Tryz.underlying22 Tryz.underlying5
 have HH := LH h
 clear h
 go_enter Tryz.func88,Tryz.ntmps88
 go_wp2_with fail
 go_ret
 have hsz : ((w.setCell ⟨P,1,none⟩ (.int .i64 1)).alloc (.cells #[.string ⟨#[97]⟩,.int .i64 0,.string ⟨#[13]⟩,.slice none 0 0,.int .i64 0,.string ⟨#[]⟩,.int .i64 0] 192)).heap.size = w.heap.size + 1 := by simp
 generalize hw1 : (w.setCell ⟨P,1,none⟩ (.int .i64 1)).alloc (.cells #[.string ⟨#[97]⟩,.int .i64 0,.string ⟨#[13]⟩,.slice none 0 0,.int .i64 0,.string ⟨#[]⟩,.int .i64 0] 192) = w1 at *
 have hp : w1.heap[P]? = some (.cells (playCells D cd 1 X wt left x5 x7 0) 157 (0,0)) := by
  rw [← hw1]
  exact ((Only.refl [] _).alloc _).heap (hs_same HH.out rfl) (by simp)
 have ho : Only [P] w w1 := by rw [← hw1];exact (only_set w P 1 _).alloc _
 have hc := Lib.bytesWorld_cell w1 5 ⟨#[13]⟩ 0 (by decide)
 refine ⟨w.heap.size + 1,_,rfl,by omega,?_,(only_bytes w1 5 _).heap hp (by simp),ho.trans ((only_bytes w1 5 _).weaken (by simp))⟩
 rw [← hsz]
 exact hc
theorem one_done (P D cd X : Nat) (left : Int) (wt x5 x7 : Value) (w : World) (h : w.heap[P]? = some (.cells (playCells D cd 4 X wt left x5 x7 0) 157 (0,0))) :
  Calls Tryz.prog 88 #[.pointer (some ⟨P,0,none⟩),.agg #[.string ⟨#[98]⟩,.int .i64 4,.string ⟨#[]⟩,.slice none 0 0,.int .i64 0,.string ⟨#[]⟩,.int .i64 0]] w fun e w' => e = .returned (.slice none 0 0) ∧ w'.heap[P]? = some (.cells (playCells D cd 4 X wt left x5 x7 1) 157 (0,0)) ∧ Only [P] w w' := by
 have c6 : w.cell? ⟨P,6,none⟩ = some (.int .i64 0) := cell_at h rfl
 have f6 : w.frozen? ⟨P,6,none⟩ = false := free_at h
 have hP := heap_lt h
 have HH := LH h
 clear h
 go_enter Tryz.func88,Tryz.ntmps88
 go_wp2_with fail
 go_ret
 exact ⟨rfl,((Only.refl [] _).alloc _).heap (hs_same HH.out rfl) (by simp),(only_set w P 6 _).alloc _⟩
theorem one_expect (P D cd X D0 : Nat) (left : Int) (wt x5 x7 : Value) (w : World) (h : w.heap[P]? = some (.cells (playCells D cd 1 X wt left x5 x7 0) 157 (0,0))) (hd : DlgAt w D D0) :
  Calls Tryz.prog 88 #[.pointer (some ⟨P,0,none⟩),.agg #[.string ⟨#[]⟩,.int .i64 1,.string ⟨#[]⟩,.slice (some ⟨D0,0,none⟩) 1 1,.int .i64 8,.string ⟨#[99]⟩,.int .i64 0]] w fun e w' => ∃ W fp,e = .returned (.slice none 0 0) ∧ w'.heap[P]? = some (.cells (playCells D cd 1 X (.pointer (some ⟨W,0,none⟩)) 8 x5 x7 0) 157 (0,0)) ∧ Watched w' W fp (M.watchOf [[61,62,32]]) ∧ (∀ b,b ∈ fp → w.heap.size ≤ b) ∧ Only [P] w w' := by
 obtain ⟨i4,e0,e1,e2,e3⟩ := info_parts info9s
 have hP := heap_lt h
 obtain ⟨N,hN⟩ : ∃ N,N = w.heap.size := ⟨_,rfl⟩
 have HI := LH (AI e0 (AI e1 (AI e2 e3)))
 obtain ⟨d0,d1⟩ := hd.a0
 have HH := LH (AI h (AI hd hN))
 clear h hd e0 e1 e2 e3 hN
 go_enter Tryz.func88,Tryz.ntmps88
 go_upto_region 9 with fail
 generalize hw1 : World.alloc _ _ = w1
 have H1 := LH (show w1.heap[N]? = some (.cells #[.string ⟨#[]⟩,.int .i64 1,.string ⟨#[]⟩,.slice (some ⟨D0,0,none⟩) 1 1,.int .i64 8,.string ⟨#[99]⟩,.int .i64 0] 192 (0,0)) ∧ DlgAt w1 D D0 ∧ Only [] w w1 ∧ w1.heap[P]? = some (.cells (playCells D cd 1 X wt left x5 x7 0) 157 (0,0)) by
  subst hw1
  rw [HH.out.2.2]
  exact ⟨step_new _ _ _ _ _ _ _ _,HH.out.2.1.of_none ((Only.refl [] _).alloc _),(Only.refl [] _).alloc _,((Only.refl [] _).alloc _).heap HH.out.1 (by simp)⟩)
 rw [← HH.out.2.2]
 clear hw1 d0 d1
 obtain ⟨d0,d1⟩ := H1.out.2.1.a0
 refine wp_loop_rounds 2 ?_
 show Code.wp _ _ (Exit.then (Code.rounds _ _ _ 1) _) _ _
 go_upto_region 11 with fail
 obtain ⟨M,hM⟩ : ∃ M,M = w1.heap.size := ⟨_,rfl⟩
 generalize hw2 : World.alloc _ _ = w2
 have H2 := LH (show Only [] w1 w2 ∧ w2.heap[M]? = some (.cells #[.string ⟨#[61,62,32]⟩,.string ⟨#[98]⟩] 194 (0,0)) by
  subst hw2 hM
  exact ⟨(Only.refl [] _).alloc _,heap_alloc_new w1 _⟩)
 rw [← hM]
 clear hw2 hM d0 d1
 have m0 : w2.cell? ⟨M,0,none⟩ = some (.string ⟨#[61,62,32]⟩) := cell_at H2.out.2 rfl
 go_wp2_with (at_builtin;refine wpList_append_lies _ rfl (.tmp 34) (.tmp 37) 71 rfl w2.heap.size 9 i4 (.string ⟨#[]⟩) 1 16 Tryz.underlying71 HI.out.1 HI.out.2.1 HI.out.2.2.1 HI.out.2.2.2 rfl (by omega) (.slice none 0 0) 0 [] rfl (World.ownsRow_nil _ _ _ _) ⟨w2.heap.size,0,none⟩ 1 1 [.string ⟨#[61,62,32]⟩] rfl rfl (World.news_of_block (cs := #[.string ⟨#[61,62,32]⟩]) (t := 9) (fr := (0,0)) (heap_alloc_new w2 _)) (by simp [Value.oneCell']) (by omega) (by unfold maxLen;omega) (by omega) (by simp) (w2.heap.size + 1) (by simp) ?_;intro g5 c5 w8 own8 grow8 at8 lt8)
 have HC := LH (show Only [] w2 w8 from (((Only.refl [] w2).alloc _).trans ((only_grown grow8).weaken (by simp [Value.ownBlock]))))
 have t0 := own8.cellAt 0 (by omega)
 clear own8 grow8 at8 lt8 m0
 show Code.wp _ _ (Exit.then (Code.rounds _ _ _ 0) _) _ _
 have H8 := LH (show Only [] w w8 from (H1.out.2.2.1.trans H2.out.1).trans HC.out)
 have n8 := HC.out.heap (H2.out.1.heap H1.out.1 (by simp)) (by simp)
 have p8 := HC.out.heap (H2.out.1.heap H1.out.2.2.2 (by simp)) (by simp)
 have HNP := LH (AI n8 p8)
 clear n8 p8
 go_wp2_with (go_at_call 87;refine (eof_any g5 c5 [⟨#[61,62,32]⟩] w8 (by simp) (by simp) (fun k s e => by match k,e with | 0,e => cases e;exact t0) (fun s e => by simp at e;subst e;exact ⟨plain_arrow,by decide,by decide⟩)).mono ?_;rintro e w9 ⟨W,fp,rfl,hwt,hfp,ho9⟩;have n9 := ho9.heap HNP.out.1 (by simp);have p9 := ho9.heap HNP.out.2 (by simp);have q3 : w9.cell? ⟨P,3,none⟩ = some wt := cell_at p9 rfl;have q4 : w9.cell? ⟨P,4,none⟩ = some (.int .i64 left) := cell_at p9 rfl;have g3 : w9.frozen? ⟨P,3,none⟩ = false := free_at p9;have g4 : w9.frozen? ⟨P,4,none⟩ = false := free_at p9;have r4 : w9.cell? ⟨N,4,none⟩ = some (.int .i64 8) := cell_at n9 rfl;have H9 := LH (AI hwt (AI hfp (AI ho9 (AI n9 p9))));clear hwt hfp ho9 n9 p9 t0)
 go_ret
 have h9 := H9.out
 have o9 : Only [] w w9 := H8.out.trans h9.2.2.1
 have oP : Only [P] w9 ((w9.setCell ⟨P,3,none⟩ (.pointer (some ⟨W,0,none⟩))).setCell ⟨P,4,none⟩ (.int .i64 8)) := (only_set w9 P 3 _).trans (only_set _ P 4 _)
 refine ⟨W,fp,rfl,hs_same (hs_same h9.2.2.2.2 rfl) rfl,h9.1.of_only oP (fun b hb hm => ?_),fun b hb => Nat.le_trans H8.out.size (h9.2.1 b hb),(o9.weaken (by simp)).trans oP⟩
 have := h9.2.1 b hb
 have := H8.out.size
 simp at hm
 omega
theorem run_done (P D cd X D0 : Nat) (left : Int) (x5 x7 : Value) (w : World) (h : w.heap[P]? = some (.cells (playCells D cd 4 X (.pointer none) left x5 x7 0) 157 (0,0))) (hd : DlgAt w D D0) (hsep : Sep [D,D0] [P]) :
  Calls Tryz.prog 65 #[.pointer (some ⟨P,0,none⟩)] w fun e w' => e = .returned (.slice none 0 0) ∧ w'.heap[P]? = some (.cells (playCells D cd 4 X (.pointer none) left x5 x7 1) 157 (0,0)) ∧ Only [P] w w' := by
 have c0 : w.cell? ⟨P,0,none⟩ = some (.slice (some ⟨D,0,none⟩) 5 cd) := cell_at h rfl
 have c1 : w.cell? ⟨P,1,none⟩ = some (.int .i64 4) := cell_at h rfl
 have c3 : w.cell? ⟨P,3,none⟩ = some (.pointer none) := cell_at h rfl
 have c6 : w.cell? ⟨P,6,none⟩ = some (.int .i64 0) := cell_at h rfl
 have hP := heap_lt h
 obtain ⟨a0,a1,a2,a3,a4,a5,a6⟩ := hd.s4
 have HH := LH (AI h hd)
 have HS := LH hsep
 clear h hd hsep
 go_enter Tryz.func65,Tryz.ntmps65
 go_wp2_with fail
 refine wp_loop_rounds 2 ?_
 show Code.wp _ _ (Exit.then (Code.rounds _ _ _ 1) _) _ _
 go_upto_region 5 with fail
 go_quiet (fail)
 go_upto_region 7 with fail
 generalize hq : World.drewN w _ = wq
 have HQ := LH (show wq.heap[P]? = some (.cells (playCells D cd 4 X (.pointer none) left x5 x7 0) 157 (0,0)) ∧ DlgAt wq D D0 ∧ Only [] w wq by
  subst hq
  exact ⟨((Only.refl [] w).drewN _).heap HH.out.1 (by simp),HH.out.2.of_none ((Only.refl [] w).drewN _),(Only.refl [] w).drewN _⟩)
 clear hq c0 c1 c3 c6 a0 a1 a2 a3 a4 a5 a6
 have c0 : wq.cell? ⟨P,0,none⟩ = some (.slice (some ⟨D,0,none⟩) 5 cd) := cell_at HQ.out.1 rfl
 have c1 : wq.cell? ⟨P,1,none⟩ = some (.int .i64 4) := cell_at HQ.out.1 rfl
 obtain ⟨a0,a1,a2,a3,a4,a5,a6⟩ := HQ.out.2.1.s4
 go_region_held3 (fun w' => w'.cell? ⟨P,0,none⟩ = some (.slice (some ⟨D,0,none⟩) 5 cd) ∧ w'.cell? ⟨P,1,none⟩ = some (.int .i64 4) ∧ w'.cell? ⟨D,28,none⟩ = some (.string ⟨#[98]⟩) ∧ w'.cell? ⟨D,29,none⟩ = some (.int .i64 4) ∧ w'.cell? ⟨D,30,none⟩ = some (.string ⟨#[]⟩) ∧ w'.cell? ⟨D,31,none⟩ = some (.slice none 0 0) ∧ w'.cell? ⟨D,32,none⟩ = some (.int .i64 0) ∧ w'.cell? ⟨D,33,none⟩ = some (.string ⟨#[]⟩) ∧ w'.cell? ⟨D,34,none⟩ = some (.int .i64 0)) (first | exact ⟨c0,c1,a0,a1,a2,a3,a4,a5,a6⟩ | exact ⟨cell_at HB.out.1 rfl,cell_at HB.out.1 rfl,HB.out.2.2.s4⟩ | go_keep) ((go_at_call 88;refine (one_done P D cd X left (.pointer none) x5 x7 _ (((Only.refl [] wq).drew).heap HQ.out.1 (by simp))).mono ?_;rintro e w1 ⟨rfl,h1,ho1⟩;have HB := LH (AI h1 (AI ((((HQ.out.2.2.weaken (by simp)).drew).trans ho1 : Only [P] w w1)) ((HQ.out.2.1.of_none ((Only.refl [] wq).drew)).of_only ho1 HS.out)));clear h1 ho1))
 have k6 : w1.cell? ⟨P,6,none⟩ = some (.int .i64 1) := cell_at HB.out.1 rfl
 go_wp2_with fail
 show Code.wp _ _ (Exit.then (Code.rounds _ _ _ 0) _) _ _
 go_wp2_with fail
 go_ret
 exact ⟨rfl,HB.out.1,HB.out.2.1⟩
theorem own_past {w : World} {base e size n P : Nat} {v : Value} {xs : List Value} (h : w.ownsRow base e size v n xs) (hP : P < base) : ∀ g,v.ownBlock = some g → g ∉ [P] := fun g e => by have := (h.lt g e).1;simp;omega
theorem step_append_none {P : Program} {w : World} {ops : Array Oper} {o : Oper} {a : Act} {K : Act → World → Prop} {Q : Exit → Act → World → Prop} {E : Prop} (hgd : o.guard = none) (s x : Operand) (t : TypeId) (ho : o.op = .call { callee := .builtin .append,args := #[s,x],argTypes := #[t,t] }) (base : Nat) (e : TypeId) (i : TypeInfo) (size : Nat) (ht : P.underlying t = some (.slice e)) (hi : P.info? e = some i) (v : Value) (n : Nat) (xs : List Value) (hs : a.eval s = v) (hown : w.ownsRow base e size v n xs) (hx : a.eval x = .slice none 0 0) (h : K (a.put o.dst v) w) : if Region.wanted o (yielded ops a.tmps) = true then Oper.wp P o a w K Q else E := by
 have hw : Region.wanted o (yielded ops a.tmps) = true := by simp [Region.wanted,hgd]
 rw [if_pos hw]
 have hrun := run_append_owned_none (P := P) (w := w) base t o.type e i size ht hi v n xs hown
 unfold Oper.wp
 simp [execOp,ho,resolve,invoke,builtin,hs,hx,hrun,Result.andThen]
 exact h
theorem run_first (P D cd X D0 : Nat) (left : Int) (x5 x7 : Value) (w : World) (h : w.heap[P]? = some (.cells (playCells D cd 0 X (.pointer none) left x5 x7 0) 157 (0,0))) (hd : DlgAt w D D0) (hDP : D ≠ P) (hD0P : D0 ≠ P) :
  Calls Tryz.prog 65 #[.pointer (some ⟨P,0,none⟩)] w fun e w' => ∃ v W fp,e = .returned v ∧ Out w w' v [13] ∧ w'.heap[P]? = some (.cells (playCells D cd 1 X (.pointer (some ⟨W,0,none⟩)) 8 x5 x7 0) 157 (0,0)) ∧ Watched w' W fp (M.watchOf [[61,62,32]]) ∧ (∀ b,b ∈ fp → w.heap.size ≤ b) ∧ (∀ g,v.ownBlock = some g → g ∉ fp) ∧ Only [P] w w' := by
 have c0 : w.cell? ⟨P,0,none⟩ = some (.slice (some ⟨D,0,none⟩) 5 cd) := cell_at h rfl
 have c1 : w.cell? ⟨P,1,none⟩ = some (.int .i64 0) := cell_at h rfl
 have c3 : w.cell? ⟨P,3,none⟩ = some (.pointer none) := cell_at h rfl
 have c6 : w.cell? ⟨P,6,none⟩ = some (.int .i64 0) := cell_at h rfl
 have hP := heap_lt h
 obtain ⟨i5,e0,e1,e2,e3⟩ := info_parts Tryz.info5
 have hsep : Sep [D,D0] [P] := fun b hb hm => by
  simp only [List.mem_cons,List.not_mem_nil,or_false] at hb hm
  subst hm
  rcases hb with h' | h'
  ·exact hDP h'.symm
  ·exact hD0P h'.symm
 have HH := LH (AI h (AI hd hsep))
 have HI := LH (AI e0 (AI e1 (AI e2 e3)))
 clear h hd hsep e0 e1 e2 e3
 go_enter Tryz.func65,Tryz.ntmps65
 go_wp2_with fail
 refine wp_loop_rounds 3 ?_
 show Code.wp _ _ (Exit.then (Code.rounds _ _ _ 2) _) _ _
 go_upto_region 5 with fail
 go_quiet (fail)
 go_upto_region 7 with fail
 generalize hq : World.drewN w _ = wq
 have HQ := LH (show wq.heap[P]? = some (.cells (playCells D cd 0 X (.pointer none) left x5 x7 0) 157 (0,0)) ∧ DlgAt wq D D0 ∧ Only [] w wq by
  subst hq
  exact ⟨((Only.refl [] w).drewN _).heap HH.out.1 (by simp),HH.out.2.1.of_none ((Only.refl [] w).drewN _),(Only.refl [] w).drewN _⟩)
 clear hq c0 c1 c3 c6
 have c0 : wq.cell? ⟨P,0,none⟩ = some (.slice (some ⟨D,0,none⟩) 5 cd) := cell_at HQ.out.1 rfl
 have c1 : wq.cell? ⟨P,1,none⟩ = some (.int .i64 0) := cell_at HQ.out.1 rfl
 obtain ⟨a0,a1,a2,a3,a4,a5,a6⟩ := HQ.out.2.1.s0
 refine wp_region_held_drew (S := (fun w' => w'.cell? ⟨P,0,none⟩ = some (.slice (some ⟨D,0,none⟩) 5 cd) ∧ w'.cell? ⟨D,0,none⟩ = some (.string ⟨#[97]⟩) ∧ w'.cell? ⟨D,1,none⟩ = some (.int .i64 0) ∧ w'.cell? ⟨D,2,none⟩ = some (.string ⟨#[13]⟩) ∧ w'.cell? ⟨D,3,none⟩ = some (.slice none 0 0) ∧ w'.cell? ⟨D,4,none⟩ = some (.int .i64 0) ∧ w'.cell? ⟨D,5,none⟩ = some (.string ⟨#[]⟩) ∧ w'.cell? ⟨D,6,none⟩ = some (.int .i64 0))) (by kernel_rfl) ⟨c0,a0,a1,a2,a3,a4,a5,a6⟩ (fun hHeld => ?_)
 refine wJ 0 ?_
 try simp only [Act.put]
 refine wJ 1 ?_
 try simp only [Act.put]
 refine wJ 2 ?_
 try simp only [Act.put]
 refine wJ 3 ?_
 try simp only [Act.put]
 refine wJ 4 ?_
 try simp only [Act.put]
 refine wJ 5 ?_
 try simp only [Act.put]
 refine wJ 6 ?_
 try simp only [Act.put]
 refine wJ 7 ?_
 try simp only [Act.put]
 refine wJ 8 ?_
 try simp only [Act.put]
 refine wpAnyH_ready (rs := [9]) (by kernel_rfl) (by simp) ?_
 refine AllReadyH.cons (o := _) rfl (fun K hK => ?_) AllReadyH.nil
 go_simp
 refine hK.out _ _ hHeld (fun hHeld => ?_)
 clear hK K
 try simp only [Act.put]
 refine wJ 10 ?_
 try simp only [Act.put]
 refine wJ 11 ?_
 try simp only [Act.put]
 refine wpAnyH_ready (rs := [12]) (by kernel_rfl) (by simp) ?_
 refine AllReadyH.cons (o := _) rfl (fun K hK => ?_) AllReadyH.nil
 go_simp
 refine (one_send P D cd X left (.pointer none) x5 x7 _ (((Only.refl [] wq).drew).heap HQ.out.1 (by simp))).mono ?_
 rintro e w1 ⟨g,c,rfl,hg,hb,h1,ho1⟩
 have hd1 := (HQ.out.2.1.of_none ((Only.refl [] wq).drew)).of_only ho1 HH.out.2.2
 have o1 : Only [P] w w1 := ((HQ.out.2.2.weaken (by simp)).drew).trans ho1
 refine hK.out _ _ ⟨cell_at h1 rfl,hd1.s0⟩ (fun hHeld => ?_)
 clear hK K
 try simp only [Act.put]
 refine wpAnyH_ready (rs := [13]) (by kernel_rfl) (by simp) ?_
 refine AllReadyH.cons (o := _) rfl (fun K hK => ?_) AllReadyH.nil
 refine step_append_lies _ (by rfl) _ _ _ (by rfl) w.heap.size 5 i5 _ 1 1 Tryz.underlying22 HI.out.1 HI.out.2.1 HI.out.2.2.1 HI.out.2.2.2 rfl (by omega) (.slice none 0 0) 0 [] (by rfl) (World.ownsRow_nil _ _ _ _) ⟨g,0,none⟩ 1 c [byteV 13] (by rfl) (by rfl) (fun j u e => by match j,e with | 0,e => cases e;exact hb) (by simp [Value.oneCell']) (by omega) (by unfold maxLen;omega) (by omega) o1.size _ rfl ?_
 intro gg cp w2 own2 grow2 at2 lt2
 have o12 : Only [] w1 w2 := (only_grown grow2).weaken (by simp [Value.ownBlock])
 have h2 := o12.heap h1 (by simp)
 have hd2 := hd1.of_none o12
 refine hK.out _ _ ⟨cell_at h2 rfl,hd2.s0⟩ (fun hHeld => ?_)
 clear hK K
 try simp only [Act.put]
 refine wJ 14 ?_
 try simp only [Act.put]
 refine wpAnyH_done (by kernel_rfl) ?_ _
 have H2 := LH (AI h2 (AI hd2 (AI own2 (o1.trans (o12.weaken (by simp))))))
 clear h2 hd2 own2 o12 o1 h1 hd1 hb hg grow2 at2 lt2 hHeld ho1 c0 c1 a0 a1 a2 a3 a4 a5 a6
 have c3 : w2.cell? ⟨P,3,none⟩ = some (.pointer none) := cell_at H2.out.1 rfl
 have c6 : w2.cell? ⟨P,6,none⟩ = some (.int .i64 0) := cell_at H2.out.1 rfl
 have c0 : w2.cell? ⟨P,0,none⟩ = some (.slice (some ⟨D,0,none⟩) 5 cd) := cell_at H2.out.1 rfl
 have c1 : w2.cell? ⟨P,1,none⟩ = some (.int .i64 1) := cell_at H2.out.1 rfl
 go_wp2_with fail
 show Code.wp _ _ (Exit.then (Code.rounds _ _ _ 1) _) _ _
 go_upto_region 5 with fail
 go_quiet (fail)
 go_upto_region 7 with fail
 generalize hq : World.drewN w2 _ = wr
 have HR := LH (show wr.heap[P]? = some (.cells (playCells D cd 1 X (.pointer none) left x5 x7 0) 157 (0,0)) ∧ DlgAt wr D D0 ∧ Only [] w2 wr by
  subst hq
  exact ⟨((Only.refl [] w2).drewN _).heap H2.out.1 (by simp),H2.out.2.1.of_none ((Only.refl [] w2).drewN _),(Only.refl [] w2).drewN _⟩)
 clear hq c0 c1 c3 c6
 have c0 : wr.cell? ⟨P,0,none⟩ = some (.slice (some ⟨D,0,none⟩) 5 cd) := cell_at HR.out.1 rfl
 have c1 : wr.cell? ⟨P,1,none⟩ = some (.int .i64 1) := cell_at HR.out.1 rfl
 obtain ⟨a0,a1,a2,a3,a4,a5,a6⟩ := HR.out.2.1.s1
 go_region_held3 (fun w' => w'.cell? ⟨P,0,none⟩ = some (.slice (some ⟨D,0,none⟩) 5 cd) ∧ w'.cell? ⟨P,1,none⟩ = some (.int .i64 1) ∧ w'.cell? ⟨D,7,none⟩ = some (.string ⟨#[]⟩) ∧ w'.cell? ⟨D,8,none⟩ = some (.int .i64 1) ∧ w'.cell? ⟨D,9,none⟩ = some (.string ⟨#[]⟩) ∧ w'.cell? ⟨D,10,none⟩ = some (.slice (some ⟨D0,0,none⟩) 1 1) ∧ w'.cell? ⟨D,11,none⟩ = some (.int .i64 8) ∧ w'.cell? ⟨D,12,none⟩ = some (.string ⟨#[99]⟩) ∧ w'.cell? ⟨D,13,none⟩ = some (.int .i64 0)) (first | exact ⟨c0,c1,a0,a1,a2,a3,a4,a5,a6⟩ | exact ⟨cell_at HB.out.1 rfl,cell_at HB.out.1 rfl,HB.out.2.2.2.2.s1⟩ | go_keep) (first
  | (go_at_call 88;go_loud (refine (one_expect P D cd X D0 left (.pointer none) x5 x7 _ (((Only.refl [] wr).drew).heap HR.out.1 (by simp)) (HR.out.2.1.of_none ((Only.refl [] wr).drew))).mono ?_;rintro e w3 ⟨W,fp,rfl,h1,hwt,hfp,ho1⟩;have HO := LH (ownsRow_only (ownsRow_only H2.out.2.2.1 HR.out.2.2 (by simp)) (((Only.refl [P] wr).drew).trans ho1 : Only [P] wr w3) (own_past H2.out.2.2.1 hP));have HB := LH (AI h1 (AI hwt (AI hfp (AI (((Only.refl [P] wr).drew).trans ho1 : Only [P] wr w3) ((HR.out.2.1.of_none ((Only.refl [] wr).drew)).of_only ho1 HH.out.2.2)))));clear h1 hwt hfp ho1))
  | (refine step_append_none (by rfl) _ _ _ (by rfl) w.heap.size 5 i5 1 Tryz.underlying22 HI.out.1 (.slice (some ⟨gg,0,none⟩) 1 cp) 1 [byteV 13] (by rfl) HO.out (by rfl) ?_))
 have c3 : w3.cell? ⟨P,3,none⟩ = some (.pointer (some ⟨W,0,none⟩)) := cell_at HB.out.1 rfl
 have c6 : w3.cell? ⟨P,6,none⟩ = some (.int .i64 0) := cell_at HB.out.1 rfl
 go_wp2_with fail
 show Code.wp _ _ (Exit.then (Code.rounds _ _ _ 0) _) _ _
 go_wp2_with fail
 go_ret
 obtain ⟨h1,hwt,hfp,ho,_⟩ := HB.out
 have os := H2.out.2.2.2.trans (HR.out.2.2.weaken (by simp))
 refine ⟨_,W,fp,rfl,HO.out,h1,hwt,fun b hb => Nat.le_trans os.size (hfp b hb),fun q e hq => ?_,os.trans ho⟩
 have h7 : gg = q := by simpa [Value.ownBlock] using e
 have h8 := (H2.out.2.2.1.lt gg rfl).2
 have h9 : wr.heap.size ≤ q := hfp q hq
 have h10 := HR.out.2.2.size
 omega
end Go.Proofs.YtplaamfoeaaaiaaGreatDoor
