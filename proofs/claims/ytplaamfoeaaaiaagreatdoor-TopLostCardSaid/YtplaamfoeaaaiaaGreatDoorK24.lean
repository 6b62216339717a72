/- A part of the proofs of the laws of lifelinetop (TopNever, TopLost, TopRoom): contracts of functions that these laws reach. No condition of its own. -/
import Derived.Test.YtplaamfoeaaaiaaGreatDoorK02
import Derived.Test.YtplaamfoeaaaiaaGreatDoorK23
set_option maxRecDepth 100000
set_option maxHeartbeats 8000000
set_option linter.unusedVariables false
namespace Go.Proofs.YtplaamfoeaaaiaaGreatDoor
open Go.RowKit
theorem wput_w (W : Nat) (fp : List Nat) (x : M.Watch) (c : UInt8) (w : World) (h : Watched w W fp x) (hov : x.over = false) (hlp : ∀ l,l ∈ x.lits → 0 < l.length) :
  Calls Tryz.prog 95 #[.pointer (some ⟨W,0,none⟩),byteV c] w fun e w' => e = .returned (putV (x.put c).1) ∧ ∃ fp',Watched w' W fp' (x.put c).2 ∧ Ev w w' fp fp' := by
 obtain ⟨ga,gt,ca,ct,ro,vs,rfl,h⟩ := h
 refine (wput_any W ga gt ca ct ro vs x c w h hov hlp).mono ?_
 rintro e w' ⟨rfl,ro',vs',h',ho,hr⟩
 refine ⟨rfl,W :: ga :: ro',⟨ga,gt,ca,ct,ro',vs',rfl,h'⟩,ho.weaken (fun b hb => by simp only [List.mem_cons,List.not_mem_nil,or_false] at hb ⊢;rcases hb with h1 | h1 <;> simp [h1]),fun b hb => ?_⟩
 simp only [List.mem_cons] at hb ⊢
 rcases hb with h1 | h1 | h1
 ·exact .inl (.inl h1)
 ·exact .inl (.inr (.inl h1))
 ·rcases hr b h1 with h2 | h2
  ·exact .inl (.inr (.inr h2))
  ·exact .inr h2
theorem Ev.away {w w' : World} {f f' : List Nat} {b : Nat} (h : Ev w w' f f') (hb : b ∉ f) (hl : b < w.heap.size) : b ∉ f' := fun hm => by
 rcases h.grow b hm with h1 | h1
 ·exact hb h1
 ·omega
theorem sep_two {a b : Nat} {f : List Nat} (ha : a ∉ f) (hb : b ∉ f) : Sep [a,b] f := fun c hc => by
 simp only [List.mem_cons,List.not_mem_nil,or_false] at hc
 rcases hc with rfl | rfl
 ·exact ha
 ·exact hb
theorem cons3_part {w w' : World} {P D D0 : Nat} {f f' : List Nat} (h : Ev w w' f f') : Ev w w' (P :: D :: D0 :: f) (P :: D :: D0 :: f') :=
 h.part (fun b hb => by simp [hb]) (fun b hb => by
  simp only [List.mem_cons] at hb ⊢
  rcases hb with h1 | h1 | h1 | h1
  ·exact .inr (.inl h1)
  ·exact .inr (.inr (.inl h1))
  ·exact .inr (.inr (.inr (.inl h1)))
  ·exact .inl h1)
structure Listens (w : World) (P D D0 cd X W : Nat) (fpw : List Nat) (x5 : Value) (left : Int) (x : M.Watch) : Prop where
 str : w.heap[P]? = some (.cells (playCells D cd 1 X (.pointer (some ⟨W,0,none⟩)) left x5 (.slice none 0 0) 0) 157 (0,0))
 dlg : DlgAt w D D0
 wat : Watched w W fpw x
 sep : Sep [D,D0] [P] ∧ P ∉ fpw ∧ D ∉ fpw ∧ D0 ∉ fpw
def ListensAt (w : World) (P : Nat) (fp : List Nat) (left : Nat) (x : M.Watch) : Prop := ∃ D D0 cd X W fpw x5,fp = P :: D :: D0 :: fpw ∧ Listens w P D D0 cd X W fpw x5 left x
def PlayOver (w : World) (P : Nat) : Prop := ∃ D cd pos X wt left x5 x7,w.heap[P]? = some (.cells (playCells D cd pos X wt left x5 x7 1) 157 (0,0))
theorem ListensAt.of_only {w w' : World} {P left : Nat} {fp ks : List Nat} {x : M.Watch} (h : ListensAt w P fp left x) (ho : Only ks w w') (hs : Sep fp ks) : ListensAt w' P fp left x := by
 obtain ⟨D,D0,cd,X,W,fpw,x5,rfl,h⟩ := h
 exact ⟨D,D0,cd,X,W,fpw,x5,rfl,ho.heap h.str (hs _ (by simp)),h.dlg.of_only ho (fun b hb => hs b (by simp only [List.mem_cons,List.not_mem_nil,or_false] at hb ⊢;rcases hb with h' | h' <;> simp [h'])),h.wat.of_only ho (fun b hb => hs b (by simp [hb])),h.sep⟩
theorem PlayOver.of_only {w w' : World} {P : Nat} {ks : List Nat} (h : PlayOver w P) (ho : Only ks w w') (hs : P ∉ ks) : PlayOver w' P := by
 obtain ⟨D,cd,pos,X,wt,left,x5,x7,h⟩ := h
 exact ⟨D,cd,pos,X,wt,left,x5,x7,ho.heap h hs⟩
theorem pput_none (P : Nat) (fp : List Nat) (left : Nat) (x : M.Watch) (c : UInt8) (w : World) (h : ListensAt w P fp left x) (hov : x.over = false) (hlp : ∀ l,l ∈ x.lits → 0 < l.length) (hx : (x.put c).1 = none) :
  Calls Tryz.prog 94 #[.pointer (some ⟨P,0,none⟩),byteV c] w fun e w' => e = .returned (.slice none 0 0) ∧ ∃ fp',ListensAt w' P fp' left (x.put c).2 ∧ Ev w w' fp fp' := by
 obtain ⟨D,D0,cd,X,W,fpw,x5,rfl,h⟩ := h
 have c3 : w.cell? ⟨P,3,none⟩ = some (.pointer (some ⟨W,0,none⟩)) := cell_at h.str rfl
 have c6 : w.cell? ⟨P,6,none⟩ = some (.int .i64 0) := cell_at h.str rfl
 have hc := wput_w W fpw x c w h.wat hov hlp
 rw [hx] at hc
 change Calls Tryz.prog 95 _ w (fun e w' => e = .returned (.tuple #[.int .i64 0,.bool false]) ∧ ∃ fp',Watched w' W fp' (x.put c).2 ∧ Ev w w' fpw fp') at hc
 have HC := LH hc
 have HH := LH h
 clear hc h hx hov hlp
 go_enter Tryz.func94,Tryz.ntmps94
 go_wp2_with (go_at_call 95;refine HC.out.mono ?_;rintro e w1 ⟨rfl,fp',hw1,ev1⟩;have H1 := LH (AI hw1 ev1);clear hw1 ev1)
 go_ret
 obtain ⟨s1,s2,s3,s4⟩ := HH.out.sep
 have ev := H1.out.2
 exact ⟨rfl,P :: D :: D0 :: fp',⟨D,D0,cd,X,W,fp',x5,rfl,ev.only.heap HH.out.str s2,HH.out.dlg.of_only ev.only (sep_two s3 s4),H1.out.1,s1,ev.away s2 (heap_lt HH.out.str),ev.away s3 HH.out.dlg.lt,ev.away s4 (heap_lt HH.out.dlg.arm)⟩,cons3_part ev⟩
theorem info3n : (Tryz.prog.info? 3).map (fun i => (i.zero,i.size,i.bytes)) = some (some (.int .i64 0),1,8) := by kernel_rfl
theorem pput_some (P : Nat) (fp : List Nat) (left : Nat) (x : M.Watch) (c : UInt8) (w : World) (h : ListensAt w P fp left x) (hov : x.over = false) (hlp : ∀ l,l ∈ x.lits → 0 < l.length) (hx : (x.put c).1 = some 0) :
  Calls Tryz.prog 94 #[.pointer (some ⟨P,0,none⟩),byteV c] w fun e w' => e = .returned (.slice none 0 0) ∧ PlayOver w' P ∧ Only fp w w' := by
 obtain ⟨D,D0,cd,X,W,fpw,x5,rfl,h⟩ := h
 obtain ⟨i3,e0,e1,e2,e3⟩ := info_parts info3n
 have c3 : w.cell? ⟨P,3,none⟩ = some (.pointer (some ⟨W,0,none⟩)) := cell_at h.str rfl
 have c6 : w.cell? ⟨P,6,none⟩ = some (.int .i64 0) := cell_at h.str rfl
 have hc := wput_w W fpw x c w h.wat hov hlp
 rw [hx] at hc
 change Calls Tryz.prog 95 _ w (fun e w' => e = .returned (.tuple #[.int .i64 0,.bool true]) ∧ ∃ fp',Watched w' W fp' (x.put c).2 ∧ Ev w w' fpw fp') at hc
 have HC := LH hc
 have HH := LH h
 have HI := LH (AI e0 (AI e1 (AI e2 e3)))
 clear hc h hx hov hlp e0 e1 e2 e3
 go_enter Tryz.func94,Tryz.ntmps94
 go_upto_region 6 with (go_at_call 95;refine HC.out.mono ?_;rintro e w1 ⟨rfl,fp',hw1,ev1⟩;have H1 := LH (AI hw1 ev1);clear hw1 ev1)
 have h1 := H1.out.2.only.heap HH.out.str HH.out.sep.2.1
 have d1 := HH.out.dlg.of_only H1.out.2.only (sep_two HH.out.sep.2.2.1 HH.out.sep.2.2.2)
 have t7 : w1.cell? ⟨P,7,none⟩ = some (.slice none 0 0) := cell_at h1 rfl
 have f7 : w1.frozen? ⟨P,7,none⟩ = false := free_at h1
 have hP1 := heap_lt h1
 have HD := LH (AI h1 d1)
 clear h1 d1
 go_upto_region 8 with (at_builtin;refine wpList_append_lies _ rfl (.tmp 34) (.tmp 36) 155 rfl w1.heap.size 3 i3 (.int .i64 0) 1 8 Tryz.underlying155 HI.out.1 HI.out.2.1 HI.out.2.2.1 HI.out.2.2.2 rfl (by omega) (.slice none 0 0) 0 [] rfl (World.ownsRow_nil _ _ _ _) ⟨w1.heap.size,0,none⟩ 1 1 [.int .i64 0] rfl rfl (World.news_of_block (cs := #[.int .i64 0]) (t := 3) (fr := (0,0)) (heap_alloc_new w1 _)) (by simp [Value.oneCell']) (by omega) (by unfold maxLen;omega) (by omega) (by simp) (w1.heap.size + 1) (by simp) ?_;intro gg cp w2 own2 grow2 at2 lt2;have o12 : Only [] w1 w2 := ((Only.refl [] w1).alloc _).trans ((only_grown grow2).weaken (by simp [Value.ownBlock]));have h2 := o12.heap HD.out.1 (by simp);have t72 : w2.cell? ⟨P,7,none⟩ = some (.slice none 0 0) := cell_at h2 rfl;have f72 : w2.frozen? ⟨P,7,none⟩ = false := free_at h2;have t32 : w2.cell? ⟨P,3,none⟩ = some (.pointer (some ⟨W,0,none⟩)) := cell_at h2 rfl;have f32 : w2.frozen? ⟨P,3,none⟩ = false := free_at h2;have H2 := LH (AI h2 (AI o12 (HD.out.2.of_none o12)));clear h2 o12 own2 grow2 at2 lt2)
 generalize hw3 : World.setCell (World.setCell w2 _ _) _ _ = w3
 have H3 := LH (show w3.heap[P]? = some (.cells (playCells D cd 1 X (.pointer none) left x5 (.slice (some ⟨gg,0,none⟩) 1 cp) 0) 157 (0,0)) ∧ DlgAt w3 D D0 ∧ Only [P] w2 w3 by
  subst hw3
  have o23 : Only [P] w2 ((w2.setCell ⟨P,7,none⟩ (.slice (some ⟨gg,0,none⟩) 1 cp)).setCell ⟨P,3,none⟩ (.pointer none)) := (only_set w2 P 7 _).trans (only_set _ P 3 _)
  exact ⟨hs_same (hs_same H2.out.1 rfl) rfl,H2.out.2.2.of_only o23 HH.out.sep.1,o23⟩)
 clear hw3
 have c0 : w3.cell? ⟨P,0,none⟩ = some (.slice (some ⟨D,0,none⟩) 5 cd) := cell_at H3.out.1 rfl
 have c1 : w3.cell? ⟨P,1,none⟩ = some (.int .i64 1) := cell_at H3.out.1 rfl
 obtain ⟨a0,a1,a2,a3,a4,a5,a6⟩ := H3.out.2.1.s1
 obtain ⟨d0,d1⟩ := H3.out.2.1.a0
 go_still_tail 16,(by kernel_rfl)
 go_wp2_with (first
  | (go_at_call 97;refine (jump_b P D cd X D0 1 left 0 (.pointer none) x5 (.slice (some ⟨gg,0,none⟩) 1 cp) _ (((Only.refl [] w3).drew).heap H3.out.1 (by simp)) (H3.out.2.1.of_none ((Only.refl [] w3).drew))).mono ?_;rintro e w4 ⟨rfl,h4,o4⟩;have H4 := LH (AI h4 (AI (((Only.refl [P] w3).drew).trans o4 : Only [P] w3 w4) ((H3.out.2.1.of_none ((Only.refl [] w3).drew)).of_only o4 HH.out.sep.1)));clear h4 o4)
  | (go_at_call 65;refine (run_done P D cd X D0 left x5 (.slice (some ⟨gg,0,none⟩) 1 cp) w4 H4.out.1 H4.out.2.2 HH.out.sep.1).mono ?_;rintro e w5 ⟨rfl,h5,o5⟩;have H5 := LH (AI h5 o5);clear h5 o5))
 go_ret
 have oA : Only (P :: D :: D0 :: fpw) w w1 := H1.out.2.only.weaken (fun b hb => by simp [hb])
 have oB : Only (P :: D :: D0 :: fpw) w1 w2 := H2.out.2.1.weaken (by simp)
 have oC : Only (P :: D :: D0 :: fpw) w2 w5 := ((H3.out.2.2.trans H4.out.2.1).trans H5.out.2).weaken (by simp)
 exact ⟨rfl,⟨D,cd,4,X,_,_,_,_,H5.out.1⟩,(oA.trans oB).trans oC⟩
theorem ptick_any (P : Nat) (fp : List Nat) (left : Nat) (x : M.Watch) (w : World) (h : ListensAt w P fp left x) (hl : 1 < left) (hl2 : left ≤ 1000) :
  Calls Tryz.prog 70 #[.pointer (some ⟨P,0,none⟩)] w fun e w' => e = .returned (.slice none 0 0) ∧ ListensAt w' P fp (left - 1) x ∧ Only fp w w' := by
 obtain ⟨D,D0,cd,X,W,fpw,x5,rfl,h⟩ := h
 obtain ⟨b,rfl⟩ : ∃ b,left = b + 1 := ⟨left - 1,by omega⟩
 have c3 : w.cell? ⟨P,3,none⟩ = some (.pointer (some ⟨W,0,none⟩)) := cell_at h.str rfl
 have c6 : w.cell? ⟨P,6,none⟩ = some (.int .i64 0) := cell_at h.str rfl
 have c4 : w.cell? ⟨P,4,none⟩ = some (.int .i64 (b + 1 : Nat)) := cell_at h.str rfl
 have f4 : w.frozen? ⟨P,4,none⟩ = false := free_at h.str
 have hb : (0 : Int) < (b : Int) := by omega
 obtain ⟨q,hq⟩ : ∃ q : Int,q = ((b + 1 : Nat) : Int) := ⟨_,rfl⟩
 have hqb : IntKind.i64.wrap (q - 1) = (b : Int) := by rw [IntKind.wrap_i64,hq];omega
 rw [← hq] at c4
 have HH := LH h
 clear h
 go_enter Tryz.func70,Tryz.ntmps70
 go_wp2_with fail
 go_ret
 have oT : Only [P] w (w.setCell ⟨P,4,none⟩ (.int .i64 b)) := only_set w P 4 _
 have hs : Sep fpw [P] := fun z hz hm => by simp at hm;subst hm;exact HH.out.sep.2.1 hz
 exact ⟨rfl,⟨D,D0,cd,X,W,fpw,x5,rfl,hs_same HH.out.str rfl,HH.out.dlg.of_only oT HH.out.sep.1,HH.out.wat.of_only oT hs,HH.out.sep⟩,oT.weaken (by simp)⟩
def stepZ : Value := .agg #[.string ⟨#[]⟩,.int .i64 0,.string ⟨#[]⟩,.slice none 0 0,.int .i64 0,.string ⟨#[]⟩,.int .i64 0]
theorem info192 : (Tryz.prog.info? 192).map (fun i => (i.zero,i.size,i.bytes)) = some (some stepZ,7,96) := by kernel_rfl
theorem dlg_one (D0 : Nat) : ∀ u,u ∈ (dlgCells D0).toList → u.oneCell' = true := by
 intro u hu
 simp only [dlgCells,List.mem_cons,List.not_mem_nil,or_false] at hu
 rcases hu with rfl | rfl | rfl | rfl | rfl | rfl | rfl | rfl | rfl | rfl | rfl | rfl | rfl | rfl | rfl | rfl | rfl | rfl | rfl | rfl | rfl | rfl | rfl | rfl | rfl | rfl | rfl | rfl | rfl | rfl | rfl | rfl | rfl | rfl | rfl <;> rfl
theorem dlg_news {w : World} {D D0 : Nat} (h : DlgAt w D D0) (j : Nat) (u : Value) (e : (dlgCells D0).toList[j]? = some u) : w.cell? ((⟨D,0,none⟩ : Addr).add j) = some u := by
 have h1 := h.cell j e
 by_cases hj : j = 0
 ·subst hj;simpa [Addr.add] using h1
 ·simpa [Addr.add,hj] using h1
theorem dlg_copy {w : World} {base g cp D D0 : Nat} (h : DlgAt w D D0) (own : w.ownsRow base 192 7 (.slice (some ⟨g,0,none⟩) 5 cp) 5 (dlgCells D0).toList) : DlgAt w g D0 := by
 refine ⟨h.arm,?_⟩
 rcases own.2 with ⟨e,_⟩ | ⟨g',cap,cur,e,_,hh,_,_,_,ht⟩
 ·simp at e
 ·simp at e
  obtain ⟨e1,_⟩ := e
  subst e1
  exact ⟨cur,hh,ht⟩
theorem pof_any (D D0 : Nat) (w : World) (h : DlgAt w D D0) :
  Calls Tryz.prog 43 #[.slice (some ⟨D,0,none⟩) 5 5] w fun e w' => ∃ P v fp,e = .returned (.tuple #[.pointer (some ⟨P,0,none⟩),v]) ∧ Out w w' v [13] ∧ ListensAt w' P (P :: fp) 8 (M.watchOf [[61,62,32]]) ∧ (∀ b,b ∈ (P :: fp) → w.heap.size ≤ b ∨ b = D0) ∧ (∀ g,v.ownBlock = some g → g ∉ (P :: fp)) ∧ Only [] w w' := by
 obtain ⟨i1,e0,e1,e2,e3⟩ := info_parts info192
 have hmk := fun w => run_makeMap (P := Tryz.prog) 153 w
 have HH := LH h
 have HI := LH (AI e0 (AI e1 (AI e2 e3)))
 clear h e0 e1 e2 e3
 go_enter Tryz.func43,Tryz.ntmps43
 go_upto_region 2 with (at_builtin;go_loud (refine wpList_append_lies _ rfl (.const (.slice none 0 0)) (.tmp 7) 32 rfl w.heap.size 192 i1 stepZ 7 96 Tryz.underlying32 HI.out.1 HI.out.2.1 HI.out.2.2.1 HI.out.2.2.2 rfl (by omega) (.slice none 0 0) 0 [] rfl (World.ownsRow_nil _ _ _ _) ⟨D,0,none⟩ 5 5 (dlgCells D0).toList rfl rfl (fun j u e => dlg_news HH.out j u e) (dlg_one D0) (by omega) (by unfold maxLen;omega) (by omega) (Nat.le_refl _) w.heap.size rfl ?_;intro gg cp w1 own1 grow1 at1 lt1))
 have o1 : Only [] w w1 := (only_grown grow1).weaken (by simp [Value.ownBlock])
 have hgg : w.heap.size ≤ gg := (own1.lt gg rfl).1
 obtain ⟨X,hX⟩ : ∃ X,X = w1.heap.size := ⟨_,rfl⟩
 obtain ⟨P,hP⟩ : ∃ P,P = X + 1 := ⟨_,rfl⟩
 obtain ⟨w2,hw2⟩ : ∃ w2,w2 = (w1.alloc (.map #[] 0)).alloc (.cells #[.slice (some ⟨gg,0,none⟩) 5 cp,.int .i64 0,.map (some X),.pointer none,.int .i64 0,.int .i64 0,.int .i64 0,.slice none 0 0] 157) := ⟨_,rfl⟩
 have h2 : w2.heap[P]? = some (.cells (playCells gg cp 0 X (.pointer none) 0 (.int .i64 0) (.slice none 0 0) 0) 157 (0,0)) := by
  rw [hw2,hP,hX];exact new1 w1 _ _
 have o12 : Only [] w1 w2 := by rw [hw2];exact ((Only.refl [] w1).alloc _).alloc _
 have d2 := HH.out.of_none (o1.trans o12)
 have c2 := (dlg_copy (HH.out.of_none o1) own1).of_none o12
 have hs2 : w2.heap.size = P + 1 := by rw [hw2,hP,hX];simp
 have H2 := LH (AI h2 (AI d2 (AI c2 (AI (o1.trans o12) (AI hs2 (AI hgg lt1))))))
 rw [← hX,← hP,← hw2]
 have hXP : gg < P := by omega
 have hwP : w.heap.size < P := by have := o1.size;omega
 clear hw2 h2 o1 o12 d2 c2 own1 grow1 at1 lt1 hX hP hs2
 go_wp2_with (first
  | (go_at_call 64;refine (check_dlg w2 D D0 H2.out.2.1).mono ?_;rintro e w3 ⟨rfl,o3⟩;have H3 := LH (AI (o3.heap H2.out.1 (by simp)) (AI (H2.out.2.2.1.of_none o3) o3));clear o3)
  | (go_at_call 65;refine (run_first P gg cp X D0 0 (.int .i64 0) (.slice none 0 0) w3 H3.out.1 H3.out.2.1 (by omega) (by have := heap_lt HH.out.arm;omega)).mono ?_;rintro e w4 ⟨v,W,fp,rfl,hv,h4,hwt,hfp,hvf,o4⟩;have H4 := LH (AI hv (AI h4 (AI hwt (AI hfp (AI hvf o4)))));clear hv h4 hwt hfp hvf o4))
 go_ret2
 obtain ⟨hv,h4,hwt,hfp,hvf,o4⟩ := H4.out
 obtain ⟨p2,d2,c2,o2,hs2,hgg,hlt⟩ := H2.out
 obtain ⟨p3,c3,o3⟩ := H3.out
 have hs3 := o3.size
 have hD0 := heap_lt HH.out.arm
 have hsep : Sep [gg,D0] [P] := sep_two (by simp;omega) (by simp;omega)
 refine ⟨P,v,gg :: D0 :: fp,rfl,?_,⟨gg,D0,cp,X,W,fp,.int .i64 0,rfl,h4,c3.of_only o4 hsep,hwt,hsep,?_,?_,?_⟩,?_,?_,?_⟩
 ·exact ownsRow_base hv (Nat.le_trans o2.size hs3)
 ·intro hm;have := hfp _ hm;omega
 ·intro hm;have := hfp _ hm;omega
 ·intro hm;have := hfp _ hm;omega
 ·intro b hb
  simp only [List.mem_cons] at hb
  rcases hb with rfl | rfl | rfl | hb
  ·left;omega
  ·left;omega
  ·right;rfl
  ·left;have := hfp b hb;omega
 ·intro q e hm
  have := (hv.lt q e).1
  simp only [List.mem_cons] at hm
  rcases hm with h' | h' | h' | h'
  ·omega
  ·omega
  ·omega
  ·exact hvf q e h'
 ·exact (o2.trans o3).fresh' o4 (by intro b hb;simp at hb;omega)
end Go.Proofs.YtplaamfoeaaaiaaGreatDoor
