/- A part of the proofs of the laws of lifelinetop (TopNever, TopLost, TopRoom): contracts of functions that these laws reach. No condition of its own. -/
import Derived.Test.YtplaamfoeaaaiaaGreatDoorK02
import Derived.Test.YtplaamfoeaaaiaaGreatDoorK28
import Derived.Lib.SlBytesConst
set_option maxRecDepth 100000
set_option maxHeartbeats 8000000
set_option linter.unusedVariables false
namespace Go.Proofs.YtplaamfoeaaaiaaGreatDoor
open Go.RowKit
structure Parts4 (T S : Nat) (l f r : List Nat) : Prop where
 st : S ≠ T
 tl : T ∉ l
 tf : T ∉ f
 tr : T ∉ r
 sl : S ∉ l
 sf : S ∉ f
 sr : S ∉ r
 lf : Sep l f
 lr : Sep l r
 fr : Sep f r
theorem Brd.parts {w : World} {T S n : Nat} {vl tv vr : Value} {tf : List Nat} {t : M.Board} {G : Nat → Nat} (h : Brd w T S vl tv tf vr n t G) : Parts4 T S (ownL vl) tf (ownL vr) :=
 ⟨fun e => by have := h.gT;have := h.gS;rw [e] at this;omega,h.gl.not_mem h.gT (by omega),h.gt.not_mem h.gT (by omega),h.gr.not_mem h.gT (by omega),h.gl.not_mem h.gS (by omega),h.gt.not_mem h.gS (by omega),h.gr.not_mem h.gS (by omega),h.gl.sep h.gt (by omega),h.gl.sep h.gr (by omega),h.gt.sep h.gr (by omega)⟩
theorem Sep.one {f : List Nat} {T : Nat} (h : T ∉ f) : Sep f [T] := fun b hb hx => by simp at hx;subst hx;exact h hb
theorem Sep.cons {f g : List Nat} {T : Nat} (h : T ∉ f) (k : Sep f g) : Sep f (T :: g) := fun b hb hx => by
 rcases List.mem_cons.1 hx with rfl | hx
 ·exact h hb
 ·exact k b hb hx
theorem Brd.sto' {w w' : World} {T S n : Nat} {vl tv vr : Value} {tf ks : List Nat} {t : M.Board} {G : Nat → Nat} (h : Brd w T S vl tv tf vr n t G) (ho : Only ks w w') (hk : S ∉ ks) : Stored w' S t.store := h.sto.of_only ho hk
theorem Brd.lin' {w w' : World} {T S n : Nat} {vl tv vr : Value} {tf ks : List Nat} {t : M.Board} {G : Nat → Nat} (h : Brd w T S vl tv tf vr n t G) (ho : Only ks w w') (hk : Sep (ownL vl) ks) : RowB w' vl t.line := ownsRow_only h.lin ho (fun g e => hk g (mem_ownL.2 e))
theorem Brd.tak' {w w' : World} {T S n : Nat} {vl tv vr : Value} {tf ks : List Nat} {t : M.Board} {G : Nat → Nat} (h : Brd w T S vl tv tf vr n t G) (ho : Only ks w w') (hk : Sep tf ks) : Takes w' tv tf t.taker := h.tak.of_only ho hk
theorem Brd.rep' {w w' : World} {T S n : Nat} {vl tv vr : Value} {tf ks : List Nat} {t : M.Board} {G : Nat → Nat} (h : Brd w T S vl tv tf vr n t G) (ho : Only ks w w') (hk : Sep (ownL vr) ks) : ∃ xs,w'.ownsRow 0 250 3 vr n xs := by
 obtain ⟨xs,hx⟩ := h.rep
 exact ⟨xs,ownsRow_only hx ho (fun g e => hk g (mem_ownL.2 e))⟩
theorem Brd.of_none {w w' : World} {T S n : Nat} {vl tv vr : Value} {tf : List Nat} {t : M.Board} {G : Nat → Nat} (h : Brd w T S vl tv tf vr n t G) (ho : Only [] w w') : Brd w' T S vl tv tf vr n t G :=
 ⟨ho.heap h.str (by simp),h.sto' ho (by simp),h.lin' ho (fun b _ => by simp),h.tak' ho (fun b _ => by simp),h.rep' ho (fun b _ => by simp),h.gT,h.gS,h.gl,h.gt,h.gr,h.ll,h.ok⟩
def takerOf (way : Nat) (c : M.Cfg) : M.Taker := if way = 3 then .batch (M.brcvOf c) else .one (M.rcvOf c 1 (way != 0) true 1)
structure LoadLine (line : M.B) (way addr : Nat) : Prop where
 words : Words line loadB (M.ways.getD way []) (M.digits 16 addr)
 ha : addr < 4400
 hw : way = 0 ∨ way = 1 ∨ way = 3
 does : ∀ t : M.Board,t.does line = ([],{ t with addr := addr,taker := takerOf way t.cfg })
structure SumLine (line : M.B) (x y : Nat) : Prop where
 words : Words line sumB (M.digits 16 x) (M.digits 16 y)
 hx : x < 4400
 hy : y < 4400
 does : ∀ t : M.Board,t.does line = (M.lineOf x y (M.printOf (t.read x y)) ++ M.prompt,t)
def LineOk (line : M.B) : Prop := (∃ way addr,LoadLine line way addr) ∨ ∃ x y,SumLine line x y
theorem begin_way (way addr T S : Nat) (vl tv vr : Value) (t : M.Board) (hw : way = 0 ∨ way = 1 ∨ way = 3) (hc : CfgOk t.cfg) (wx : World) (h : wx.heap[T]? = some (.cells (brdA t S vl tv vr) 84 (0,0))) :
  Calls Tryz.prog 119 #[.pointer (some ⟨T,0,none⟩),strB (M.ways.getD way []),.int .i64 addr] wx (BegPost T S addr vl vr t (takerOf way t.cfg) wx) := by
 rw [ways_eq]
 rcases hw with rfl | rfl | rfl
 ·exact begin0_any T S addr vl tv vr t wx h hc
 ·exact begin1_any T S addr vl tv vr t wx h hc
 ·exact begin3_any T S addr vl tv vr t wx h hc
def PPost (w : World) (T : Nat) (fp : List Nat) (N : Nat) (r : M.B × M.Board) (x : Ending) (w' : World) : Prop :=
 ∃ v ro fp',x = .returned v ∧ Slc w' ro v r.1 ∧ (∀ b,b ∈ ro → w.heap.size ≤ b ∧ b ∉ fp') ∧ Boarded w' T fp' N r.2 ∧ Ev w w' fp fp'
theorem put1_end {w w2 w3 : World} {T S n N C : Nat} {vl tv vr : Value} {tf fp : List Nat} {t : M.Board} {G : Nat → Nat} {bs : List UInt8} (h : Brd w2 T S vl tv tf vr n t G) (hn : n ≤ N) (hs : w.heap.size ≤ w2.heap.size) (ho : Only fp w w2) (hgr : Grow fp (dfp T S vl tf vr) w) (z1 : bs.length ≤ C) (z2 : C ≤ maxLen) (z3 : Only [] w2 w3) (z5 : Bytes w3 (some ⟨w2.heap.size,0,none⟩) bs) :
  PPost w T fp N (bs,t) (.returned (.slice (some ⟨w2.heap.size,0,none⟩) bs.length C)) w3 := by
 refine ⟨_,[w2.heap.size],_,rfl,⟨_,_,rfl,z5,z1,z2,fun e => (by cases e),fun x e => (by cases e;simp)⟩,fun b hb => ?_,⟨S,vl,tv,tf,vr,n,G,hn,rfl,h.of_none z3⟩,⟨ho.trans (z3.weaken (by simp)),hgr⟩⟩
 simp only [List.mem_cons,List.not_mem_nil,or_false] at hb
 subst hb
 exact ⟨hs,fun hm => by have := h.live _ hm;omega⟩
theorem put1_cases (t : M.Board) (c : UInt8) : (t.asleep = true ∧ t.put1 c = ([13,10,61,62,32],{ t with asleep := false })) ∨ (t.asleep = false ∧ c = 13 ∧ t.put1 c = M.Board.does { t with line := [] } t.line) ∨ (t.asleep = false ∧ c ≠ 13 ∧ t.line.length < 80 ∧ t.put1 c = ([],{ t with line := t.line ++ [c] })) ∨ (t.asleep = false ∧ c ≠ 13 ∧ ¬ t.line.length < 80 ∧ t.put1 c = ([],t)) := by
 by_cases ha : t.asleep = true
 ·left;exact ⟨ha,by unfold M.Board.put1;rw [if_pos ha];rfl⟩
 ·right
  have hf : t.asleep = false := by simpa using ha
  by_cases hc : c = 13
  ·left;exact ⟨hf,hc,by unfold M.Board.put1;rw [if_neg ha,if_pos hc]⟩
  ·right
   by_cases hl : t.line.length < 80
   ·left;refine ⟨hf,hc,hl,?_⟩
    unfold M.Board.put1;rw [if_neg ha,if_neg hc,if_pos hl]
   ·right;refine ⟨hf,hc,hl,?_⟩
    unfold M.Board.put1;rw [if_neg ha,if_neg hc,if_neg hl]
theorem put1_asleep (T : Nat) (fp : List Nat) (N : Nat) (t : M.Board) (c : UInt8) (w : World) (h : Boarded w T fp N t) (ha : t.asleep = true) :
  Calls Tryz.prog 76 #[.pointer (some ⟨T,0,none⟩),byteV c] w (PPost w T fp N ([13,10,61,62,32],{ t with asleep := false })) := by
 obtain ⟨S,vl,tv,tf,vr,n,G,hn,rfl,hb⟩ := h
 have c3 : w.cell? ⟨T,3,none⟩ = some (.bool true) := by rw [← ha];exact cell_at hb.str rfl
 have f3 : w.frozen? ⟨T,3,none⟩ = false := free_at hb.str
 have hP := hb.parts
 have hsz : (w.setCell ⟨T,3,none⟩ (.bool false)).heap.size = w.heap.size := by simp
 have hk := Lib.run_convert_bytes_const (P := Tryz.prog) (w.setCell ⟨T,3,none⟩ (.bool false)) 22 5 #[.int .u8 13,.int .u8 10,.int .u8 61,.int .u8 62,.int .u8 32] 5 5 Tryz.underlying22 Tryz.underlying5
 rw [hsz] at hk
 have H := LH (AI hb (AI hn hP))
 clear hb hn ha hP hsz
 go_enter Tryz.func76,Tryz.ntmps76
 go_wp2_with fail
 go_ret
 have oT : Only [T] w ((w.setCell ⟨T,3,none⟩ (.bool false)).alloc (.cells #[.int .u8 13,.int .u8 10,.int .u8 61,.int .u8 62,.int .u8 32] 5 (5,6))) := (only_set w T 3 _).alloc _
 have hT := heap_lt H.out.1.str
 have hsz : (w.setCell ⟨T,3,none⟩ (.bool false)).heap.size = w.heap.size := by simp
 have hblk := heap_alloc_new (w.setCell ⟨T,3,none⟩ (.bool false)) (.cells #[.int .u8 13,.int .u8 10,.int .u8 61,.int .u8 62,.int .u8 32] 5 (5,6))
 rw [hsz] at hblk
 have hP := H.out.2.2
 obtain ⟨q1,q2⟩ := H.out.1.step (w' := (w.setCell ⟨T,3,none⟩ (.bool false)).alloc (.cells #[.int .u8 13,.int .u8 10,.int .u8 61,.int .u8 62,.int .u8 32] 5 (5,6))) (vl' := vl) (tv' := tv) (vr' := vr) (tf' := tf) (n' := n) (t' := { t with asleep := false }) 9 ((Below.heap_alloc _ _ _ (by rw [hsz];exact hT)).trans (hs_same H.out.1.str rfl)) (H.out.1.sto' oT (by simpa using hP.st)) (H.out.1.lin' oT (Sep.one hP.tl)) (H.out.1.tak' oT (Sep.one hP.tf)) (H.out.1.rep' oT (Sep.one hP.tr)) (.inl fun b h => h) (.inl fun b h => h) (.inl fun b h => h) H.out.1.ll H.out.1.ok
 refine ⟨_,[w.heap.size],_,rfl,⟨some ⟨w.heap.size,0,none⟩,5,rfl,Bytes.of_block hblk ?_,by simp,by simp [maxLen],fun e => by simp at e,fun x e => by cases e;simp⟩,?_,⟨S,vl,tv,tf,vr,n,_,H.out.2.1,rfl,q1⟩,⟨oT.weaken (by simp [dfp]),q2⟩⟩
 ·intro i hi
  match i,hi with
  | 0,_ => rfl
  | 1,_ => rfl
  | 2,_ => rfl
  | 3,_ => rfl
  | 4,_ => rfl
 ·intro b hb
  simp only [List.mem_cons,List.not_mem_nil,or_false] at hb
  subst hb
  refine ⟨Nat.le_refl _,fun hm => ?_⟩
  have := H.out.1.live _ hm
  omega
theorem put1_more (T : Nat) (fp : List Nat) (N : Nat) (t : M.Board) (c : UInt8) (w : World) (h : Boarded w T fp N t) (ha : t.asleep = false) (hc : c ≠ 13) (hl : t.line.length < 80) :
  Calls Tryz.prog 76 #[.pointer (some ⟨T,0,none⟩),byteV c] w (PPost w T fp N ([],{ t with line := t.line ++ [c] })) := by
 obtain ⟨S,vl,tv,tf,vr,n,G,hn,rfl,hb⟩ := h
 obtain ⟨la,lc,rfl⟩ := own_slice hb.lin
 have c3 : w.cell? ⟨T,3,none⟩ = some (.bool false) := by rw [← ha];exact cell_at hb.str rfl
 have c4 : w.cell? ⟨T,4,none⟩ = some (.slice la t.line.length lc) := cell_at hb.str rfl
 have f4 : w.frozen? ⟨T,4,none⟩ = false := free_at hb.str
 have hd : ((c.toNat : Int) == 13) = false := by
  simp
  intro h
  exact hc (UInt8.toNat_inj.1 (by simpa using (by exact_mod_cast h : c.toNat = 13)))
 obtain ⟨K,hK⟩ : ∃ K,K = t.line.length := ⟨_,rfl⟩
 rw [← hK] at hl c4
 have hli : (K : Int) < 80 := by omega
 have hP := hb.parts
 have hown : w.ownsRow 0 5 1 (.slice la K lc) K (t.line.map byteV) := by rw [hK];exact hb.lin
 have hT := heap_lt hb.str
 have hTl : (Value.slice la K lc).ownBlock ≠ some T := fun e => hP.tl (by rw [← hK];exact mem_ownL.2 e)
 have H := LH (AI hb (AI hn (AI hP (AI hK hown))))
 clear hb hn ha hP hc hK hown
 go_enter Tryz.func76,Tryz.ntmps76
 go_upto_region 9 with fail
 have ho1 := (H.out.2.2.2.2).alloc (.cells #[byteV c] 5)
 have hb1 : Bytes (w.alloc (.cells #[byteV c] 5)) (some ⟨w.heap.size,0,none⟩) [c] := Bytes.of_block (heap_alloc_new w _) (fun i hi => by
  match i,hi with
  | 0,_ => rfl)
 have HB := LH hb1
 clear hb1
 go_wp2_with (at_builtin;refine wpList_appAt _ rfl (.tmp 39) (.tmp 41) rfl 0 (.slice la K lc) K t.line rfl ho1 (some ⟨w.heap.size,0,none⟩) 1 1 [c] rfl HB.out rfl (fun e => by simp at e) (t.line ++ [c]) rfl (K + 1) rfl (by omega) (Nat.zero_le _) ?_;intro a' c' w1 p1 p2 p3;have x4 : w1.cell? ⟨T,4,none⟩ = some (.slice la K lc) := (p2.cell_far ⟨T,4,none⟩ (by simp;omega) (Ne.symm hTl)).trans ((World.cell?_alloc_past _ _ _ hT).trans c4);have y4 : w1.frozen? ⟨T,4,none⟩ = false := (p2.frozen_far ⟨T,4,none⟩ (by simp;omega) (Ne.symm hTl)).trans ((World.frozen?_alloc_past _ _ _ hT).trans f4);have HP := LH (AI p1 (AI p2 p3));clear p1 p2 p3)
 go_ret
 have hP := H.out.2.2.1
 have hK := H.out.2.2.2.1
 have hl2 : (t.line ++ [c]).length = K + 1 := by simp;omega
 subst hK
 have oa : Only (ownL (.slice la t.line.length lc)) w w1 := (((Only.refl [] w).alloc _).weaken (by simp)).trans (only_grown HP.out.2.1)
 have oT : Only (T :: ownL (.slice la t.line.length lc)) w (w1.setCell ⟨T,4,none⟩ (.slice a' (t.line.length + 1) c')) := (oa.weaken (by simp;intro g h;exact .inr h)).setCell (by simp) _
 have hT1 : w1.heap[T]? = some (.cells (brdA t S (.slice la t.line.length lc) tv vr) 84 (0,0)) := oa.heap H.out.1.str hP.tl
 have hrow : RowB (w1.setCell ⟨T,4,none⟩ (.slice a' (t.line.length + 1) c')) (.slice a' (t.line.length + 1) c') (t.line ++ [c]) := by
  unfold RowB
  rw [hl2]
  refine ownsRow_only HP.out.1 (only_set w1 T 4 _) (fun g e hb => ?_)
  simp at hb
  subst hb
  rcases HP.out.2.2 g e with h' | h'
  ·exact hTl h'
  ·simp at h';omega
 obtain ⟨q1,q2⟩ := H.out.1.step (w' := w1.setCell ⟨T,4,none⟩ (.slice a' (t.line.length + 1) c')) (vl' := .slice a' (t.line.length + 1) c') (tv' := tv) (vr' := vr) (tf' := tf) (n' := n) (t' := { t with line := t.line ++ [c] }) 2 (hs_same hT1 rfl) (H.out.1.sto' oT (by simp only [List.mem_cons,not_or];exact ⟨hP.st,hP.sl⟩)) hrow (H.out.1.tak' oT (Sep.cons hP.tf hP.lf.symm)) (H.out.1.rep' oT (Sep.cons hP.tr hP.lr.symm)) (.inr ⟨rfl,fun b hb => by
   rcases HP.out.2.2 b (mem_ownL.1 hb) with h' | h'
   ·exact .inl (mem_ownL.2 h')
   ·right;simp at h';omega⟩) (.inl fun b h => h) (.inl fun b h => h) (by show (t.line ++ [c]).length ≤ 80;omega) H.out.1.ok
 refine ⟨_,[],_,rfl,Slc.nil _ _,fun b hb => by simp at hb,⟨S,_,tv,tf,vr,n,_,H.out.2.1,rfl,q1⟩,⟨oT.weaken (fun b hb => ?_),q2⟩⟩
 rcases List.mem_cons.1 hb with rfl | hb
 ·simp
 ·simp [dfp,hb]
theorem put1_full (T : Nat) (fp : List Nat) (N : Nat) (t : M.Board) (c : UInt8) (w : World) (h : Boarded w T fp N t) (ha : t.asleep = false) (hc : c ≠ 13) (hl : ¬ t.line.length < 80) :
  Calls Tryz.prog 76 #[.pointer (some ⟨T,0,none⟩),byteV c] w (PPost w T fp N ([],t)) := by
 obtain ⟨S,vl,tv,tf,vr,n,G,hn,rfl,hb⟩ := h
 obtain ⟨la,lc,rfl⟩ := own_slice hb.lin
 have c3 : w.cell? ⟨T,3,none⟩ = some (.bool false) := by rw [← ha];exact cell_at hb.str rfl
 have c4 : w.cell? ⟨T,4,none⟩ = some (.slice la t.line.length lc) := cell_at hb.str rfl
 have hd : ((c.toNat : Int) == 13) = false := by
  simp
  intro h
  exact hc (UInt8.toNat_inj.1 (by simpa using (by exact_mod_cast h : c.toNat = 13)))
 have hli : ¬ ((t.line.length : Int) < 80) := by omega
 have H := LH (AI hb hn)
 clear hb hn ha hc
 go_enter Tryz.func76,Tryz.ntmps76
 go_wp2_with fail
 go_ret
 exact ⟨_,[],_,rfl,Slc.nil _ _,fun b hb => by simp at hb,⟨S,_,tv,tf,vr,n,G,H.out.2,rfl,H.out.1⟩,⟨Only.refl _ _,Grow.refl _ _⟩⟩
theorem put1_load (T : Nat) (fp : List Nat) (N way addr : Nat) (t : M.Board) (w : World) (h : Boarded w T fp N t) (hg : Glob w) (hS : Sep fp glb) (ha : t.asleep = false) (ht : t.taker = .none) (hl : LoadLine t.line way addr) :
  Calls Tryz.prog 76 #[.pointer (some ⟨T,0,none⟩),byteV 13] w (PPost w T fp N (M.Board.does { t with line := [] } t.line)) := by
 obtain ⟨S,vl,tv,tf,vr,n,G,hn,rfl,hb⟩ := h
 obtain ⟨la,lc,rfl⟩ := own_slice hb.lin
 have c3 : w.cell? ⟨T,3,none⟩ = some (.bool false) := by rw [← ha];exact cell_at hb.str rfl
 have c4 : w.cell? ⟨T,4,none⟩ = some (.slice la t.line.length lc) := cell_at hb.str rfl
 have f4 : w.frozen? ⟨T,4,none⟩ = false := free_at hb.str
 obtain ⟨a0,c0,hv0,hby,hb1,hb2,hb3,hb4⟩ := hb.lin.slc
 simp only [Value.slice.injEq] at hv0
 obtain ⟨rfl,_,rfl⟩ := hv0
 have hstr := run_str w la t.line.length lc t.line hby rfl
 have h1 : (w.setCell ⟨T,4,none⟩ (.slice none 0 0)).heap[T]? = some (.cells (brdA { t with line := [] } S (.slice none 0 0) tv vr) 84 (0,0)) := hs_same hb.str rfl
 have o1 : Only [T] w (w.setCell ⟨T,4,none⟩ (.slice none 0 0)) := only_set w T 4 _
 have hTg : Sep [T] glb := fun b hb => by simp at hb;subst hb;exact hS _ (by simp [dfp])
 have HD := doesload_any T S addr (.slice none 0 0) tv vr { t with line := [] } (takerOf way t.cfg) t.line _ _ h1 (hg.of_only o1 hTg) hl.words hl.ha (fun wx hx => begin_way way addr T S _ tv vr { t with line := [] } hl.hw hb.ok wx hx)
 have hm := hl.does { t with line := [] }
 have hP := hb.parts
 have H := LH (AI hb (AI hn (AI hP (AI hm (AI o1 ht)))))
 have HC := fun w => conv_str [] w (by simp [maxLen])
 clear hb hn ha hP hby hb1 hb2 hb3 hb4 h1 o1 hTg hg hS hl hm ht
 go_enter Tryz.func76,Tryz.ntmps76
 go_upto_region 7 with fail
 obtain ⟨w1,hw1⟩ : ∃ w1,w1 = w.setCell ⟨T,4,none⟩ (.slice none 0 0) := ⟨_,rfl⟩
 rw [← hw1] at HD H ⊢
 clear hw1 c3 c4 f4 hstr
 go_wp2_with (go_at_call 101;refine (HD).mono ?_;rintro e w2 ⟨rfl,tv',tf',q1,q2,q3,q4⟩;obtain ⟨C,w3,hconv,z1,z2,z3,z4,z5⟩ := HC w2;have HQ := LH (AI q1 (AI q2 (AI q3 (AI q4 (AI z1 (AI z2 (AI z3 (AI z4 z5))))))));clear q1 q2 q3 q4 z1 z2 z3 z4 z5 HC)
 go_ret
 rw [H.out.2.2.2.1]
 have hP := H.out.2.2.1
 have oT : Only [T] w w2 := H.out.2.2.2.2.1.trans HQ.out.2.2.2.1
 obtain ⟨p1,p2⟩ := H.out.1.step (w' := w2) (vl' := .slice none 0 0) (tv' := tv') (vr' := vr) (tf' := tf') (n' := n) (t' := { t with line := [],addr := addr,taker := takerOf way t.cfg }) 3
  HQ.out.2.2.1 (H.out.1.sto' oT (by simpa using hP.st)) (RowB.nil _) HQ.out.1 (H.out.1.rep' oT (Sep.one hP.tr)) (.inl (by simp [ownL,Value.ownBlock])) (.inr ⟨rfl,fun b hb => .inr (Nat.le_trans H.out.2.2.2.2.1.size (HQ.out.2.1 b hb))⟩) (.inl fun b h => h) (by simp) H.out.1.ok
 exact put1_end (bs := []) p1 H.out.2.1 oT.size (oT.weaken (by simp [dfp])) p2 HQ.out.2.2.2.2.1 HQ.out.2.2.2.2.2.1 HQ.out.2.2.2.2.2.2.1 HQ.out.2.2.2.2.2.2.2.2
theorem mprompt : M.prompt = [61,62,32] := rfl
theorem put1_sum (T : Nat) (fp : List Nat) (N x y : Nat) (t : M.Board) (w : World) (h : Boarded w T fp N t) (hN : N ≤ 1000000) (hg : Glob w) (hS : Sep fp glb) (ha : t.asleep = false) (hl : SumLine t.line x y) :
  Calls Tryz.prog 76 #[.pointer (some ⟨T,0,none⟩),byteV 13] w (PPost w T fp (N + 1) (M.Board.does { t with line := [] } t.line)) := by
 obtain ⟨S,vl,tv,tf,vr,n,G,hn,rfl,hb⟩ := h
 obtain ⟨la,lc,rfl⟩ := own_slice hb.lin
 have c3 : w.cell? ⟨T,3,none⟩ = some (.bool false) := by rw [← ha];exact cell_at hb.str rfl
 have c4 : w.cell? ⟨T,4,none⟩ = some (.slice la t.line.length lc) := cell_at hb.str rfl
 have f4 : w.frozen? ⟨T,4,none⟩ = false := free_at hb.str
 obtain ⟨a0,c0,hv0,hby,hb1,hb2,hb3,hb4⟩ := hb.lin.slc
 simp only [Value.slice.injEq] at hv0
 obtain ⟨rfl,_,rfl⟩ := hv0
 have hstr := run_str w la t.line.length lc t.line hby rfl
 have hP := hb.parts
 have h1 : (w.setCell ⟨T,4,none⟩ (.slice none 0 0)).heap[T]? = some (.cells (brdA { t with line := [] } S (.slice none 0 0) tv vr) 84 (0,0)) := hs_same hb.str rfl
 have o1 : Only [T] w (w.setCell ⟨T,4,none⟩ (.slice none 0 0)) := only_set w T 4 _
 have hTg : Sep [T] glb := fun b hb => by simp at hb;subst hb;exact hS _ (by simp [dfp])
 obtain ⟨xs,hrep⟩ := hb.rep' o1 (Sep.one hP.tr)
 have HD := doessum_any T S x y n (.slice none 0 0) tv vr xs { t with line := [] } t.line _ h1 (hg.of_only o1 hTg) hl.words hl.hx hl.hy (hb.sto' o1 (by simpa using hP.st)) hrep (by omega) (fun e => hP.tr (mem_ownL.2 e)) (hTg _ (by simp)) (fun g e => hS g (by simp [dfp,mem_ownL.2 e]))
 have hm := hl.does { t with line := [] }
 obtain ⟨out,hout⟩ : ∃ out,out = M.lineOf x y (M.printOf (rd t.store x y)) ++ [61,62,32] := ⟨_,rfl⟩
 have hol : out.length ≤ 1000 := by
  rw [hout]
  have := lineOf_len x y (M.printOf (rd t.store x y))
  simp
  omega
 have hm2 : M.Board.does { t with line := [] } t.line = (out,{ t with line := [] }) := by rw [hm,hout,mprompt];rfl
 rw [← hout] at HD
 have H := LH (AI hb (AI hn (AI hP (AI hm2 o1))))
 have HC := fun w => conv_str out w (by unfold maxLen;omega)
 clear hb hn ha hP hby hb1 hb2 hb3 hb4 h1 o1 hTg hg hS hl hm hrep hm2 hout
 go_enter Tryz.func76,Tryz.ntmps76
 go_upto_region 7 with fail
 obtain ⟨w1,hw1⟩ : ∃ w1,w1 = w.setCell ⟨T,4,none⟩ (.slice none 0 0) := ⟨_,rfl⟩
 rw [← hw1] at HD H ⊢
 clear hw1 c3 c4 f4 hstr
 go_wp2_with (go_at_call 101;refine (HD).mono ?_;rintro e w2 ⟨rfl,vr',q1,q2,q3,q4⟩;obtain ⟨C,w3,hconv,z1,z2,z3,z4,z5⟩ := HC w2;have HQ := LH (AI q1 (AI q2 (AI q3 (AI q4 (AI z1 (AI z2 (AI z3 (AI z4 z5))))))));clear q1 q2 q3 q4 z1 z2 z3 z4 z5 HC)
 go_ret
 rw [H.out.2.2.2.1]
 have hP := H.out.2.2.1
 have oT : Only (T :: ownL vr) w w2 := (H.out.2.2.2.2.weaken (by simp)).trans HQ.out.2.2.2.1
 obtain ⟨p1,p2⟩ := H.out.1.step (w' := w2) (vl' := .slice none 0 0) (tv' := tv) (vr' := vr') (tf' := tf) (n' := n + 1) (t' := { t with line := [] }) 4
  HQ.out.1 (H.out.1.sto' oT (by simp only [List.mem_cons,not_or];exact ⟨hP.st,hP.sr⟩)) (RowB.nil _) (H.out.1.tak' oT (Sep.cons hP.tf hP.fr)) HQ.out.2.1 (.inl (by simp [ownL,Value.ownBlock])) (.inl fun b h => h) (.inr ⟨rfl,fun b hb => by
   rcases HQ.out.2.2.1 b (mem_ownL.1 hb) with h' | h'
   ·exact .inl (mem_ownL.2 h')
   ·exact .inr (Nat.le_trans H.out.2.2.2.2.size h')⟩) (by simp) H.out.1.ok
 exact put1_end (bs := out) p1 (by have := H.out.2.1;omega) oT.size (oT.weaken (fun b hb => by
  rcases List.mem_cons.1 hb with rfl | hb
  ·simp
  ·simp [dfp,hb])) p2 HQ.out.2.2.2.2.1 HQ.out.2.2.2.2.2.1 HQ.out.2.2.2.2.2.2.1 HQ.out.2.2.2.2.2.2.2.2
theorem Boarded.mono {w : World} {T N N' : Nat} {fp : List Nat} {t : M.Board} (h : Boarded w T fp N t) (hN : N ≤ N') : Boarded w T fp N' t := by
 obtain ⟨S,vl,tv,tf,vr,n,G,hn,e,hb⟩ := h
 exact ⟨S,vl,tv,tf,vr,n,G,by omega,e,hb⟩
theorem PPost.mono {w w' : World} {T N N' : Nat} {fp : List Nat} {r : M.B × M.Board} {x : Ending} (h : PPost w T fp N r x w') (hN : N ≤ N') : PPost w T fp N' r x w' := by
 obtain ⟨v,ro,fp',h1,h2,h3,h4,h5⟩ := h
 exact ⟨v,ro,fp',h1,h2,h3,h4.mono hN,h5⟩
def Put1Ok (t : M.Board) (c : UInt8) : Prop := t.asleep = false → c = 13 → LineOk t.line
theorem put1_any (T : Nat) (fp : List Nat) (N : Nat) (t : M.Board) (c : UInt8) (w : World) (h : Boarded w T fp N t) (hN : N ≤ 1000000) (hg : Glob w) (hS : Sep fp glb) (ht : t.taker = .none) (hk : Put1Ok t c) :
  Calls Tryz.prog 76 #[.pointer (some ⟨T,0,none⟩),byteV c] w (PPost w T fp (N + 1) (t.put1 c)) := by
 rcases put1_cases t c with ⟨h1,e⟩ | ⟨h1,rfl,e⟩ | ⟨h1,h2,h3,e⟩ | ⟨h1,h2,h3,e⟩
 ·rw [e];exact (put1_asleep T fp N t c w h h1).mono fun _ _ q => q.mono (by omega)
 ·rw [e]
  rcases hk h1 rfl with ⟨way,addr,hl⟩ | ⟨x,y,hl⟩
  ·exact (put1_load T fp N way addr t w h hg hS h1 ht hl).mono fun _ _ q => q.mono (by omega)
  ·exact put1_sum T fp N x y t w h hN hg hS h1 hl
 ·rw [e];exact (put1_more T fp N t c w h h1 h2 h3).mono fun _ _ q => q.mono (by omega)
 ·rw [e];exact (put1_full T fp N t c w h h1 h2 h3).mono fun _ _ q => q.mono (by omega)
end Go.Proofs.YtplaamfoeaaaiaaGreatDoor
