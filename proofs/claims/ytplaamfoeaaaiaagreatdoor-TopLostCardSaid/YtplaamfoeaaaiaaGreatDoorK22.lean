/- A part of the proofs of the laws of lifelinetop (TopNever, TopLost, TopRoom): contracts of functions that these laws reach. No condition of its own. -/
import Derived.Test.YtplaamfoeaaaiaaGreatDoorK02
import Derived.Test.YtplaamfoeaaaiaaGreatDoorK18
import Derived.Test.YtplaamfoeaaaiaaGreatDoorK21
import Derived.LoopN
set_option maxRecDepth 100000
set_option maxHeartbeats 8000000
set_option linter.unusedVariables false
namespace Go.Proofs.YtplaamfoeaaaiaaGreatDoor
open Go.RowKit
theorem TabAt.more {w : World} {ro ro' : List Nat} {T gs gn gf gl cs cn cf cl : Nat} {l : List UInt8} (h : TabAt w ro T gs gn gf gl cs cn cf cl l) (hs : ∀ b,b ∈ ro → b ∈ ro') : TabAt w ro' T gs gn gf gl cs cn cf cl l := by
 obtain ⟨i1,i2,i3,i4,i5⟩ := h.inT
 exact ⟨h.str,⟨hs _ i1,hs _ i2,hs _ i3,hs _ i4,hs _ i5⟩,h.sets,fun k hk => by obtain ⟨g,c,q1,q2⟩ := h.next k hk;exact ⟨g,c,hs _ q1,q2⟩,h.first,h.last,h.len⟩
theorem info230 : (Tryz.prog.info? 230).map (fun i => (i.zero,i.size,i.bytes)) = some (some (.pointer none),1,8) := by kernel_rfl
theorem mk_places (w : World) (n : Nat) (h : n ≤ 64) : (Instr.makeSlice 218 (.int .i64 n) (.int .i64 n)).run Tryz.prog w = .ok (.slice (some ⟨w.heap.size,0,none⟩) n n) (w.alloc (.cells (madeCells #[.slice none 0 0] n) 244)) := by
 obtain ⟨i,hi,hz,hs,hb⟩ := info_parts info244
 have hmk := run_make (P := Tryz.prog) w 218 244 i (.slice none 0 0) Tryz.underlying218 hi hz .i64 .i64 n n (by omega) (by omega) (by rw [hb];omega) (by omega)
 rw [hs] at hmk
 simp only [Int.toNat_natCast,Nat.mul_one] at hmk
 exact hmk
theorem made_list (v : Value) (n : Nat) : (madeCells #[v] n).toList = List.replicate n v := by
 rw [List.eq_replicate_iff]
 refine ⟨by simp [madeCells],fun b hb => ?_⟩
 simp [madeCells] at hb
 obtain ⟨x,_,rfl⟩ := hb
 rw [Nat.mod_one]
 rfl
structure EofAt (w : World) (W ga n : Nat) (vt : Value) (k : Nat) (ps : List Value) (ro : List Nat) (ls : List M.B) : Prop where
 str : w.heap[W]? = some (.cells #[vt,.slice (some ⟨ga,0,none⟩) n n,.int .i64 0,.bool false] 221 (0,0))
 row : ∃ cs : Array Value,w.heap[ga]? = some (.cells cs 244 (0,0)) ∧ cs.toList = List.replicate n (.slice none 0 0)
 rt : w.ownsRow (W + 1) 230 1 vt k ps
 tab : ∀ (j : Nat) (l : M.B),j < k → ls[j]? = some l → ∃ T gs gn gf gl cs cn cf cl,ps[j]? = some (.pointer (some ⟨T,0,none⟩)) ∧ TabAt w ro T gs gn gf gl cs cn cf cl l
 away : ∀ b,b ∈ ro → W < b ∧ vt.ownBlock ≠ some b
 live : Live w ro
 old : ga < W
theorem EofAt.of_none {w w' : World} {W ga n k : Nat} {vt : Value} {ps : List Value} {ro : List Nat} {ls : List M.B} (h : EofAt w W ga n vt k ps ro ls) (ho : Only [] w w') : EofAt w' W ga n vt k ps ro ls := by
 obtain ⟨cs,h2,h3⟩ := h.row
 refine ⟨ho.heap h.str (by simp),⟨cs,ho.heap h2 (by simp),h3⟩,ownsRow_only h.rt ho (fun g _ => by simp),fun j l hj e => ?_,h.away,h.live.ev ho.size,h.old⟩
 obtain ⟨T,gs,gn,gf,gl,cs,cn,cf,cl,t1,t2⟩ := h.tab j l hj e
 exact ⟨T,gs,gn,gf,gl,cs,cn,cf,cl,t1,t2.of_only ho (fun b _ => by simp)⟩
theorem EofAt.ne {w : World} {W ga n k : Nat} {vt : Value} {ps : List Value} {ro : List Nat} {ls : List M.B} (h : EofAt w W ga n vt k ps ro ls) : vt.ownBlock ≠ some W ∧ vt.ownBlock ≠ some ga :=
 ⟨fun e => by have := (h.rt.lt W e).1;omega,fun e => by have := (h.rt.lt ga e).1;have := h.old;omega⟩
theorem EofAt.push {w w1 : World} {W ga n k : Nat} {vt : Value} {ps : List Value} {ro ro3 : List Nat} {ls : List M.B} {o : Obj} {gg cp T gs gn gf gl cs cn cf cl N : Nat} {l : M.B} (h : EofAt w W ga n vt k ps ro ls) (hl : ls[k]? = some l) (hps : ps.length = k) (ht : TabAt w ro3 T gs gn gf gl cs cn cf cl l) (hn : ∀ b,b ∈ ro3 → N ≤ b) (hlv : Live w ro3) (hN : W < N) (hvN : ∀ g,vt.ownBlock = some g → g < N) (own : w1.ownsRow (W + 1) 230 1 (.slice (some ⟨gg,0,none⟩) (k + 1) cp) (k + 1) (ps ++ [.pointer (some ⟨T,0,none⟩)])) (grow : (w.alloc o).drew.grownBy w1 vt.ownBlock) (at' : vt.ownBlock = some gg ∨ gg = w.heap.size + 1) :
  EofAt (w1.setCell ⟨W,0,none⟩ (.slice (some ⟨gg,0,none⟩) (k + 1) cp)) W ga n (.slice (some ⟨gg,0,none⟩) (k + 1) cp) (k + 1) (ps ++ [.pointer (some ⟨T,0,none⟩)]) (ro3 ++ ro) ls := by
 have ho := push_only (T := W) (i := 0) (u := .slice (some ⟨gg,0,none⟩) (k + 1) cp) grow
 obtain ⟨n1,n2⟩ := h.ne
 obtain ⟨ks,r1,r2⟩ := h.row
 have hold := h.old
 have hWl := heap_lt h.str
 have sep0 : Sep ro (W :: ownL vt) := fun b hb hm => by
  obtain ⟨a1,a2⟩ := h.away b hb
  rcases List.mem_cons.1 hm with e | e
  ·omega
  ·exact a2 (mem_ownL.1 e)
 have sep3 : Sep ro3 (W :: ownL vt) := fun b hb hm => by
  have := hn b hb
  rcases List.mem_cons.1 hm with e | e
  ·omega
  ·have := hvN b (mem_ownL.1 e);omega
 refine ⟨?_,⟨ks,ho.heap r1 ?_,r2⟩,push_row own (by omega),fun j l' hj e => ?_,fun b hb => ?_,fun b hb => ?_,h.old⟩
 ·have hW1 : w1.heap[W]? = some (.cells #[vt,.slice (some ⟨ga,0,none⟩) n n,.int .i64 0,.bool false] 221 (0,0)) := by
   rw [grow.block W (by simp;omega) (Ne.symm n1)]
   exact ((Only.refl [] w).alloc o).heap h.str (by simp)
  exact hs_same hW1 rfl
 ·intro hm
  rcases List.mem_cons.1 hm with e | e
  ·omega
  ·exact n2 (mem_ownL.1 e)
 ·by_cases hjk : j < k
  ·obtain ⟨T',gs',gn',gf',gl',cs',cn',cf',cl',t1,t2⟩ := h.tab j l' hjk e
   exact ⟨T',gs',gn',gf',gl',cs',cn',cf',cl',by rw [List.getElem?_append_left (by omega)];exact t1,(t2.of_only ho sep0).more (fun b hb => List.mem_append_right _ hb)⟩
  ·obtain rfl : j = k := by omega
   rw [hl] at e
   cases e
   exact ⟨T,gs,gn,gf,gl,cs,cn,cf,cl,by rw [List.getElem?_append_right (by omega),hps];simp,(ht.of_only ho sep3).more (fun b hb => List.mem_append_left _ hb)⟩
 ·have hb' : W < b ∧ vt.ownBlock ≠ some b ∧ b < w.heap.size := by
   rcases List.mem_append.1 hb with h' | h'
   ·exact ⟨by have := hn b h';omega,fun e => by have := hn b h';have := hvN b e;omega,hlv b h'⟩
   ·exact ⟨(h.away b h').1,(h.away b h').2,h.live b h'⟩
  refine ⟨hb'.1,fun e => ?_⟩
  simp [Value.ownBlock] at e
  subst e
  rcases at' with e | e
  ·exact hb'.2.1 e
  ·have := hb'.2.2;omega
 ·rcases List.mem_append.1 hb with h' | h'
  ·exact Nat.lt_of_lt_of_le (hlv b h') ho.size
  ·exact Nat.lt_of_lt_of_le (h.live b h') ho.size
theorem EofAt.done {w : World} {W ga n : Nat} {vt : Value} {ps : List Value} {ro : List Nat} {ls : List M.B} (h : EofAt w W ga n vt n ps ro ls) (hn : ls.length = n) (hps : ps.length = n) (h0 : 0 < n) (h8 : n ≤ 8) :
  ∃ fp,Watched w W fp (M.watchOf ls) ∧ ∀ b,b ∈ fp → ga ≤ b := by
 subst hn
 obtain ⟨gt,ct,rfl,b1,b2⟩ := row_block h.rt h0
 obtain ⟨cs,r1,r2⟩ := h.row
 have hold := h.old
 have hWl := heap_lt h.str
 refine ⟨W :: ga :: (gt :: ro),⟨ga,gt,ls.length,ct,gt :: ro,_,rfl,⟨⟨0,h.str⟩,⟨cs,r1,r2⟩,⟨by simp [M.watchOf],by simp [M.watchOf],h8⟩,fun k l v bs e1 e2 e3 => ?_,fun k l e => ?_,by simp,⟨by omega,?_,?_⟩,fun b hb => ?_⟩⟩,fun b hb => ?_⟩
 ·left
  obtain ⟨_,_,e4⟩ := List.mem_map.1 (List.mem_of_getElem? e3)
  exact ⟨List.eq_of_mem_replicate (List.mem_of_getElem? e2),e4.symm⟩
 ·have hk := (List.getElem?_eq_some_iff.1 e).1
  have hk' : k < ls.length := hk
  obtain ⟨T,gs,gn,gf,gl,cs',cn,cf,cl,t1,t2⟩ := h.tab k l hk' e
  exact ⟨T,gs,gn,gf,gl,cs',cn,cf,cl,(h.rt.cellAt k (by omega)).trans t1,t2.more (fun b hb => List.mem_cons_of_mem _ hb)⟩
 ·intro hm
  rcases List.mem_cons.1 hm with e | e
  ·omega
  ·have := (h.away _ e).1;omega
 ·intro hm
  rcases List.mem_cons.1 hm with e | e
  ·omega
  ·have := (h.away _ e).1;omega
 ·rcases List.mem_cons.1 hb with rfl | hb
  ·exact b2
  ·exact h.live b hb
 ·simp only [List.mem_cons] at hb
  rcases hb with rfl | rfl | rfl | hb
  ·omega
  ·exact Nat.le_refl _
  ·omega
  ·have := (h.away _ hb).1;omega
theorem eof_any (gp cp : Nat) (ls : List ByteArray) (w : World) (h0 : 0 < ls.length) (h8 : ls.length ≤ 8) (hc : ∀ (k : Nat) (s : ByteArray),ls[k]? = some s → w.cell? ⟨gp,k,none⟩ = some (.string s)) (hs : ∀ s,s ∈ ls → Plain s ∧ 0 < s.size ∧ s.size ≤ 64) :
  Calls Tryz.prog 87 #[.slice (some ⟨gp,0,none⟩) ls.length cp] w fun e w' => ∃ W fp,e = .returned (.tuple #[.pointer (some ⟨W,0,none⟩),.nilIface]) ∧ Watched w' W fp (M.watchOf (ls.map fun s => s.data.toList)) ∧ (∀ b,b ∈ fp → w.heap.size ≤ b) ∧ Only [] w w' := by
 obtain ⟨n,hn⟩ : ∃ n,n = ls.length := ⟨_,rfl⟩
 rw [← hn] at h0 h8
 obtain ⟨ga,hga⟩ : ∃ ga,ga = w.heap.size := ⟨_,rfl⟩
 obtain ⟨W,hW⟩ : ∃ W,W = ga + 1 := ⟨_,rfl⟩
 have hmk := fun w => mk_places w n (by omega)
 have d0 : ((n : Int) == 0) = false := by simp;omega
 have HH := LH (AI hn (AI hga (AI hW (AI hc hs))))
 rw [← hn]
 clear hn hga hW hc hs
 go_enter Tryz.func87,Tryz.ntmps87
 go_wp2_with fail
 obtain ⟨w1,hw1⟩ : ∃ w1,w1 = (w.alloc (.cells (madeCells #[.slice none 0 0] n) 244)).alloc (.cells #[.slice none 0 0,.slice (some ⟨ga,0,none⟩) n n,.int .i64 0,.bool false] 221) := ⟨_,rfl⟩
 have hE0 : EofAt w1 W ga n (.slice none 0 0) 0 [] [] (ls.map fun s => s.data.toList) := by
  obtain ⟨hn,hga,hW,hc,hs⟩ := HH.out
  have e1 := heap_alloc_new w (.cells (madeCells #[.slice none 0 0] n) 244)
  rw [← hga] at e1
  have e2 := heap_alloc_new (w.alloc (.cells (madeCells #[.slice none 0 0] n) 244)) (.cells #[.slice none 0 0,.slice (some ⟨ga,0,none⟩) n n,.int .i64 0,.bool false] 221)
  have e3 : (w.alloc (.cells (madeCells #[.slice none 0 0] n) 244)).heap.size = W := by rw [hW,hga];simp
  rw [e3,← hw1] at e2
  have o1 : Only [] (w.alloc (.cells (madeCells #[.slice none 0 0] n) 244)) w1 := by rw [hw1];exact (Only.refl [] _).alloc _
  exact ⟨e2,⟨_,o1.heap e1 (by simp),made_list _ _⟩,World.ownsRow_nil _ _ _ _,fun j l hj => absurd hj (Nat.not_lt_zero _),fun b hb => by simp at hb,fun b hb => by simp at hb,by omega⟩
 have ho1 : Only [] w w1 := by rw [hw1];exact ((Only.refl [] w).alloc _).alloc _
 rw [← HH.out.2.1,← HH.out.2.2.1,← hw1]
 have HE := LH (AI hE0 ho1)
 clear hE0 ho1 hw1 hmk d0
 go_loopw [26] (fun s26 wr => ∃ (k : Nat) (vt : Value) (ps : List Value) (ro : List Nat),k ≤ n ∧ s26 = .int .i64 k ∧ ps.length = k ∧ EofAt wr W ga n vt k ps ro (ls.map fun s => s.data.toList) ∧ Only [] w wr) (fun s26 _ => n - (intOf s26).toNat)
 case atStart => exact ⟨0,_,[],[],Nat.zero_le _,rfl,rfl,HE.out.1,HE.out.2⟩
 case round =>
  obtain ⟨k,vt,ps,ro,hk,rfl,hps,he,ho⟩ := hrel
  by_cases hlt : k < n
  ·obtain ⟨s,hs⟩ : ∃ s,ls[k]? = some s := ⟨_,List.getElem?_eq_getElem (by rw [← HH.out.1];exact hlt)⟩
   obtain ⟨p1,p2,p3⟩ := HH.out.2.2.2.2 s (List.mem_of_getElem? hs)
   obtain ⟨av,cv,rfl⟩ := own_slice he.rt
   have cs := ho.cell (HH.out.2.2.2.1 k s hs) (by simp)
   have i1 : (k : Int) < (n : Int) := by omega
   have i2 : (0 : Int) ≤ (k : Int) := by omega
   have HX := LH (AI hs (AI p1 (AI p2 (AI p3 (AI hps (AI he ho))))))
   clear hs p1 p2 p3 hps he ho
   go_upto_region 7 with fail
   go_wp2_with (go_at_call 104;refine (rparse_any s _ HX.out.2.2.2.1 HX.out.2.2.1 HX.out.2.1).mono ?_;rintro e w2 ⟨x,rfl,hx,ho2⟩;obtain ⟨kd,n1,n2,n3,n4,a,m,c,rfl⟩ := hx.form;have HZ := LH (AI hx ho2);clear hx ho2)
   refine (nof_any _ _ _ _ (HZ.out.1.of_only ((Only.refl [] w2).alloc _) (by simp)) (by rw [Array.length_toList];exact HX.out.2.2.2.1)).mono ?_
   rintro e w3 ⟨T,gs,gn,gf,gl,cs',cn,cf,cl,ro3,rfl,htab,hro3,ho3,hlv3⟩
   have o23 : Only [] wr w3 := (HZ.out.2.alloc _).trans ho3
   have he3 := HX.out.2.2.2.2.2.1.of_none o23
   have HT := LH (AI htab (AI hro3 (AI ho3 (AI o23 hlv3))))
   have hem := tempty_any ro3 T gs gn gf gl cs' cn cf cl s.data.toList w3 htab
   have t0 : w3.cell? ⟨W,0,none⟩ = some (.slice av k cv) := cell_at he3.str rfl
   have f0 : w3.frozen? ⟨W,0,none⟩ = false := free_at he3.str
   have hWl := heap_lt he3.str
   have hne := he3.ne.1
   obtain ⟨i4,a0,a1,a2,a3⟩ := info_parts info230
   have HI := LH (AI a0 (AI a1 (AI a2 (AI a3 he3.rt))))
   have HE3 := LH he3
   have HM := LH hem
   clear htab hro3 ho3 o23 hlv3 he3 hem a0 a1 a2 a3
   go_upto_region 13 with (go_at_call 106;with_reducible refine HM.out.mono ?_;rintro e w4 ⟨rfl,rfl⟩)
   go_wp2_with (at_builtin;refine wpList_append_lies _ rfl (.tmp 47) (.tmp 49) 219 rfl (W + 1) 230 i4 (.pointer none) 1 8 Tryz.underlying219 HI.out.1 HI.out.2.1 HI.out.2.2.1 HI.out.2.2.2.1 rfl (by omega) (.slice av k cv) k ps rfl (HI.out.2.2.2.2.alloc _) ⟨w3.heap.size,0,none⟩ 1 1 [.pointer (some ⟨T,0,none⟩)] rfl rfl (World.news_of_block (cs := #[.pointer (some ⟨T,0,none⟩)]) (t := 230) (fr := (0,0)) (heap_alloc_new w3 _)) (by simp [Value.oneCell']) (by omega) (by unfold maxLen;omega) (by omega) (by simp;omega) (w3.heap.size + 1) (by simp) ?_;intro gg cp' w6 own6 grow6 at6 lt6;have f26 : w6.frozen? ⟨W,0,none⟩ = false := (grow6.frozen_far ⟨W,0,none⟩ (by simp;omega) (Ne.symm hne)).trans ((World.frozen?_alloc_past _ _ _ (by omega)).trans f0);have cv26 : w6.cell? ⟨W,0,none⟩ = some (.slice av k cv) := (grow6.cell_far ⟨W,0,none⟩ (by simp;omega) (Ne.symm hne)).trans ((World.cell?_alloc_past _ _ _ (by omega)).trans t0))
   obtain ⟨htab,hro3,ho3,o23,hlv3⟩ := HT.out
   have hsw : wr.heap.size ≤ (w2.alloc (.cells (nodeA kd n1 n2 n3 n4 a m c) 227)).heap.size := (HZ.out.2.alloc _).size
   have hpush := HE3.out.push (N := wr.heap.size) (by rw [List.getElem?_map,HX.out.1];rfl) HX.out.2.2.2.2.1 htab (fun b hb => Nat.le_trans hsw (hro3 b hb)) hlv3 (heap_lt HX.out.2.2.2.2.2.1.str) (fun g e => (HX.out.2.2.2.2.2.1.rt.lt g e).2) own6 (grown_drew grow6) at6
   refine ⟨⟨k + 1,_,_,_,by omega,by go_num,by simp [HX.out.2.2.2.2.1],hpush,?_⟩,by simp [intOf];omega⟩
   refine (HX.out.2.2.2.2.2.2.trans o23).trans' (push_only (grown_drew grow6)) ?_
   intro b hb
   right
   have e1 := HH.out.2.1
   have e2 := HH.out.2.2.1
   rcases List.mem_cons.1 hb with h' | h'
   ·omega
   ·have := (HE3.out.rt.lt b (mem_ownL.1 h')).1;omega
  ·obtain rfl : k = n := by omega
   have HX := LH (AI hps (AI he ho))
   clear hps he ho
   go_wp2_with fail
   go_ret2
   obtain ⟨fp,f1,f2⟩ := EofAt.done HX.out.2.1 (by simp;exact HH.out.1.symm) HX.out.1 h0 h8
   exact ⟨W,fp,rfl,f1,fun b hb => by have := f2 b hb;have := HH.out.2.1;omega,HX.out.2.2⟩
def dlgCells (D0 : Nat) : Array Value :=
 #[.string ⟨#[97]⟩,.int .i64 0,.string ⟨#[13]⟩,.slice none 0 0,.int .i64 0,.string ⟨#[]⟩,.int .i64 0,
  .string ⟨#[]⟩,.int .i64 1,.string ⟨#[]⟩,.slice (some ⟨D0,0,none⟩) 1 1,.int .i64 8,.string ⟨#[99]⟩,.int .i64 0,
  .string ⟨#[99]⟩,.int .i64 3,.string ⟨#[]⟩,.slice none 0 0,.int .i64 5,.string ⟨#[97]⟩,.int .i64 0,
  .string ⟨#[]⟩,.int .i64 5,.string ⟨#[]⟩,.slice none 0 0,.int .i64 0,.string ⟨#[]⟩,.int .i64 0,
  .string ⟨#[98]⟩,.int .i64 4,.string ⟨#[]⟩,.slice none 0 0,.int .i64 0,.string ⟨#[]⟩,.int .i64 0]
structure DlgAt (w : World) (D D0 : Nat) : Prop where
 arm : w.heap[D0]? = some (.cells #[.string ⟨#[61,62,32]⟩,.string ⟨#[98]⟩] 194 (0,0))
 row : ∃ cs : Array Value,w.heap[D]? = some (.cells cs 192 (0,0)) ∧ cs.toList.take 35 = (dlgCells D0).toList
theorem DlgAt.of_only {w w' : World} {D D0 : Nat} {ks : List Nat} (h : DlgAt w D D0) (ho : Only ks w w') (hs : Sep [D,D0] ks) : DlgAt w' D D0 :=
 ⟨ho.heap h.arm (hs _ (by simp)),by obtain ⟨cs,h1,h2⟩ := h.row;exact ⟨cs,ho.heap h1 (hs _ (by simp)),h2⟩⟩
theorem DlgAt.of_none {w w' : World} {D D0 : Nat} (h : DlgAt w D D0) (ho : Only [] w w') : DlgAt w' D D0 := h.of_only ho (fun b _ => by simp)
theorem DlgAt.cell {w : World} {D D0 : Nat} (h : DlgAt w D D0) (k : Nat) {v : Value} (e : (dlgCells D0).toList[k]? = some v) : w.cell? ⟨D,k,none⟩ = some v := by
 obtain ⟨cs,h1,h2⟩ := h.row
 have hk : k < 35 := (List.getElem?_eq_some_iff.1 e).1
 rw [← h2,List.getElem?_take,if_pos hk] at e
 exact cell_at h1 (by simpa using e)
theorem DlgAt.lt {w : World} {D D0 : Nat} (h : DlgAt w D D0) : D < w.heap.size := by
 obtain ⟨cs,h1,_⟩ := h.row
 exact heap_lt h1
theorem DlgAt.s0 {w : World} {D D0 : Nat} (h : DlgAt w D D0) : w.cell? ⟨D,0,none⟩ = some (.string ⟨#[97]⟩) ∧ w.cell? ⟨D,1,none⟩ = some (.int .i64 0) ∧ w.cell? ⟨D,2,none⟩ = some (.string ⟨#[13]⟩) ∧ w.cell? ⟨D,3,none⟩ = some (.slice none 0 0) ∧ w.cell? ⟨D,4,none⟩ = some (.int .i64 0) ∧ w.cell? ⟨D,5,none⟩ = some (.string ⟨#[]⟩) ∧ w.cell? ⟨D,6,none⟩ = some (.int .i64 0) :=
 ⟨h.cell 0 rfl,h.cell 1 rfl,h.cell 2 rfl,h.cell 3 rfl,h.cell 4 rfl,h.cell 5 rfl,h.cell 6 rfl⟩
theorem DlgAt.s1 {w : World} {D D0 : Nat} (h : DlgAt w D D0) : w.cell? ⟨D,7,none⟩ = some (.string ⟨#[]⟩) ∧ w.cell? ⟨D,8,none⟩ = some (.int .i64 1) ∧ w.cell? ⟨D,9,none⟩ = some (.string ⟨#[]⟩) ∧ w.cell? ⟨D,10,none⟩ = some (.slice (some ⟨D0,0,none⟩) 1 1) ∧ w.cell? ⟨D,11,none⟩ = some (.int .i64 8) ∧ w.cell? ⟨D,12,none⟩ = some (.string ⟨#[99]⟩) ∧ w.cell? ⟨D,13,none⟩ = some (.int .i64 0) :=
 ⟨h.cell 7 rfl,h.cell 8 rfl,h.cell 9 rfl,h.cell 10 rfl,h.cell 11 rfl,h.cell 12 rfl,h.cell 13 rfl⟩
theorem DlgAt.s2 {w : World} {D D0 : Nat} (h : DlgAt w D D0) : w.cell? ⟨D,14,none⟩ = some (.string ⟨#[99]⟩) ∧ w.cell? ⟨D,15,none⟩ = some (.int .i64 3) ∧ w.cell? ⟨D,16,none⟩ = some (.string ⟨#[]⟩) ∧ w.cell? ⟨D,17,none⟩ = some (.slice none 0 0) ∧ w.cell? ⟨D,18,none⟩ = some (.int .i64 5) ∧ w.cell? ⟨D,19,none⟩ = some (.string ⟨#[97]⟩) ∧ w.cell? ⟨D,20,none⟩ = some (.int .i64 0) :=
 ⟨h.cell 14 rfl,h.cell 15 rfl,h.cell 16 rfl,h.cell 17 rfl,h.cell 18 rfl,h.cell 19 rfl,h.cell 20 rfl⟩
theorem DlgAt.s3 {w : World} {D D0 : Nat} (h : DlgAt w D D0) : w.cell? ⟨D,21,none⟩ = some (.string ⟨#[]⟩) ∧ w.cell? ⟨D,22,none⟩ = some (.int .i64 5) ∧ w.cell? ⟨D,23,none⟩ = some (.string ⟨#[]⟩) ∧ w.cell? ⟨D,24,none⟩ = some (.slice none 0 0) ∧ w.cell? ⟨D,25,none⟩ = some (.int .i64 0) ∧ w.cell? ⟨D,26,none⟩ = some (.string ⟨#[]⟩) ∧ w.cell? ⟨D,27,none⟩ = some (.int .i64 0) :=
 ⟨h.cell 21 rfl,h.cell 22 rfl,h.cell 23 rfl,h.cell 24 rfl,h.cell 25 rfl,h.cell 26 rfl,h.cell 27 rfl⟩
theorem DlgAt.s4 {w : World} {D D0 : Nat} (h : DlgAt w D D0) : w.cell? ⟨D,28,none⟩ = some (.string ⟨#[98]⟩) ∧ w.cell? ⟨D,29,none⟩ = some (.int .i64 4) ∧ w.cell? ⟨D,30,none⟩ = some (.string ⟨#[]⟩) ∧ w.cell? ⟨D,31,none⟩ = some (.slice none 0 0) ∧ w.cell? ⟨D,32,none⟩ = some (.int .i64 0) ∧ w.cell? ⟨D,33,none⟩ = some (.string ⟨#[]⟩) ∧ w.cell? ⟨D,34,none⟩ = some (.int .i64 0) :=
 ⟨h.cell 28 rfl,h.cell 29 rfl,h.cell 30 rfl,h.cell 31 rfl,h.cell 32 rfl,h.cell 33 rfl,h.cell 34 rfl⟩
theorem DlgAt.a0 {w : World} {D D0 : Nat} (h : DlgAt w D D0) : w.cell? ⟨D0,0,none⟩ = some (.string ⟨#[61,62,32]⟩) ∧ w.cell? ⟨D0,1,none⟩ = some (.string ⟨#[98]⟩) := ⟨cell_at h.arm rfl,cell_at h.arm rfl⟩
theorem wake_any (w : World) : Calls Tryz.prog 63 #[] w fun e w' => ∃ D D0,e = .returned (.slice (some ⟨D,0,none⟩) 5 5) ∧ DlgAt w' D D0 ∧ w.heap.size ≤ D ∧ w.heap.size ≤ D0 ∧ Only [] w w' := by
 go_enter Tryz.func63,Tryz.ntmps63
 go_wp2_with fail
 go_ret
 refine ⟨_,w.heap.size,rfl,⟨?_,?_⟩,by omega,Nat.le_refl _,((Only.refl [] w).alloc _).alloc _⟩
 ·exact ((Only.refl [] _).alloc _).heap (heap_alloc_new w _) (by simp)
 ·have h := heap_alloc_new (w.alloc (.cells #[.string ⟨#[61,62,32]⟩,.string ⟨#[98]⟩] 194)) (.cells (dlgCells w.heap.size) 192)
  have e : (w.alloc (.cells #[.string ⟨#[61,62,32]⟩,.string ⟨#[98]⟩] 194)).heap.size = w.heap.size + 1 := by simp
  rw [e] at h
  exact ⟨_,h,rfl⟩
theorem find_a (w : World) (D D0 c : Nat) (h : DlgAt w D D0) : Calls Tryz.prog 86 #[.slice (some ⟨D,0,none⟩) 5 c,.string ⟨#[97]⟩] w fun e w' => e = .returned (.int .i64 0) ∧ Only [] w w' := by
 have H0 := LH (AI h (Only.refl [] w))
 clear h
 go_enter Tryz.func86,Tryz.ntmps86
 go_wp2_with fail
 refine wp_loop_rounds 1 ?_
 obtain ⟨a0,a1,a2,a3,a4,a5,a6⟩ := H0.out.1.s0
 show Code.wp _ _ (Exit.then (Code.rounds _ _ _ 0) _) _ _
 go_wp2_with fail
 go_ret
 exact ⟨rfl,H0.out.2.alloc _⟩
theorem find_c (w : World) (D D0 c : Nat) (h : DlgAt w D D0) : Calls Tryz.prog 86 #[.slice (some ⟨D,0,none⟩) 5 c,.string ⟨#[99]⟩] w fun e w' => e = .returned (.int .i64 2) ∧ Only [] w w' := by
 have H0 := LH (AI h (Only.refl [] w))
 clear h
 go_enter Tryz.func86,Tryz.ntmps86
 go_wp2_with fail
 refine wp_loop_rounds 3 ?_
 obtain ⟨a0,a1,a2,a3,a4,a5,a6⟩ := H0.out.1.s0
 show Code.wp _ _ (Exit.then (Code.rounds _ _ _ 2) _) _ _
 go_wp2_with fail
 generalize hw0 : World.alloc _ _ = w1
 have H1 := LH (show DlgAt w1 D D0 ∧ Only [] w w1 by subst hw0;exact ⟨H0.out.1.of_none ((Only.refl [] _).alloc _),H0.out.2.alloc _⟩)
 clear hw0 a0 a1 a2 a3 a4 a5 a6
 obtain ⟨a0,a1,a2,a3,a4,a5,a6⟩ := H1.out.1.s1
 show Code.wp _ _ (Exit.then (Code.rounds _ _ _ 1) _) _ _
 go_wp2_with fail
 generalize hw1 : World.alloc _ _ = w2
 have H2 := LH (show DlgAt w2 D D0 ∧ Only [] w w2 by subst hw1;exact ⟨H1.out.1.of_none ((Only.refl [] _).alloc _),H1.out.2.alloc _⟩)
 clear hw1 a0 a1 a2 a3 a4 a5 a6
 obtain ⟨a0,a1,a2,a3,a4,a5,a6⟩ := H2.out.1.s2
 show Code.wp _ _ (Exit.then (Code.rounds _ _ _ 0) _) _ _
 go_wp2_with fail
 go_ret
 exact ⟨rfl,H2.out.2.alloc _⟩
theorem find_b (w : World) (D D0 c : Nat) (h : DlgAt w D D0) : Calls Tryz.prog 86 #[.slice (some ⟨D,0,none⟩) 5 c,.string ⟨#[98]⟩] w fun e w' => e = .returned (.int .i64 4) ∧ Only [] w w' := by
 have H0 := LH (AI h (Only.refl [] w))
 clear h
 go_enter Tryz.func86,Tryz.ntmps86
 go_wp2_with fail
 refine wp_loop_rounds 5 ?_
 obtain ⟨a0,a1,a2,a3,a4,a5,a6⟩ := H0.out.1.s0
 show Code.wp _ _ (Exit.then (Code.rounds _ _ _ 4) _) _ _
 go_wp2_with fail
 generalize hw0 : World.alloc _ _ = w1
 have H1 := LH (show DlgAt w1 D D0 ∧ Only [] w w1 by subst hw0;exact ⟨H0.out.1.of_none ((Only.refl [] _).alloc _),H0.out.2.alloc _⟩)
 clear hw0 a0 a1 a2 a3 a4 a5 a6
 obtain ⟨a0,a1,a2,a3,a4,a5,a6⟩ := H1.out.1.s1
 show Code.wp _ _ (Exit.then (Code.rounds _ _ _ 3) _) _ _
 go_wp2_with fail
 generalize hw1 : World.alloc _ _ = w2
 have H2 := LH (show DlgAt w2 D D0 ∧ Only [] w w2 by subst hw1;exact ⟨H1.out.1.of_none ((Only.refl [] _).alloc _),H1.out.2.alloc _⟩)
 clear hw1 a0 a1 a2 a3 a4 a5 a6
 obtain ⟨a0,a1,a2,a3,a4,a5,a6⟩ := H2.out.1.s2
 show Code.wp _ _ (Exit.then (Code.rounds _ _ _ 2) _) _ _
 go_wp2_with fail
 generalize hw2 : World.alloc _ _ = w3
 have H3 := LH (show DlgAt w3 D D0 ∧ Only [] w w3 by subst hw2;exact ⟨H2.out.1.of_none ((Only.refl [] _).alloc _),H2.out.2.alloc _⟩)
 clear hw2 a0 a1 a2 a3 a4 a5 a6
 obtain ⟨a0,a1,a2,a3,a4,a5,a6⟩ := H3.out.1.s3
 show Code.wp _ _ (Exit.then (Code.rounds _ _ _ 1) _) _ _
 go_wp2_with fail
 generalize hw3 : World.alloc _ _ = w4
 have H4 := LH (show DlgAt w4 D D0 ∧ Only [] w w4 by subst hw3;exact ⟨H3.out.1.of_none ((Only.refl [] _).alloc _),H3.out.2.alloc _⟩)
 clear hw3 a0 a1 a2 a3 a4 a5 a6
 obtain ⟨a0,a1,a2,a3,a4,a5,a6⟩ := H4.out.1.s4
 show Code.wp _ _ (Exit.then (Code.rounds _ _ _ 0) _) _ _
 go_wp2_with fail
 go_ret
 exact ⟨rfl,H4.out.2.alloc _⟩
end Go.Proofs.YtplaamfoeaaaiaaGreatDoor
