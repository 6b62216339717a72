/- A part of the proofs of the laws of lifelinetop (TopNever, TopLost, TopRoom): contracts of functions that these laws reach. No condition of its own. -/
import Derived.Test.YtplaamfoeaaaiaaGreatDoorK02
import Derived.Test.YtplaamfoeaaaiaaGreatDoorK03
import Derived.Test.YtplaamfoeaaaiaaGreatDoorK04
import Derived.Deep.RegionHeld3
import Derived.Deep.DeepCutAuto
set_option maxRecDepth 100000
set_option maxHeartbeats 8000000
set_option linter.unusedVariables false
namespace Go.Proofs.YtplaamfoeaaaiaaGreatDoor
open Go.RowKit
def sndA (s : M.Snd) (a : Option Addr) (c : Nat) : Array Value :=
 #[.int .i64 s.cfg.tries,.int .i64 s.cfg.wait,.slice a s.blocks.length c,.bool s.close,.bool s.crc,.int .i64 s.phase,.int .i64 s.at_,.int .i64 s.tries,.int .i64 s.left,.bool s.can,errV s.err]
structure Snded (w : World) (S : Nat) (ro : List Nat) (s : M.Snd) : Prop where
 str : ∃ a c,w.heap[S]? = some (.cells (sndA s a c) 241 (0,0)) ∧ Blks w ro a s.blocks ∧ s.blocks.length ≤ c
 len : ∀ b,b ∈ s.blocks → b.data.length = 128 ∨ b.data.length = 1024
 nS : S ∉ ro
 ct : 1 ≤ s.cfg.tries ∧ s.cfg.tries ≤ 9
 cw : 1 ≤ s.cfg.wait ∧ s.cfg.wait ≤ 99
 tr : s.tries ≤ 9
 lw : s.left ≤ 99
 ph : s.phase ≤ 3
 atl : s.at_ ≤ s.blocks.length
 bl : s.blocks.length ≤ 65536
 er : s.err ≤ 14
def Fine (s : M.Snd) : Prop := (s.phase = 1 → s.at_ < s.blocks.length) ∧ (1 ≤ s.left ∨ s.phase = 3)
theorem Snded.turn {w w' : World} {S : Nat} {ro : List Nat} {s s' : M.Snd} {a : Option Addr} {c : Nat} (h : Snded w S ro s) (hb : Blks w ro a s.blocks) (hc : s.blocks.length ≤ c) (hq : w'.heap[S]? = some (.cells (sndA s' a c) 241 (0,0))) (ho : Only [S] w w') (e1 : s'.cfg = s.cfg) (e2 : s'.blocks = s.blocks) (b1 : s'.tries ≤ 9) (b2 : s'.left ≤ 99) (b3 : s'.phase ≤ 3) (b4 : s'.at_ ≤ s.blocks.length) (b5 : s'.err ≤ 14) : Snded w' S ro s' :=
 ⟨⟨a,c,hq,by rw [e2];exact hb.of_only ho (fun b hb hx => h.nS (by simp at hx;exact hx ▸ hb)),by rw [e2];exact hc⟩,by rw [e2];exact h.len,h.nS,by rw [e1];exact h.ct,by rw [e1];exact h.cw,b1,b2,b3,by rw [e2];exact b4,by rw [e2];exact h.bl,b5⟩
def SPost (w : World) (S : Nat) (ro : List Nat) (r : M.B × M.Snd) (x : Ending) (w' : World) : Prop :=
 ∃ v,x = .returned v ∧ Out w w' v r.1 ∧ Snded w' S ro r.2 ∧ Only [S] w w'
theorem Snded.of_only {w w' : World} {S : Nat} {ro ks : List Nat} {s : M.Snd} (h : Snded w S ro s) (ho : Only ks w w') (hS : S ∉ ks) (hr : Sep ro ks) : Snded w' S ro s := by
 obtain ⟨a,c,h1,h2,h3⟩ := h.str
 exact ⟨⟨a,c,ho.heap h1 hS,h2.of_only ho hr,h3⟩,h.len,h.nS,h.ct,h.cw,h.tr,h.lw,h.ph,h.atl,h.bl,h.er⟩
theorem sdone_any (S : Nat) (ro : List Nat) (s : M.Snd) (w : World) (h : Snded w S ro s) :
  Calls Tryz.prog 229 #[.pointer (some ⟨S,0,none⟩)] w fun e w' => e = .returned (.tuple #[.bool s.done,errV s.err]) ∧ Only [] w w' := by
 obtain ⟨a,c,h1,_,_⟩ := h.str
 have c5 : w.cell? ⟨S,5,none⟩ = some (.int .i64 s.phase) := cell_at h1 rfl
 have c10 : w.cell? ⟨S,10,none⟩ = some (errV s.err) := cell_at h1 rfl
 have hd : s.done = decide ((s.phase : Int) = 3) := by unfold M.Snd.done;rw [Bool.eq_iff_iff];simp;omega
 have HD := LH hd
 have ho : ∀ n,Only [] w (w.drewN n) := fun n => only_drewN [] w n
 have HO := LH ho
 clear h h1 hd ho
 go_enter Tryz.func229,Tryz.ntmps229
 go_wp2_with fail
 go_quiet (fail)
 go_wp2_with fail
 go_ret2
 exact ⟨by rw [HD.out];rfl,HO.out _⟩
theorem send_any (S : Nat) (ro : List Nat) (s : M.Snd) (e : Nat) (w : World) (h : Snded w S ro s) (he : e = 0 ∨ e = 9 ∨ e = 10) :
  Calls Tryz.prog 230 #[.pointer (some ⟨S,0,none⟩),errV e] w (SPost w S ro (s.end_ e)) := by
 obtain ⟨a,c,h1,hb,hc⟩ := h.str
 have c5 : w.cell? ⟨S,5,none⟩ = some (.int .i64 s.phase) := cell_at h1 rfl
 have c10 : w.cell? ⟨S,10,none⟩ = some (errV s.err) := cell_at h1 rfl
 have f5 : w.frozen? ⟨S,5,none⟩ = false := free_at h1
 have f10 : w.frozen? ⟨S,10,none⟩ = false := free_at h1
 have hfin : ∀ w',w'.heap[S]? = some (.cells (sndA (s.end_ e).2 a c) 241 (0,0)) → Only [S] w w' → Snded w' S ro (s.end_ e).2 := fun w' q ho =>
  h.turn hb hc q ho rfl rfl h.tr h.lw (by simp [M.Snd.end_]) h.atl (by simp [M.Snd.end_];omega)
 have q0 := fun w => eql_ni w 57 (.int .i64 10)
 have q1 := fun w => eql_ii w 9 10
 have q2 := fun w => eql_ii w 10 10
 have HF := LH (AI h1 hfin)
 clear h h1 hfin hb hc
 rcases he with rfl | rfl | rfl
 ·change Calls Tryz.prog 230 #[.pointer (some ⟨S,0,none⟩),.nilIface] w _
  go_enter Tryz.func230,Tryz.ntmps230
  go_wp2_with fail
  go_ret
  have ho : Only [S] w ((w.setCell ⟨S,5,none⟩ (.int .i64 3)).setCell ⟨S,10,none⟩ .nilIface) := ((Only.refl _ _).setCell (by simp) _).setCell (by simp) _
  exact ⟨_,rfl,Out.nil _ _,HF.out.2 _ (hs_same (hs_same HF.out.1 rfl) rfl) ho,ho⟩
 ·change Calls Tryz.prog 230 #[.pointer (some ⟨S,0,none⟩),.iface 57 (.int .i64 9)] w _
  go_enter Tryz.func230,Tryz.ntmps230
  go_wp2_with fail
  go_ret
  have ho : Only [S] w ((w.setCell ⟨S,5,none⟩ (.int .i64 3)).setCell ⟨S,10,none⟩ (.iface 57 (.int .i64 9))) := ((Only.refl _ _).setCell (by simp) _).setCell (by simp) _
  exact ⟨_,rfl,Out.nil _ _,HF.out.2 _ (hs_same (hs_same HF.out.1 rfl) rfl) ho,ho⟩
 ·change Calls Tryz.prog 230 #[.pointer (some ⟨S,0,none⟩),.iface 57 (.int .i64 10)] w _
  go_enter Tryz.func230,Tryz.ntmps230
  go_wp2_with fail
  go_ret
  have ho : Only [S] w ((w.setCell ⟨S,5,none⟩ (.int .i64 3)).setCell ⟨S,10,none⟩ (.iface 57 (.int .i64 10))) := ((Only.refl _ _).setCell (by simp) _).setCell (by simp) _
  refine ⟨_,rfl,?_,HF.out.2 _ (((Only.refl [] _).alloc _).heap (hs_same (hs_same HF.out.1 rfl) rfl) (by simp)) (ho.alloc _),ho.alloc _⟩
  have := out_two w ((w.setCell ⟨S,5,none⟩ (.int .i64 3)).setCell ⟨S,10,none⟩ (.iface 57 (.int .i64 10))) 24 24 24 24 rfl rfl ho.size
  show Out w _ _ [24,24]
  simpa using this
theorem makeB_some {b : M.Blk} {k : Bool} (h : b.data.length = 128 ∨ b.data.length = 1024) : ∃ lead,M.makeB b k = some (wholeB lead b k) ∧ ((lead = 1 ∧ b.data.length = 128) ∨ (lead = 2 ∧ b.data.length = 1024)) := by
 rcases h with h | h
 ·exact ⟨1,by simp [M.makeB,h,wholeB],.inl ⟨rfl,h⟩⟩
 ·exact ⟨2,by simp [M.makeB,h,wholeB],.inr ⟨rfl,h⟩⟩
theorem now_any (S : Nat) (ro : List Nat) (s : M.Snd) (w : World) (h : Snded w S ro s) (hf : s.phase = 1 → s.at_ < s.blocks.length) :
  Calls Tryz.prog 233 #[.pointer (some ⟨S,0,none⟩)] w (SPost w S ro s.now) := by
 obtain ⟨a,c,h1,hb,hc⟩ := h.str
 have c5 : w.cell? ⟨S,5,none⟩ = some (.int .i64 s.phase) := cell_at h1 rfl
 have H := LH h
 by_cases p1 : s.phase = 1
 ·have hat := hf p1
  obtain ⟨b,hbk⟩ : ∃ b,s.blocks[s.at_]? = some b := ⟨_,List.getElem?_eq_getElem hat⟩
  obtain ⟨g,v,rfl,hg,y0,y1,hv⟩ := hb s.at_ b hbk
  obtain ⟨ad,cd,rfl,d1,d2,d3,d4,d5⟩ := hv
  obtain ⟨lead,m1,m2⟩ := makeB_some (k := s.crc) (h.len b (List.mem_of_getElem? hbk))
  have hnow : s.now = (wholeB lead b s.crc,s) := by simp [M.Snd.now,p1,hbk,m1]
  have c2 : w.cell? ⟨S,2,none⟩ = some (.slice (some ⟨g,0,none⟩) s.blocks.length c) := cell_at h1 rfl
  have c4 : w.cell? ⟨S,4,none⟩ = some (.bool s.crc) := cell_at h1 rfl
  have c6 : w.cell? ⟨S,6,none⟩ = some (.int .i64 s.at_) := cell_at h1 rfl
  have hbl := h.bl
  rw [p1] at c5
  have k1 : (0 : Int) ≤ (s.at_ : Int) := Int.natCast_nonneg _
  have k2 : (s.at_ : Int) < (s.blocks.length : Int) := by omega
  have HN := LH hnow
  have HM := LH m2
  have HD := LH (AI d1 d4)
  clear h hf hb h1 hnow m1 m2 d1 d4 d5 hbk hg
  go_enter Tryz.func233,Tryz.ntmps233
  go_wp2_with fail
  go_region_held3 (fun w' => w'.cell? ⟨S,2,none⟩ = some (.slice (some ⟨g,0,none⟩) s.blocks.length c) ∧ w'.cell? ⟨S,4,none⟩ = some (.bool s.crc) ∧ w'.cell? ⟨S,6,none⟩ = some (.int .i64 s.at_) ∧ w'.cell? ⟨g,s.at_ * 2,none⟩ = some (byteV b.number) ∧ w'.cell? ⟨g,s.at_ * 2 + 1,none⟩ = some (.slice ad b.data.length cd)) (first
    | (exact ⟨hn2.cell ‹_› (by simp),hn2.cell ‹_› (by simp),hn2.cell ‹_› (by simp),hn2.cell ‹_› (by simp),hn2.cell ‹_› (by simp)⟩)
    | go_keep)
   (first | (go_at_call 234;refine (make_case lead b.data.length HM.out b.number b.data ad cd s.crc _ (by exact ⟨HD.out.1.nil,HD.out.1.cell⟩) rfl HD.out.2).mono ?_;rintro e w2 ⟨v2,rfl,ho2,hn2⟩))
  go_wp2_with fail
  go_ret
  rw [HN.out]
  have o1 : Only [] w w2 := ((Only.refl [] w).drew).trans hn2
  exact ⟨v2,rfl,ho2,H.out.of_only o1 (by simp) (fun b _ => by simp),o1.weaken (by simp)⟩
 ·by_cases p2 : s.phase = 2
  ·have hnow : s.now = ([4],s) := by simp [M.Snd.now,p2]
   rw [p2] at c5
   have HN := LH hnow
   clear hnow h hf h1 hb
   go_enter Tryz.func233,Tryz.ntmps233
   go_wp2_with fail
   go_ret
   rw [HN.out]
   have o1 : Only [] w (w.alloc (.cells #[.int .u8 4] 5)) := (Only.refl [] w).alloc _
   exact ⟨_,rfl,out_one w w 4 4 rfl (Nat.le_refl _),H.out.of_only o1 (by simp) (fun b _ => by simp),o1.weaken (by simp)⟩
  ·have hnow : s.now = ([],s) := by simp [M.Snd.now,p1,p2]
   have n1 : ((s.phase : Int) == 1) = false := by simp;omega
   have n2 : ((s.phase : Int) == 2) = false := by simp;omega
   have HN := LH hnow
   clear hnow h hf h1 hb p1 p2
   go_enter Tryz.func233,Tryz.ntmps233
   go_wp2_with fail
   go_ret
   rw [HN.out]
   exact ⟨_,rfl,Out.nil _ _,H.out,Only.refl _ _⟩
theorem SPost.after {w w2 : World} {S : Nat} {ro : List Nat} {r : M.B × M.Snd} {v : Value} {w' : World} (ho : Only [S] w w2) (a : Out w2 w' v r.1) (b : Snded w' S ro r.2) (c : Only [S] w2 w') : SPost w S ro r (.returned v) w' :=
 ⟨v,rfl,a.start ho.size,b,ho.trans c⟩
theorem send_ten (S : Nat) (ro : List Nat) (s : M.Snd) (w : World) (h : Snded w S ro s) : Calls Tryz.prog 230 #[.pointer (some ⟨S,0,none⟩),.iface 57 (.int .i64 10)] w (SPost w S ro (s.end_ 10)) := send_any S ro s 10 w h (by simp)
theorem send_nine (S : Nat) (ro : List Nat) (s : M.Snd) (w : World) (h : Snded w S ro s) : Calls Tryz.prog 230 #[.pointer (some ⟨S,0,none⟩),.iface 57 (.int .i64 9)] w (SPost w S ro (s.end_ 9)) := send_any S ro s 9 w h (by simp)
theorem send_nil (S : Nat) (ro : List Nat) (s : M.Snd) (w : World) (h : Snded w S ro s) : Calls Tryz.prog 230 #[.pointer (some ⟨S,0,none⟩),.nilIface] w (SPost w S ro (s.end_ 0)) := send_any S ro s 0 w h (by simp)
theorem next_any (S : Nat) (ro : List Nat) (s : M.Snd) (w : World) (h : Snded w S ro s) :
  Calls Tryz.prog 231 #[.pointer (some ⟨S,0,none⟩)] w (SPost w S ro s.next) := by
 obtain ⟨a,c,h1,hb,hc⟩ := h.str
 have c1 : w.cell? ⟨S,1,none⟩ = some (.int .i64 s.cfg.wait) := cell_at h1 rfl
 have c2 : w.cell? ⟨S,2,none⟩ = some (.slice a s.blocks.length c) := cell_at h1 rfl
 have c3 : w.cell? ⟨S,3,none⟩ = some (.bool s.close) := cell_at h1 rfl
 have c5 : w.cell? ⟨S,5,none⟩ = some (.int .i64 s.phase) := cell_at h1 rfl
 have c6 : w.cell? ⟨S,6,none⟩ = some (.int .i64 s.at_) := cell_at h1 rfl
 have c7 : w.cell? ⟨S,7,none⟩ = some (.int .i64 s.tries) := cell_at h1 rfl
 have c8 : w.cell? ⟨S,8,none⟩ = some (.int .i64 s.left) := cell_at h1 rfl
 have f5 : w.frozen? ⟨S,5,none⟩ = false := free_at h1
 have f7 : w.frozen? ⟨S,7,none⟩ = false := free_at h1
 have f8 : w.frozen? ⟨S,8,none⟩ = false := free_at h1
 have hcw := h.cw
 have hph := h.ph
 have hal := h.atl
 by_cases q : s.at_ < s.blocks.length
 ·have hn : s.next = M.Snd.now { s with tries := 1,left := s.cfg.wait,phase := 1 } := by simp [M.Snd.next,q]
  have HN := LH hn
  have ht : ∀ w',w'.heap[S]? = some (.cells (sndA { s with tries := 1,left := s.cfg.wait,phase := 1 } a c) 241 (0,0)) → Only [S] w w' → Snded w' S ro { s with tries := 1,left := s.cfg.wait,phase := 1 } := fun w' e o => h.turn hb hc e o rfl rfl (by simp) (by simp;omega) (by simp) hal h.er
  have HT := LH (AI h1 (AI ht q))
  clear h hb h1 ht hn hcw hph hal
  go_enter Tryz.func231,Tryz.ntmps231
  go_wp2_with fail
  go_quiet (fail)
  have o1 : Only [S] w (((((w.setCell ⟨S,7,none⟩ (.int .i64 1)).setCell ⟨S,8,none⟩ (.int .i64 s.cfg.wait))).drewN nq).setCell ⟨S,5,none⟩ (.int .i64 1)) := ((((Only.refl [S] w).setCell (by simp) _).setCell (by simp) _).drewN nq).setCell (by simp) _
  go_wp2_with (first | (go_at_call 233;refine (now_any S ro { s with tries := 1,left := s.cfg.wait,phase := 1 } _ (HT.out.2.1 _ (hs_same (by exact hs_same (hs_same HT.out.1 rfl) rfl) rfl) o1) (fun _ => HT.out.2.2)).mono ?_;rintro e w2 ⟨v,rfl,e1,e2,e3⟩))
  go_ret
  rw [HN.out]
  exact SPost.after o1 e1 e2 e3
 ·have d1 : ((s.at_ : Int) < (s.blocks.length : Int)) = False := by simp;omega
  by_cases r : s.close = true ∧ s.phase ≠ 2
  ·have hn : s.next = M.Snd.now { s with tries := 1,left := s.cfg.wait,phase := 2 } := by simp [M.Snd.next,q,r]
   have HN := LH hn
   have ht : ∀ w',w'.heap[S]? = some (.cells (sndA { s with tries := 1,left := s.cfg.wait,phase := 2 } a c) 241 (0,0)) → Only [S] w w' → Snded w' S ro { s with tries := 1,left := s.cfg.wait,phase := 2 } := fun w' e o => h.turn hb hc e o rfl rfl (by simp) (by simp;omega) (by simp) hal h.er
   have HT := LH (AI h1 ht)
   rw [r.1] at c3
   have d2 : ((s.phase : Int) != 2) = true := by have := r.2;simp;omega
   clear h hb h1 ht hn hcw hph hal q r
   go_enter Tryz.func231,Tryz.ntmps231
   go_wp2_with fail
   go_quiet (fail)
   have o1 : Only [S] w (((((w.setCell ⟨S,7,none⟩ (.int .i64 1)).setCell ⟨S,8,none⟩ (.int .i64 s.cfg.wait))).drewN nq).setCell ⟨S,5,none⟩ (.int .i64 2)) := ((((Only.refl [S] w).setCell (by simp) _).setCell (by simp) _).drewN nq).setCell (by simp) _
   go_wp2_with (first | (go_at_call 233;refine (now_any S ro { s with tries := 1,left := s.cfg.wait,phase := 2 } _ (HT.out.2 _ (hs_same (by exact hs_same (hs_same HT.out.1 rfl) rfl) rfl) o1) (fun e => by simp at e)).mono ?_;rintro e w2 ⟨v,rfl,e1,e2,e3⟩))
   go_ret
   rw [HN.out]
   exact SPost.after o1 e1 e2 e3
  ·have hn : s.next = M.Snd.end_ { s with tries := 1,left := s.cfg.wait } 0 := by
    unfold M.Snd.next
    simp only []
    rw [if_neg q,if_neg (by simpa using r)]
   have HN := LH hn
   have ht : ∀ w',w'.heap[S]? = some (.cells (sndA { s with tries := 1,left := s.cfg.wait } a c) 241 (0,0)) → Only [S] w w' → Snded w' S ro { s with tries := 1,left := s.cfg.wait } := fun w' e o => h.turn hb hc e o rfl rfl (by simp) (by simp;omega) hph hal h.er
   have HT := LH (AI h1 ht)
   have hcase : s.close = false ∨ (s.close = true ∧ s.phase = 2) := by
    cases hcl : s.close with
    | false => exact .inl rfl
    | true => exact .inr ⟨rfl,Classical.byContradiction fun e => r ⟨hcl,e⟩⟩
   clear h hb h1 ht hn hcw hph hal q r
   rcases hcase with r | ⟨r,r2⟩
   ·rw [r] at c3
    go_enter Tryz.func231,Tryz.ntmps231
    go_wp2_with fail
    go_quiet (fail)
    have o1 : Only [S] w (((w.setCell ⟨S,7,none⟩ (.int .i64 1)).setCell ⟨S,8,none⟩ (.int .i64 s.cfg.wait)).drewN nq) := (((Only.refl [S] w).setCell (by simp) _).setCell (by simp) _).drewN nq
    go_wp2_with (first | (go_at_call 230;refine (send_nil S ro { s with tries := 1,left := s.cfg.wait } _ (HT.out.2 _ (by exact hs_same (hs_same HT.out.1 rfl) rfl) o1)).mono ?_;rintro e w2 ⟨v,rfl,e1,e2,e3⟩))
    go_ret
    rw [HN.out]
    exact SPost.after o1 e1 e2 e3
   ·rw [r] at c3
    rw [r2] at c5
    go_enter Tryz.func231,Tryz.ntmps231
    go_wp2_with fail
    go_quiet (fail)
    have o1 : Only [S] w (((w.setCell ⟨S,7,none⟩ (.int .i64 1)).setCell ⟨S,8,none⟩ (.int .i64 s.cfg.wait)).drewN nq) := (((Only.refl [S] w).setCell (by simp) _).setCell (by simp) _).drewN nq
    go_wp2_with (first | (go_at_call 230;refine (send_nil S ro { s with tries := 1,left := s.cfg.wait } _ (HT.out.2 _ (by exact hs_same (hs_same HT.out.1 rfl) rfl) o1)).mono ?_;rintro e w2 ⟨v,rfl,e1,e2,e3⟩))
    go_ret
    rw [HN.out]
    exact SPost.after o1 e1 e2 e3
theorem again_any (S : Nat) (ro : List Nat) (s : M.Snd) (w : World) (h : Snded w S ro s) (hf : s.phase = 1 → s.at_ < s.blocks.length) :
  Calls Tryz.prog 232 #[.pointer (some ⟨S,0,none⟩)] w (SPost w S ro s.again) := by
 obtain ⟨a,c,h1,hb,hc⟩ := h.str
 have c0 : w.cell? ⟨S,0,none⟩ = some (.int .i64 s.cfg.tries) := cell_at h1 rfl
 have c1 : w.cell? ⟨S,1,none⟩ = some (.int .i64 s.cfg.wait) := cell_at h1 rfl
 have c7 : w.cell? ⟨S,7,none⟩ = some (.int .i64 s.tries) := cell_at h1 rfl
 have c8 : w.cell? ⟨S,8,none⟩ = some (.int .i64 s.left) := cell_at h1 rfl
 have f7 : w.frozen? ⟨S,7,none⟩ = false := free_at h1
 have f8 : w.frozen? ⟨S,8,none⟩ = false := free_at h1
 have hct := h.ct
 have hcw := h.cw
 have htr := h.tr
 by_cases q : s.cfg.tries ≤ s.tries
 ·have hn : s.again = s.end_ 10 := by simp [M.Snd.again,q]
  have HN := LH hn
  have H := LH h
  have d1 : ((s.tries : Int) ≥ (s.cfg.tries : Int)) = True := by simp;omega
  clear h hb h1 hn hcw hct htr hf
  go_enter Tryz.func232,Tryz.ntmps232
  go_wp2_with fail
  go_quiet (fail)
  have o1 : Only [S] w (w.drewN nq) := only_drewN _ _ _
  go_wp2_with (first | (go_at_call 230;refine (send_ten S ro s _ (H.out.of_only (only_drewN [] w nq) (by simp) (fun b _ => by simp))).mono ?_;rintro e w2 ⟨v,rfl,e1,e2,e3⟩))
  go_ret
  rw [HN.out]
  exact SPost.after o1 e1 e2 e3
 ·have hn : s.again = M.Snd.now { s with tries := s.tries + 1,left := s.cfg.wait } := by simp [M.Snd.again,q]
  have HN := LH hn
  have ht : ∀ w',w'.heap[S]? = some (.cells (sndA { s with tries := s.tries + 1,left := s.cfg.wait } a c) 241 (0,0)) → Only [S] w w' → Snded w' S ro { s with tries := s.tries + 1,left := s.cfg.wait } := fun w' e o => h.turn hb hc e o rfl rfl (by simp;omega) (by simp;omega) h.ph h.atl h.er
  have HT := LH (AI h1 (AI ht hf))
  have d1 : ((s.tries : Int) ≥ (s.cfg.tries : Int)) = False := by simp;omega
  clear h hb h1 hn hcw hct ht hf
  go_enter Tryz.func232,Tryz.ntmps232
  go_wp2_with fail
  go_quiet (fail)
  have o1 : Only [S] w (((w.drewN nq).setCell ⟨S,7,none⟩ (.int .i64 (s.tries + 1 : Nat))).setCell ⟨S,8,none⟩ (.int .i64 s.cfg.wait)) := (((Only.refl [S] w).drewN nq).setCell (by simp) _).setCell (by simp) _
  go_wp2_with (first | (go_at_call 233;refine (now_any S ro { s with tries := s.tries + 1,left := s.cfg.wait } _ (HT.out.2.1 _ (hs_same (by exact hs_same (w := w.drewN nq) HT.out.1 rfl) rfl) o1) HT.out.2.2).mono ?_;rintro e w2 ⟨v,rfl,e1,e2,e3⟩))
  go_ret
  rw [HN.out]
  exact SPost.after o1 e1 e2 e3
theorem stick_any (S : Nat) (ro : List Nat) (s : M.Snd) (w : World) (h : Snded w S ro s) (hf : Fine s) :
  Calls Tryz.prog 228 #[.pointer (some ⟨S,0,none⟩)] w (SPost w S ro s.tick) := by
 obtain ⟨a,c,h1,hb,hc⟩ := h.str
 have c5 : w.cell? ⟨S,5,none⟩ = some (.int .i64 s.phase) := cell_at h1 rfl
 have c8 : w.cell? ⟨S,8,none⟩ = some (.int .i64 s.left) := cell_at h1 rfl
 have f8 : w.frozen? ⟨S,8,none⟩ = false := free_at h1
 have hlw := h.lw
 by_cases p3 : s.phase = 3
 ·have hn : s.tick = ([],s) := by simp [M.Snd.tick,p3]
  have HN := LH hn
  have H := LH h
  rw [p3] at c5
  clear h hb h1 hn hlw hf
  go_enter Tryz.func228,Tryz.ntmps228
  go_wp2_with fail
  go_ret
  rw [HN.out]
  exact ⟨_,rfl,Out.nil _ _,H.out,Only.refl _ _⟩
 ·have d3 : ((s.phase : Int) == 3) = false := by simp;omega
  obtain ⟨l,hl⟩ : ∃ l,s.left = l + 1 := ⟨s.left - 1,by rcases hf.2 with h | h <;> omega⟩
  have ht : ∀ w',w'.heap[S]? = some (.cells (sndA { s with left := l } a c) 241 (0,0)) → Only [S] w w' → Snded w' S ro { s with left := l } := fun w' e o => h.turn hb hc e o rfl rfl h.tr (by simp;omega) h.ph h.atl h.er
  have hlv : ((s.left : Int) - 1) = (l : Int) := by omega
  have HT := LH (AI h1 (AI ht hf.1))
  rw [hl] at c8
  have o1 : Only [S] w (w.setCell ⟨S,8,none⟩ (.int .i64 l)) := (Only.refl [S] w).setCell (by simp) _
  by_cases q : 0 < l
  ·have hn : s.tick = ([],{ s with left := l }) := by simp [M.Snd.tick,p3,hl,q]
   have HN := LH hn
   clear h hb h1 hn ht hf hlv p3
   go_enter Tryz.func228,Tryz.ntmps228
   go_wp2_with fail
   go_ret
   rw [HN.out]
   exact ⟨_,rfl,Out.nil _ _,HT.out.2.1 _ (hs_same HT.out.1 rfl) o1,o1⟩
  ·have hn : s.tick = M.Snd.again { s with left := l } := by simp [M.Snd.tick,p3,hl,q]
   have HN := LH hn
   clear h hb h1 hn ht hf hlv p3
   go_enter Tryz.func228,Tryz.ntmps228
   go_wp2_with (first | (go_at_call 232;refine (again_any S ro { s with left := l } _ (HT.out.2.1 _ (hs_same HT.out.1 rfl) o1) HT.out.2.2).mono ?_;rintro e w2 ⟨v,rfl,e1,e2,e3⟩))
   go_ret
   rw [HN.out]
   exact SPost.after o1 e1 e2 e3
theorem sput_any (S : Nat) (ro : List Nat) (s : M.Snd) (b : UInt8) (w : World) (h : Snded w S ro s) (hf : Fine s) :
  Calls Tryz.prog 227 #[.pointer (some ⟨S,0,none⟩),byteV b] w (SPost w S ro (s.put b)) := by
 obtain ⟨a,c,h1,hb,hc⟩ := h.str
 have c9 : w.cell? ⟨S,9,none⟩ = some (.bool s.can) := cell_at h1 rfl
 obtain ⟨tw,htw⟩ : ∃ tw,tw = (s.can && b == 24) := ⟨_,rfl⟩
 have H := LH (AI h (AI hf htw))
 have HS := LH (AI h1 (AI hb hc))
 clear h hf h1 hb hc
 go_enter Tryz.func227,Tryz.ntmps227
 go_upto_region 1 with fail
 go_cut [5] (fun s5 wx => s5 = .bool tw ∧ wx = w)
 case first =>
  have HT := LH htw
  cases hcan : s.can with
  | true =>
   rw [hcan] at c9 htw
   have ht : tw = ((b.toNat : Int) == 24) := by
    rw [htw,Bool.eq_iff_iff]
    simp
    rw [← UInt8.toNat_inj]
    simp;omega
   have HTT := LH ht
   clear ht htw hcan
   go_wp2_with fail
   go_meet
   exact ⟨by rw [HTT.out],rfl⟩
  | false =>
   rw [hcan] at c9 htw
   have ht : tw = false := by rw [htw];rfl
   have HTT := LH ht
   clear ht htw hcan
   go_wp2_with fail
   go_meet
   exact ⟨by rw [HTT.out],rfl⟩
 case rest =>
  obtain ⟨rfl,rfl⟩ := hcut
  obtain ⟨h,hf,-⟩ := H.out
  obtain ⟨h1,hb,hc⟩ := HS.out
  clear c9
  have hcw := h.cw
  have c4 : wc.cell? ⟨S,4,none⟩ = some (.bool s.crc) := cell_at h1 rfl
  have c5 : wc.cell? ⟨S,5,none⟩ = some (.int .i64 s.phase) := cell_at h1 rfl
  have c6 : wc.cell? ⟨S,6,none⟩ = some (.int .i64 s.at_) := cell_at h1 rfl
  have c9 : wc.cell? ⟨S,9,none⟩ = some (.bool s.can) := cell_at h1 rfl
  have f4 : wc.frozen? ⟨S,4,none⟩ = false := free_at h1
  have f6 : wc.frozen? ⟨S,6,none⟩ = false := free_at h1
  have f9 : wc.frozen? ⟨S,9,none⟩ = false := free_at h1
  have hph := h.ph
  have hal := h.atl
  have hbl := h.bl
  obtain ⟨cn,hcn⟩ : ∃ cn,cn = (b == 24) := ⟨_,rfl⟩
  have hcn' : ((b.toNat : Int) == 24) = cn := by
   rw [hcn,Bool.eq_iff_iff]
   simp
   rw [← UInt8.toNat_inj]
   simp;omega
  have o1 : Only [S] wc (wc.setCell ⟨S,9,none⟩ (.bool cn)) := (Only.refl _ _).setCell (by simp) _
  have q1 : (wc.setCell ⟨S,9,none⟩ (.bool cn)).heap[S]? = some (.cells (sndA { s with can := cn } a c) 241 (0,0)) := hs_same h1 rfl
  have hs1 : Snded (wc.setCell ⟨S,9,none⟩ (.bool cn)) S ro { s with can := cn } := h.turn hb hc q1 o1 rfl rfl h.tr h.lw h.ph h.atl h.er
  have ht2 : ∀ w' k,w'.heap[S]? = some (.cells (sndA { s with can := cn,crc := k } a c) 241 (0,0)) → Only [S] wc w' → Snded w' S ro { s with can := cn,crc := k } := fun w' k e o => h.turn hb hc e o rfl rfl h.tr h.lw h.ph h.atl h.er
  have hcf : b ≠ 24 → cn = false := fun e => by rw [hcn];simpa using e
  have HCF := LH hcf
  have HCN := LH hcn
  have HT := LH (AI o1 (AI q1 (AI hs1 ht2)))
  have HF := LH hf
  have HTW := LH htw
  have hput : s.put b = (if s.phase = 3 then ([],{ s with can := cn }) else if tw = true then M.Snd.end_ { s with can := cn } 9
   else if s.phase = 0 ∧ (b = 21 ∨ b = 67 ∧ s.crc = true) then M.Snd.next { s with can := cn,crc := b == 67 } else if s.phase = 0 then ([],{ s with can := cn })
   else if b = 6 then M.Snd.next { s with can := cn,at_ := if s.phase = 1 then s.at_ + 1 else s.at_ } else if b = 21 then M.Snd.again { s with can := cn } else ([],{ s with can := cn })) := by
   rw [hcn,htw];rfl
  have HP := LH hput
  clear h hf h1 hb hc hcn htw hcf o1 q1 hs1 ht2 hput
  by_cases p3 : s.phase = 3
  ·rw [p3] at c5
   have HN : Hid (s.put b = ([],{ s with can := cn })) := by rw [HP.out,if_pos p3];exact rfl
   clear p3 hph
   go_wp2_with fail
   go_ret
   rw [HN.out]
   exact ⟨_,rfl,Out.nil _ _,HT.out.2.2.1,HT.out.1⟩
  ·have d3 : ((s.phase : Int) == 3) = false := by simp;omega
   cases tw with
   | true =>
    have HN : Hid (s.put b = M.Snd.end_ { s with can := cn } 9) := by rw [HP.out,if_neg p3,if_pos rfl];exact rfl
    clear p3 hph
    go_wp2_with (first | (go_at_call 230;refine (send_nine S ro { s with can := cn } _ HT.out.2.2.1).mono ?_;rintro e w2 ⟨v,rfl,e1,e2,e3⟩))
    go_ret
    rw [HN.out]
    exact SPost.after HT.out.1 e1 e2 e3
   | false =>
    by_cases p0 : s.phase = 0
    ·rw [p0] at c5
     by_cases b21 : b = 21
     ·obtain rfl : cn = false := HCF.out (by rw [b21];decide)
      subst b21
      clear hcn'
      have HN : Hid (s.put 21 = M.Snd.next { s with can := false,crc := false }) := by rw [HP.out,if_neg p3,if_neg (by simp),if_pos ⟨p0,.inl rfl⟩];exact rfl
      clear p3 hph d3
      go_wp2_with (first | (go_at_call 231;refine (next_any S ro { s with can := false,crc := false } _ (HT.out.2.2.2 _ false (hs_same HT.out.2.1 rfl) (HT.out.1.setCell (by simp) _))).mono ?_;rintro e w2 ⟨v,rfl,e1,e2,e3⟩))
      go_ret
      rw [HN.out]
      exact SPost.after (HT.out.1.setCell (by simp) _) e1 e2 e3
     ·have d21 : ((b.toNat : Int) == 21) = false := byte_ne b21
      by_cases g : b = 67 ∧ s.crc = true
      ·obtain ⟨g1,g2⟩ := g
       obtain rfl : cn = false := HCF.out (by rw [g1];decide)
       subst g1
       clear hcn'
       rw [g2] at c4
       have HN : Hid (s.put 67 = M.Snd.next { s with can := false,crc := true }) := by rw [HP.out,if_neg p3,if_neg (by simp),if_pos ⟨p0,.inr ⟨rfl,g2⟩⟩];exact rfl
       clear p3 hph d3
       go_wp2_with (first | (go_at_call 231;refine (next_any S ro { s with can := false,crc := true } _ (HT.out.2.2.2 _ true (hs_same HT.out.2.1 rfl) (HT.out.1.setCell (by simp) _))).mono ?_;rintro e w2 ⟨v,rfl,e1,e2,e3⟩))
       go_ret
       rw [HN.out]
       exact SPost.after (HT.out.1.setCell (by simp) _) e1 e2 e3
      ·have HN : Hid (s.put b = ([],{ s with can := cn })) := by
        rw [HP.out,if_neg p3,if_neg (by simp),if_neg (fun e => e.2.elim b21 g),if_pos p0];exact rfl
       clear p3 hph d3
       by_cases b67 : b = 67
       ·have g2 : s.crc = false := by cases hcr : s.crc with
         | false => rfl
         | true => exact absurd ⟨b67,hcr⟩ g
        rw [g2] at c4
        obtain rfl : cn = false := HCF.out (by rw [b67];decide)
        subst b67
        clear hcn'
        go_wp2_with fail
        go_ret
        rw [HN.out]
        exact ⟨_,rfl,Out.nil _ _,HT.out.2.2.1,HT.out.1⟩
       ·have d67 : ((b.toNat : Int) == 67) = false := byte_ne b67
        clear b67 g b21
        go_wp2_with fail
        go_ret
        rw [HN.out]
        exact ⟨_,rfl,Out.nil _ _,HT.out.2.2.1,HT.out.1⟩
    ·have d0 : ((s.phase : Int) == 0) = false := by simp;omega
     have hfat : s.phase = 1 → s.at_ < s.blocks.length := HF.out.1
     by_cases b6 : b = 6
     ·obtain rfl : cn = false := HCF.out (by rw [b6];decide)
      subst b6
      clear hcn'
      by_cases p1 : s.phase = 1
      ·have hlt := hfat p1
       have HN : Hid (s.put 6 = M.Snd.next { s with can := false,at_ := s.at_ + 1 }) := by rw [HP.out,if_neg p3,if_neg (by simp),if_neg (fun e => p0 e.1),if_neg p0,if_pos rfl,if_pos p1];exact rfl
       have hsn : Snded ((wc.setCell ⟨S,9,none⟩ (.bool false)).setCell ⟨S,6,none⟩ (.int .i64 (s.at_ + 1 : Nat))) S ro { s with can := false,at_ := s.at_ + 1 } := by
        have h := H.out.1
        exact h.turn HS.out.2.1 HS.out.2.2 (hs_same HT.out.2.1 rfl) (HT.out.1.setCell (by simp) _) rfl rfl h.tr h.lw h.ph (by simp;omega) h.er
       have HSN := LH hsn
       rw [p1] at c5
       clear p3 hph d3 d0 p0 p1 hsn hfat
       go_wp2_with (first | (go_at_call 231;refine (next_any S ro { s with can := false,at_ := s.at_ + 1 } _ HSN.out).mono ?_;rintro e w2 ⟨v,rfl,e1,e2,e3⟩))
       go_ret
       rw [HN.out]
       exact SPost.after (HT.out.1.setCell (by simp) _) e1 e2 e3
      ·have HN : Hid (s.put 6 = M.Snd.next { s with can := false }) := by
        rw [HP.out,if_neg p3,if_neg (by simp),if_neg (fun e => p0 e.1),if_neg p0,if_pos rfl,if_neg p1];exact rfl
       have d1 : ((s.phase : Int) == 1) = false := by simp;omega
       clear p3 hph p0 p1 hfat
       go_wp2_with (first | (go_at_call 231;refine (next_any S ro { s with can := false } _ HT.out.2.2.1).mono ?_;rintro e w2 ⟨v,rfl,e1,e2,e3⟩))
       go_ret
       rw [HN.out]
       exact SPost.after HT.out.1 e1 e2 e3
     ·have d6 : ((b.toNat : Int) == 6) = false := byte_ne b6
      by_cases b21 : b = 21
      ·obtain rfl : cn = false := HCF.out (by rw [b21];decide)
       subst b21
       clear hcn'
       have HN : Hid (s.put 21 = M.Snd.again { s with can := false }) := by rw [HP.out,if_neg p3,if_neg (by simp),if_neg (fun e => p0 e.1),if_neg p0,if_neg b6,if_pos rfl];exact rfl
       have HFA := LH hfat
       clear p3 hph p0 hfat b6 d6
       go_wp2_with (first | (go_at_call 232;refine (again_any S ro { s with can := false } _ HT.out.2.2.1 HFA.out).mono ?_;rintro e w2 ⟨v,rfl,e1,e2,e3⟩))
       go_ret
       rw [HN.out]
       exact SPost.after HT.out.1 e1 e2 e3
      ·have d21 : ((b.toNat : Int) == 21) = false := byte_ne b21
       have HN : Hid (s.put b = ([],{ s with can := cn })) := by rw [HP.out,if_neg p3,if_neg (by simp),if_neg (fun e => p0 e.1),if_neg p0,if_neg b6,if_neg b21];exact rfl
       clear p3 hph p0 hfat b6 b21
       go_wp2_with fail
       go_ret
       rw [HN.out]
       exact ⟨_,rfl,Out.nil _ _,HT.out.2.2.1,HT.out.1⟩
end Go.Proofs.YtplaamfoeaaaiaaGreatDoor
