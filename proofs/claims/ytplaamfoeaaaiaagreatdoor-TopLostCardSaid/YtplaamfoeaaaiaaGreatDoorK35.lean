/- A part of the proofs of the laws of lifelinetop (TopNever, TopLost, TopRoom): contracts of functions that these laws reach. No condition of its own. -/
import Derived.Test.YtplaamfoeaaaiaaGreatDoorK02
import Derived.Test.YtplaamfoeaaaiaaGreatDoorK24
import Derived.Test.YtplaamfoeaaaiaaGreatDoorK25
import Derived.Test.YtplaamfoeaaaiaaGreatDoorK34
set_option maxRecDepth 100000
set_option maxHeartbeats 8000000
set_option linter.unusedVariables false
namespace Go.Proofs.YtplaamfoeaaaiaaGreatDoor
open Go.RowKit
theorem PlayIs.st {w : World} {P : Nat} {f : List Nat} {x : M.Host} (h : PlayIs w P f x) (hp : x.playState = 0 ∨ x.playState = 1) : ∃ D cd pos X wt left x5 x7,w.heap[P]? = some (.cells (playCells D cd pos X wt left x5 x7 x.playState) 157 (0,0)) := by
 rcases hp with e | e
 ·obtain ⟨D,D0,cd,X,W,fpw,x5,_,hl⟩ := h.1 e
  rw [e]
  exact ⟨_,_,_,_,_,_,_,_,hl.str⟩
 ·obtain ⟨D,cd,pos,X,wt,left,x5,x7,hl⟩ := (h.2 e).2
  rw [e]
  exact ⟨_,_,_,_,_,_,_,_,hl⟩
def WokenOk (x : M.Host) : Prop := x.playState = 0 ∨ (x.playState = 1 ∧ LoadOk x)
theorem hwoken_is (H : Nat) (fp : List Nat) (x : M.Host) (w : World) (h : HostIs w H fp x) (hgl : Glob w) (hS : Sep fp glb) (hk : WokenOk x) :
  Calls Tryz.prog 45 #[.pointer (some ⟨H,0,none⟩)] w (HPost w H fp x.woken) := by
 have h0 := h
 obtain ⟨z,f,hfp,h'⟩ := h0
 obtain ⟨D,cd,pos,X,wt,left,x5,x7,hp⟩ := (h'.parts.play (by decide)).st (by rcases hk with e | e;exact .inl e;exact .inr e.1)
 have c10 : w.cell? ⟨H,10,none⟩ = some (.pointer (some ⟨z.P,0,none⟩)) := cell_at h'.str rfl
 have HH := LH (AI h (AI hp (AI hgl hS)))
 rcases hk with e | ⟨e,hl⟩
 ·have hw : x.woken = x := by unfold M.Host.woken;rw [if_neg (by omega),if_neg (by omega)]
  rw [e] at hp
  have hs := pstate_any z.P D cd X pos left 0 wt x5 x7 w hp
  have HX := LH (AI hs hw)
  clear h h' hp hgl hS hs hw e hfp
  go_enter Tryz.func45,Tryz.ntmps45
  go_wp2_with (go_at_call 66;refine HX.out.1.mono ?_;rintro e w1 ⟨rfl,rfl⟩)
  go_end0
  rw [HX.out.2]
  exact ⟨rfl,fp,HH.out.1,Ev.refl _ _⟩
 ·have hw : x.woken = x.load := by unfold M.Host.woken;rw [if_pos e]
  rw [e] at hp
  have hs := pstate_any z.P D cd X pos left 1 wt x5 x7 w hp
  have hL := hload_is H fp x w h hgl hS hl
  have HX := LH (AI hs (AI hw hL))
  clear h h' hp hgl hS hs hw e hfp hl hL
  go_enter Tryz.func45,Tryz.ntmps45
  go_wp2_with (first | (go_at_call 66;refine HX.out.1.mono ?_;rintro e w1 ⟨rfl,rfl⟩) | (go_at_call 67;refine HX.out.2.2.mono ?_;rintro e w1 ⟨rfl,hq⟩))
  go_end0
  rw [HX.out.2.1]
  exact ⟨rfl,hq⟩
theorem m205_Done (b : Nat) (w : World) : (method 492 205 (.pointer (some ⟨b,0,none⟩)) "Done").run Tryz.prog w = .ok (229,.pointer (some ⟨b,0,none⟩)) w := by kernel_rfl
theorem m205_Put (b : Nat) (w : World) : (method 492 205 (.pointer (some ⟨b,0,none⟩)) "Put").run Tryz.prog w = .ok (227,.pointer (some ⟨b,0,none⟩)) w := by kernel_rfl
theorem m205_Tick (b : Nat) (w : World) : (method 492 205 (.pointer (some ⟨b,0,none⟩)) "Tick").run Tryz.prog w = .ok (228,.pointer (some ⟨b,0,none⟩)) w := by kernel_rfl
theorem m199_Done (b : Nat) (w : World) : (method 492 199 (.pointer (some ⟨b,0,none⟩)) "Done").run Tryz.prog w = .ok (223,.pointer (some ⟨b,0,none⟩)) w := by kernel_rfl
theorem m199_Put (b : Nat) (w : World) : (method 492 199 (.pointer (some ⟨b,0,none⟩)) "Put").run Tryz.prog w = .ok (224,.pointer (some ⟨b,0,none⟩)) w := by kernel_rfl
theorem m199_Tick (b : Nat) (w : World) : (method 492 199 (.pointer (some ⟨b,0,none⟩)) "Tick").run Tryz.prog w = .ok (225,.pointer (some ⟨b,0,none⟩)) w := by kernel_rfl
def M.Giver.over : M.Giver → Bool
 | .none => false
 | .one s => s.done
 | .batch s => s.over
def M.Giver.err : M.Giver → Nat
 | .none => 0
 | .one s => s.err
 | .batch s => s.err
def SentOk (x : M.Host) : Prop := x.giver ≠ .none ∧ (x.giver.over = true → x.giver.err = 0)
theorem sent_no (x : M.Host) (h : x.giver.over = false) : x.sent = x := by
 unfold M.Host.sent
 cases hg : x.giver with
 | none => rfl
 | one s => rw [hg] at h;simp only [M.Giver.over] at h;simp [h]
 | batch s => rw [hg] at h;simp only [M.Giver.over] at h;simp [h]
theorem sent_ok (x : M.Host) (h : x.giver.over = true) (he : x.giver.err = 0) : x.sent = x.wait_ 2 [M.prompt] := by
 unfold M.Host.sent
 cases hg : x.giver with
 | none => rw [hg] at h;simp [M.Giver.over] at h
 | one s => rw [hg] at h he;simp only [M.Giver.over,M.Giver.err] at h he;simp [h,he]
 | batch s => rw [hg] at h he;simp only [M.Giver.over,M.Giver.err] at h he;simp [h,he]
theorem hwait_prompt (p : Nat) (pI : Int) (hp : pI = p) (H : Nat) (fp : List Nat) (x : M.Host) (w : World) (h : HostIs w H fp x) :
  Calls Tryz.prog 99 #[.pointer (some ⟨H,0,none⟩),.int .i64 pI,.slice (some ⟨w.heap.size,0,none⟩) 1 1] (w.alloc (.cells #[.string ⟨#[61,62,32]⟩] 9)) (HPost w H fp (x.wait_ p [M.prompt])) := by
 subst hp
 have ho : Only [] w (w.alloc (.cells #[.string ⟨#[61,62,32]⟩] 9)) := (Only.refl [] w).alloc _
 have hH := h.live H h.mem
 refine (hwait_is w.heap.size 1 p 1 [⟨#[61,62,32]⟩] H fp x _ (h.of_only ho (fun b _ => by simp)) rfl (by omega) (by omega) (fun k s e => ?_) (fun s hs => ?_) (by omega)).mono ?_
 ·match k,e with
  | 0,e =>
   simp only [List.getElem?_cons_zero,Option.some.injEq] at e
   subst e
   exact cell_at (heap_alloc_new w _) rfl
 ·simp only [List.mem_singleton] at hs
  subst hs
  exact ⟨plain_arrow,by decide,by decide⟩
 ·intro e w' hq
  exact HPost.after hq ⟨ho.weaken (by simp),Grow.refl _ _⟩
theorem hsent_is (H : Nat) (fp : List Nat) (x : M.Host) (w : World) (h : HostIs w H fp x) (hk : SentOk x) :
  Calls Tryz.prog 71 #[.pointer (some ⟨H,0,none⟩)] w (HPost w H fp x.sent) := by
 have h0 := h
 obtain ⟨z,f,hfp,h'⟩ := h0
 have c11 : w.cell? ⟨H,11,none⟩ = some z.giver := cell_at h'.str rfl
 obtain ⟨hk1,hk2⟩ := hk
 have hg := h'.parts.giver (by decide)
 cases hgv : x.giver with
 | none => exact absurd hgv hk1
 | one s =>
  rw [hgv] at hg
  obtain ⟨S,ro,e,_,hs⟩ := hg
  rw [e] at c11
  have hm := fun w => m205_Done S w
  have hD := sdone_any S ro s w hs
  have ho : x.giver.over = s.done := by rw [hgv];rfl
  have he : x.giver.err = s.err := by rw [hgv];rfl
  rw [← ho,← he] at hD
  by_cases hov : x.giver.over = true
  ·have hx := sent_ok x hov (hk2 hov)
   rw [hov,hk2 hov,errV_zero] at hD
   have hnn := fun w => neq_nn w
   have hW := fun wx (o : Only [] w wx) => (hwait_prompt 2 2 rfl H fp x wx (h.of_only o (fun b _ => by simp))).mono (fun e w' q => HPost.after q (⟨o.weaken (by simp),Grow.refl _ _⟩ : Ev w wx fp fp))
   have HX := LH (AI hD (AI hx hW))
   clear h h' hfp hk1 hk2 hgv hD hx e hs ho he hov hW
   go_enter Tryz.func71,Tryz.ntmps71
   go_wp2_with (first | (go_at_call 229;go_loud (refine HX.out.1.mono ?_;rintro e w1 ⟨rfl,o1⟩;have H1 := LH o1;clear o1)) | (go_at_call 99;go_loud (refine (HX.out.2.2 _ H1.out).mono ?_;rintro e w2 ⟨rfl,hq⟩)))
   go_end0
   rw [HX.out.2.1]
   exact ⟨rfl,hq⟩
  ·have hov' : x.giver.over = false := by simpa using hov
   have hx := sent_no x hov'
   rw [hov'] at hD
   have HX := LH (AI hD (AI hx h))
   clear h h' hfp hk1 hk2 hgv hD hx e hs ho he hov hov'
   go_enter Tryz.func71,Tryz.ntmps71
   go_wp2_with (first | (go_at_call 229;go_loud (refine HX.out.1.mono ?_;rintro e w1 ⟨rfl,o1⟩;have H1 := LH o1;clear o1)))
   go_end0
   rw [HX.out.2.1]
   exact ⟨rfl,fp,HX.out.2.2.of_only H1.out (fun b _ => by simp),H1.out.weaken (by simp),Grow.refl _ _⟩
 | batch s =>
  rw [hgv] at hg
  obtain ⟨F,e,_,hs⟩ := hg
  rw [e] at c11
  have hm := fun w => m199_Done F.X w
  have hD := bsdone_any F s w hs
  have ho : x.giver.over = s.over := by rw [hgv];rfl
  have he : x.giver.err = s.err := by rw [hgv];rfl
  rw [← ho,← he] at hD
  by_cases hov : x.giver.over = true
  ·have hx := sent_ok x hov (hk2 hov)
   rw [hov,hk2 hov,errV_zero] at hD
   have hnn := fun w => neq_nn w
   have hW := fun wx (o : Only [] w wx) => (hwait_prompt 2 2 rfl H fp x wx (h.of_only o (fun b _ => by simp))).mono (fun e w' q => HPost.after q (⟨o.weaken (by simp),Grow.refl _ _⟩ : Ev w wx fp fp))
   have HX := LH (AI hD (AI hx hW))
   clear h h' hfp hk1 hk2 hgv hD hx e hs ho he hov hW
   go_enter Tryz.func71,Tryz.ntmps71
   go_wp2_with (first | (go_at_call 223;go_loud (refine HX.out.1.mono ?_;rintro e w1 ⟨rfl,o1⟩;have H1 := LH o1;clear o1)) | (go_at_call 99;go_loud (refine (HX.out.2.2 _ H1.out).mono ?_;rintro e w2 ⟨rfl,hq⟩)))
   go_end0
   rw [HX.out.2.1]
   exact ⟨rfl,hq⟩
  ·have hov' : x.giver.over = false := by simpa using hov
   have hx := sent_no x hov'
   rw [hov'] at hD
   have HX := LH (AI hD (AI hx h))
   clear h h' hfp hk1 hk2 hgv hD hx e hs ho he hov hov'
   go_enter Tryz.func71,Tryz.ntmps71
   go_wp2_with (first | (go_at_call 223;go_loud (refine HX.out.1.mono ?_;rintro e w1 ⟨rfl,o1⟩;have H1 := LH o1;clear o1)))
   go_end0
   rw [HX.out.2.1]
   exact ⟨rfl,fp,HX.out.2.2.of_only H1.out (fun b _ => by simp),H1.out.weaken (by simp),Grow.refl _ _⟩
def NextOk (x : M.Host) : Prop := x.k + 1 = x.es.length ∨ (x.k + 1 < x.es.length ∧ LoadOk { x with k := x.k + 1,up := 0 })
theorem HostAt.nexts {w w' : World} {H : Nat} {z : HV} {f : Nat → List Nat} {x : M.Host} (h : HostAt w H z f x) (hk : x.k + 1 ≤ x.es.length) (ho : Only [H] w w') (a b : Int) (ha : 0 ≤ a ∧ a ≤ 1099511627776) (hb : 0 ≤ b ∧ b ≤ 1099511627776) (hs : w'.heap[H]? = some (.cells (hostZ { z with ma := a,mb := b } { x with k := x.k + 1,up := 0 }) 96 (0,0))) :
  HostAt w' H { z with ma := a,mb := b } f { x with k := x.k + 1,up := 0 } ∧ Ev w w' (allF f) (allF f) := by
 obtain ⟨hz,hp,he⟩ := h.own ho
 exact ⟨⟨hs,h.f0,hz,⟨hp.es,hp.im,hp.play,hp.giver,hp.watch,hp.ring,hp.demux,hp.heard,hp.out⟩,⟨h.nums.cfg,ha.1,ha.2,hb.1,hb.2,hk,h.nums.es8,Nat.zero_le _⟩⟩,he⟩
theorem hnext_is (H : Nat) (fp : List Nat) (x : M.Host) (w : World) (h : HostIs w H fp x) (hgl : Glob w) (hS : Sep fp glb) (hk : NextOk x) :
  Calls Tryz.prog 115 #[.pointer (some ⟨H,0,none⟩)] w (HPost w H fp x.next) := by
 obtain ⟨z,f,rfl,h⟩ := h
 have hkl : x.k + 1 ≤ x.es.length := by rcases hk with e | e <;> omega
 have he8 := h.nums.es8
 obtain ⟨es,ec,hze,_,_⟩ := h.parts.es (by decide)
 have c18 : w.cell? ⟨H,18,none⟩ = some (.complex .f64 (floatOfInt .f64 z.ma) (floatOfInt .f64 z.mb)) := cell_at h.str rfl
 have f18 : w.frozen? ⟨H,18,none⟩ = false := free_at h.str
 obtain ⟨k,hxk⟩ : ∃ k,x.k = k := ⟨_,rfl⟩
 obtain ⟨n,hxn⟩ : ∃ n,x.es.length = n := ⟨_,rfl⟩
 have c8 : w.cell? ⟨H,8,none⟩ = some (.int .i64 k) := by rw [← hxk];exact cell_at h.str rfl
 have f8 : w.frozen? ⟨H,8,none⟩ = false := free_at h.str
 have c9 : w.cell? ⟨H,9,none⟩ = some (.int .i64 x.up) := cell_at h.str rfl
 have f9 : w.frozen? ⟨H,9,none⟩ = false := free_at h.str
 have c5 : w.cell? ⟨H,5,none⟩ = some (.slice es n ec) := by rw [← hxn,← hze];exact cell_at h.str rfl
 have hkn : k + 1 ≤ n := by omega
 have hn8 : n ≤ 8 := by omega
 have HA := LH (add_any z.ma z.mb 1 0 h.nums.ma0 h.nums.ma1 h.nums.mb0 h.nums.mb1 w)
 have HH := LH (AI h (AI hgl (AI hS (AI hkl (AI hxk (AI hxn (AI hk hze)))))))
 clear h hgl hS hkl he8 hxk hxn hk hze
 have hk8 : (k : Int) + 1 ≤ 8 := by omega
 have hsto := fun (w : World) (a : Addr) (x y : Nat) (m : Mode) => run_store Tryz.prog w a (.complex .f64 x y) m rfl
 go_enter Tryz.func115,Tryz.ntmps115
 go_upto_region 3 with (go_at_call 116;go_loud (refine HA.out.mono ?_;rintro e w1 ⟨rfl,rfl⟩))
 generalize hw1 : World.setCell (World.setCell (World.setCell w _ _) _ _) _ _ = w1
 have h1 : w1.heap[H]? = some (.cells (hostZ { z with ma := capI (z.ma + fitI 1),mb := capI (z.mb + fitI 0) } { x with k := x.k + 1,up := 0 }) 96 (0,0)) := by
  subst hw1
  rw [← HH.out.2.2.2.2.1]
  exact hs_same (hs_same (hs_same HH.out.1.str rfl) rfl) rfl
 have o1 : Only [H] w w1 := by subst hw1;exact ((only_set w H 18 _).trans (only_set _ H 8 _)).trans (only_set _ H 9 _)
 have f1 := fitI_bd 1
 have f0 := fitI_bd 0
 have hn := HH.out.1.nums
 obtain ⟨j1,j2⟩ := HH.out.1.nexts HH.out.2.2.2.1 o1 _ _ (capI_bd _ (by have := hn.ma0;omega)) (capI_bd _ (by have := hn.mb0;omega)) h1
 have d8 : w1.cell? ⟨H,8,none⟩ = some (.int .i64 ((k : Int) + 1)) := by rw [← HH.out.2.2.2.2.1];exact cell_at h1 rfl
 have d5 : w1.cell? ⟨H,5,none⟩ = some (.slice es n ec) := by rw [← HH.out.2.2.2.2.2.1,← HH.out.2.2.2.2.2.2.2];exact cell_at h1 rfl
 have HJ := LH (AI j1 j2)
 clear hw1 h1 o1 f1 f0 hn j1 j2 c18 f18 c8 f8 c9 f9 c5
 by_cases hq : k + 1 = n
 ·have hx : x.next = M.Host.end_ { x with k := x.k + 1,up := 0 } 0 := by
   unfold M.Host.next
   simp only
   rw [if_pos (by rw [HH.out.2.2.2.2.1,HH.out.2.2.2.2.2.1];exact hq)]
  have hd : (((k : Int) + 1) == (n : Int)) = true := by simp;omega
  have HX := LH hx
  have HE := LH (fun wx (o : Only [] w1 wx) => hend_is 0 H (allF f) _ wx ⟨_,_,rfl,HJ.out.1.of_only o (fun b _ => by simp)⟩)
  clear hx hq hsto
  go_quiet (fail)
  go_wp2_with (go_at_call 31;go_loud (refine (HE.out _ (only_drewN [] w1 _)).mono ?_;rintro e w2 ⟨rfl,hq⟩))
  go_end0
  rw [HX.out]
  exact HPost.after (w1 := w1.drewN _) ⟨rfl,hq⟩ (HJ.out.2.drewN _)
 ·have hx : x.next = M.Host.load { x with k := x.k + 1,up := 0 } := by
   unfold M.Host.next
   simp only
   rw [if_neg (by rw [HH.out.2.2.2.2.1,HH.out.2.2.2.2.2.1];exact hq)]
  have hd : (((k : Int) + 1) == (n : Int)) = false := by simp;omega
  have HX := LH hx
  have hl : LoadOk { x with k := x.k + 1,up := 0 } := by
   rcases HH.out.2.2.2.2.2.2.1 with e | e
   ·rw [HH.out.2.2.2.2.1,HH.out.2.2.2.2.2.1] at e;omega
   ·exact e.2
  have HE := LH (fun wx (o : Only [] w1 wx) => hload_is H (allF f) _ wx ⟨_,_,rfl,HJ.out.1.of_only o (fun b _ => by simp)⟩ ((HH.out.2.1.of_ev HH.out.2.2.1 HJ.out.2).of_none o) HH.out.2.2.1 hl)
  clear hx hq hl hsto
  go_quiet (fail)
  go_wp2_with (go_at_call 67;go_loud (refine (HE.out _ (only_drewN [] w1 _)).mono ?_;rintro e w2 ⟨rfl,hq⟩))
  go_end0
  rw [HX.out]
  exact HPost.after (w1 := w1.drewN _) ⟨rfl,hq⟩ (HJ.out.2.drewN _)
structure AskOk (x : M.Host) (e : M.Entry) : Prop where
 addr : e.addr < 4294967296
 size : e.size < 4294967296
 print : e.print < 4294967296
 len : (M.lineOf e.addr e.size e.print).length ≤ 64
 plain : ∀ c,c ∈ M.lineOf e.addr e.size e.print → plainC c.toNat
 out : x.out.length ≤ 900000
def MetOk (x : M.Host) (arm : Nat) : Prop := ∃ e,x.es[x.k]? = some e ∧ ((x.phase = 2 ∧ AskOk x e) ∨ (x.phase = 3 ∧ arm = 0) ∨ (x.phase = 4 ∧ NextOk x))
theorem plain_of (l : List UInt8) (h : ∀ c,c ∈ l → plainC c.toNat) : Plain ⟨l.toArray⟩ := fun k hk => h _ (by
 show l.toArray[k]'hk ∈ l
 simp)
theorem askOf_len (addr size : Nat) : (M.askOf addr size).length ≤ 1000 := by
 have h1 := digits_len 16 addr
 have h2 := digits_len 16 size
 unfold M.askOf
 rw [str_sum]
 simp only [List.length_append,List.length_cons,List.length_nil]
 omega
theorem lineOf_pos (addr size p : Nat) : 0 < (M.lineOf addr size p).length := by
 unfold M.lineOf
 rw [str_sum]
 simp only [List.length_append,List.length_cons,List.length_nil]
 omega
theorem hwait_line (l : List UInt8) (hl0 : 0 < l.length) (hl : l.length ≤ 64) (hp : ∀ c,c ∈ l → plainC c.toNat) (H : Nat) (fp : List Nat) (x : M.Host) (w : World) (h : HostIs w H fp x) :
  Calls Tryz.prog 99 #[.pointer (some ⟨H,0,none⟩),.int .i64 3,.slice (some ⟨w.heap.size,0,none⟩) 2 2] (w.alloc (.cells #[.string ⟨l.toArray⟩,.string ⟨#[61,62,32]⟩] 9)) (HPost w H fp (x.wait_ 3 [l,M.prompt])) := by
 have ho : Only [] w (w.alloc (.cells #[.string ⟨l.toArray⟩,.string ⟨#[61,62,32]⟩] 9)) := (Only.refl [] w).alloc _
 have hH := h.live H h.mem
 refine (hwait_is w.heap.size 2 3 2 [⟨l.toArray⟩,⟨#[61,62,32]⟩] H fp x _ (h.of_only ho (fun b _ => by simp)) rfl (by omega) (by omega) (fun k s e => ?_) (fun s hs => ?_) (by omega)).mono ?_
 ·match k,e with
  | 0,e =>
   simp only [List.getElem?_cons_zero,Option.some.injEq] at e
   subst e
   exact cell_at (heap_alloc_new w _) rfl
  | 1,e =>
   simp only [List.getElem?_cons_succ,List.getElem?_cons_zero,Option.some.injEq] at e
   subst e
   exact cell_at (heap_alloc_new w _) rfl
 ·simp only [List.mem_cons,List.not_mem_nil,or_false] at hs
  rcases hs with rfl | rfl
  ·exact ⟨plain_of l hp,hl0,hl⟩
  ·exact ⟨plain_arrow,by decide,by decide⟩
 ·intro e w' hq
  exact HPost.after hq ⟨ho.weaken (by simp),Grow.refl _ _⟩
theorem hmet_2 (arm : Nat) (H : Nat) (fp : List Nat) (x : M.Host) (e : M.Entry) (w : World) (h : HostIs w H fp x) (hgl : Glob w) (hS : Sep fp glb) (he : x.es[x.k]? = some e) (hp : x.phase = 2) (hk : AskOk x e) :
  Calls Tryz.prog 96 #[.pointer (some ⟨H,0,none⟩),.int .i64 arm] w (HPost w H fp (x.met arm)) := by
 have hle : x.met arm = (x.send (M.askOf e.addr e.size)).wait_ 3 [M.lineOf e.addr e.size e.print,M.prompt] := by
  unfold M.Host.met
  rw [he,hp]
  rfl
 have hlive := h.live
 have h00 := h
 have hHm := h.mem
 obtain ⟨z,f,hfp,h⟩ := h
 obtain ⟨ge,ce,hze,e0,e1,e2,q0,q1,q2,q3,q4⟩ := (h.parts.es (by decide)).at he
 obtain ⟨nm,addr,size,pr,way⟩ := e
 obtain ⟨k,hk'⟩ : ∃ k,x.k = k := ⟨_,rfl⟩
 obtain ⟨ne,hne⟩ : ∃ n,x.es.length = n := ⟨_,rfl⟩
 obtain ⟨k1,k2,k3,k4,k5,k6⟩ := hk
 simp only at q0 q1 q2 q3 q4 hle k1 k2 k3 k4 k5
 have c5 : w.cell? ⟨H,5,none⟩ = some (.slice (some ⟨ge,0,none⟩) ne ce) := by rw [← hne,← hze];exact cell_at h.str rfl
 have c8 : w.cell? ⟨H,8,none⟩ = some (.int .i64 k) := by rw [← hk'];exact cell_at h.str rfl
 have c7 : w.cell? ⟨H,7,none⟩ = some (.int .i64 2) := (by rw [← hp];exact cell_at h.str rfl : w.cell? ⟨H,7,none⟩ = some (.int .i64 ((2 : Nat) : Int)))
 rw [hk'] at q0 q1 q2 q3 q4 e1
 rw [hne] at e0 e1
 have hH := h.hlt
 have hge : ge < w.heap.size := h.live 1 ge e2
 have hk8 : ne ≤ 8 := by rw [← hne];exact h.nums.es8
 have HH := LH (AI h00 (AI hgl (AI hle (AI hlive (AI k5 (AI hS hHm))))))
 clear h h00 hgl hle hlive hze hne hk' he hp k5 hfp e2 hS hHm
 go_enter Tryz.func96,Tryz.ntmps96
 go_wp2_with fail
 go_region
 go_upto_region 1 with fail
 obtain ⟨A,hA⟩ : ∃ A,A = w.heap.size := ⟨_,rfl⟩
 obtain ⟨w1,hw1⟩ : ∃ w1,w1 = (w.alloc (.cells #[strB nm,.int .i64 addr,.int .i64 size,.int .u32 pr,.int .i64 way] 39)).drew := ⟨_,rfl⟩
 have hA1 : w1.heap[A]? = some (.cells #[strB nm,.int .i64 addr,.int .i64 size,.int .u32 pr,.int .i64 way] 39 (0,0)) := by rw [hw1,hA];exact heap_alloc_new w _
 have o1 : Only [] w w1 := by rw [hw1];exact ((Only.refl [] w).alloc _).drew
 rw [← hA,← hw1]
 have a1 : w1.cell? ⟨A,1,none⟩ = some (.int .i64 addr) := cell_at hA1 rfl
 have a2 : w1.cell? ⟨A,2,none⟩ = some (.int .i64 size) := cell_at hA1 rfl
 have d7 := o1.cell c7 (by simp)
 obtain ⟨t,ht⟩ : ∃ t,t = M.askOf addr size := ⟨_,rfl⟩
 obtain ⟨l,hl⟩ : ∃ l,l = M.lineOf addr size pr := ⟨_,rfl⟩
 have hAsk := ask_any addr size w1 ((HH.out.2.1.of_none o1).tabs) k1 k2
 have htl : t.length ≤ 1000 := by rw [ht];exact askOf_len _ _
 obtain ⟨L,hL⟩ : ∃ L,L = t.length := ⟨_,rfl⟩
 rw [← ht] at hAsk
 have hl0 : 0 < l.length := by rw [hl];exact lineOf_pos _ _ _
 rw [← hl] at k4
 have H1 := LH (AI hA1 (AI o1 (AI hAsk (AI ht (AI hL (AI hA hl))))))
 have hA0 : w.heap.size ≤ A := by omega
 rw [← hL] at htl
 clear hA1 o1 hw1 hA hAsk ht hL q0 q1 q2 q3 q4 c5 c7 c8 hl
 go_upto_region 6 with (first
  | (go_at_call 112;go_loud (refine H1.out.2.2.1.mono ?_;rintro e w2 ⟨rfl,o2⟩;obtain ⟨C,wc,hconv,d1,d2,oc,sc,hbc⟩ := conv_str t w2 (by rw [← H1.out.2.2.2.2.1];unfold maxLen;omega);rw [← H1.out.2.2.2.2.1] at hconv;have H2 := LH (AI o2 (AI oc hbc));clear o2 oc hbc d1 d2 sc))
  | (go_at_call 44;go_loud (have o03 : Only [] w wc := (H1.out.2.1.trans H2.out.1).trans H2.out.2.1;refine (hsend_is (some ⟨w2.heap.size,0,none⟩) L C t H fp x wc (HH.out.1.of_only o03 (fun b _ => by simp)) H2.out.2.2 H1.out.2.2.2.2.1.symm (fun e => by cases e) (by omega)).mono ?_;rintro e w3 ⟨rfl,fp3,h3,ev3⟩;have H3 := LH (AI h3 (AI (⟨o03.weaken (by simp),Grow.refl _ _⟩ : Ev w wc fp fp) (AI ev3 o03)));clear hconv h3 ev3 o03)))
 have hA3 : w3.heap[A]? = some (.cells #[strB nm,.int .i64 addr,.int .i64 size,.int .u32 pr,.int .i64 way] 39 (0,0)) := by
  have oA : Only [] w1 wc := H2.out.1.trans H2.out.2.1
  refine H3.out.2.2.1.only.heap (oA.heap H1.out.1 (by simp)) (fun hm => ?_)
  have := HH.out.2.2.2.1 A hm;omega
 have ev03 : Ev w w3 fp fp3 := H3.out.2.1.trans H3.out.2.2.1
 have b1 : w3.cell? ⟨A,1,none⟩ = some (.int .i64 addr) := cell_at hA3 rfl
 have b2 : w3.cell? ⟨A,2,none⟩ = some (.int .i64 size) := cell_at hA3 rfl
 have b3 : w3.cell? ⟨A,3,none⟩ = some (.int .u32 pr) := cell_at hA3 rfl
 have hLn := line_any addr size pr w3 ((HH.out.2.1.of_ev HH.out.2.2.2.2.2.1 ev03).tabs) k1 k2 k3
 rw [← H1.out.2.2.2.2.2.2] at hLn
 have HL := LH (AI hLn ev03)
 clear a1 a2 d7 hA3 ev03 hLn
 go_upto_region 7 with (go_at_call 113;go_loud (refine HL.out.1.mono ?_;rintro e w4 ⟨rfl,o4⟩;have H4 := LH o4;clear o4))
 have hQ := quote_any ⟨l.toArray⟩ w4 (by show l.length ≤ 1000;omega) (plain_of l (by rw [H1.out.2.2.2.2.2.2];exact HH.out.2.2.2.2.1))
 have HQ := LH hQ
 clear hQ b1 b2 b3
 go_wp2_with (first
  | (go_at_call 114;go_loud (refine HQ.out.mono ?_;rintro e w5 ⟨rfl,o5⟩;have H5 := LH o5;clear o5))
  | (go_at_call 99;go_loud (refine (hwait_line l hl0 k4 (by rw [H1.out.2.2.2.2.2.2];exact HH.out.2.2.2.2.1) H fp3 _ w5 (H3.out.1.of_only (H4.out.trans H5.out) (fun b _ => by simp))).mono ?_;rintro e w6 ⟨rfl,hq⟩)))
 go_end0
 have ev35 : Ev w3 w5 fp3 fp3 := ⟨(H4.out.trans H5.out).weaken (by simp),Grow.refl _ _⟩
 rw [HH.out.2.2.1,← H1.out.2.2.2.1,← H1.out.2.2.2.2.2.2]
 exact HPost.after (w1 := w5) ⟨rfl,hq⟩ (HL.out.2.trans ev35)
theorem hmet_3 (arm : Nat) (H : Nat) (fp : List Nat) (x : M.Host) (e : M.Entry) (w : World) (h : HostIs w H fp x) (hgl : Glob w) (hS : Sep fp glb) (he : x.es[x.k]? = some e) (hk : (x.phase = 3 ∧ arm = 0) ∨ (x.phase = 4 ∧ NextOk x)) :
  Calls Tryz.prog 96 #[.pointer (some ⟨H,0,none⟩),.int .i64 arm] w (HPost w H fp (x.met arm)) := by
 have h00 := h
 obtain ⟨z,f,hfp,h⟩ := h
 obtain ⟨ge,ce,hze,e0,e1,e2,q0,q1,q2,q3,q4⟩ := (h.parts.es (by decide)).at he
 obtain ⟨k,hk'⟩ : ∃ k,x.k = k := ⟨_,rfl⟩
 obtain ⟨ne,hne⟩ : ∃ n,x.es.length = n := ⟨_,rfl⟩
 have c5 : w.cell? ⟨H,5,none⟩ = some (.slice (some ⟨ge,0,none⟩) ne ce) := by rw [← hne,← hze];exact cell_at h.str rfl
 have c8 : w.cell? ⟨H,8,none⟩ = some (.int .i64 k) := by rw [← hk'];exact cell_at h.str rfl
 have c7 : w.cell? ⟨H,7,none⟩ = some (.int .i64 x.phase) := cell_at h.str rfl
 rw [hk'] at q0 q1 q2 q3 q4 e1
 rw [hne] at e0 e1
 have hH := h.hlt
 have hge : ge < w.heap.size := h.live 1 ge e2
 have hk8 : ne ≤ 8 := by rw [← hne];exact h.nums.es8
 have ev1 : ∀ wx,Only [] w wx → Ev w wx fp fp := fun wx o => ⟨o.weaken (by simp),Grow.refl _ _⟩
 rcases hk with ⟨hp,ha⟩ | ⟨hp,hnx⟩
 ·subst ha
  have hx : x.met 0 = x.wait_ 4 [M.prompt] := by
   unfold M.Host.met
   rw [he,hp]
   rfl
  have HW := LH (fun wx (o : Only [] w wx) => hwait_prompt 4 4 rfl H fp x wx (h00.of_only o (fun b _ => by simp)))
  rw [hp] at c7
  have HX := LH (AI hx ev1)
  clear h h00 hgl hze hne hk' he hp hfp e2 hS hx ev1
  go_enter Tryz.func96,Tryz.ntmps96
  go_wp2_with fail
  go_region
  go_upto_region 1 with fail
  generalize hw1 : World.drew (World.alloc w _) = w1
  have o1 : Only [] w w1 := by subst hw1;exact ((Only.refl [] w).alloc _).drew
  have d7 := o1.cell c7 (by simp)
  have H1 := LH o1
  clear hw1 o1 q0 q1 q2 q3 q4 c5 c7 c8
  go_wp2_with (go_at_call 99;go_loud (refine (HW.out w1 H1.out).mono ?_;rintro e w6 ⟨rfl,hq⟩))
  go_end0
  rw [HX.out.1]
  exact HPost.after (w1 := w1) ⟨rfl,hq⟩ (HX.out.2 w1 H1.out)
 ·have hx : x.met arm = x.next := by
   unfold M.Host.met
   rw [he,hp]
   rfl
  have HW := LH (fun wx (o : Only [] w wx) => hnext_is H fp x wx (h00.of_only o (fun b _ => by simp)) (hgl.of_none o) hS hnx)
  rw [hp] at c7
  have HX := LH (AI hx ev1)
  clear h h00 hgl hze hne hk' he hp hfp e2 hS hx ev1 hnx
  go_enter Tryz.func96,Tryz.ntmps96
  go_wp2_with fail
  go_region
  go_upto_region 1 with fail
  generalize hw1 : World.drew (World.alloc w _) = w1
  have o1 : Only [] w w1 := by subst hw1;exact ((Only.refl [] w).alloc _).drew
  have d7 := o1.cell c7 (by simp)
  have H1 := LH o1
  clear hw1 o1 q0 q1 q2 q3 q4 c5 c7 c8
  go_wp2_with (go_at_call 115;go_loud (refine (HW.out w1 H1.out).mono ?_;rintro e w6 ⟨rfl,hq⟩))
  go_end0
  rw [HX.out.1]
  exact HPost.after (w1 := w1) ⟨rfl,hq⟩ (HX.out.2 w1 H1.out)
theorem hmet_is (arm : Nat) (H : Nat) (fp : List Nat) (x : M.Host) (w : World) (h : HostIs w H fp x) (hgl : Glob w) (hS : Sep fp glb) (hk : MetOk x arm) :
  Calls Tryz.prog 96 #[.pointer (some ⟨H,0,none⟩),.int .i64 arm] w (HPost w H fp (x.met arm)) := by
 obtain ⟨e,he,⟨h1,h2⟩ | h1 | h1⟩ := hk
 ·exact hmet_2 arm H fp x e w h hgl hS he h1 h2
 ·exact hmet_3 arm H fp x e w h hgl hS he (.inl h1)
 ·exact hmet_3 arm H fp x e w h hgl hS he (.inr h1)
theorem dput_any (D base : Nat) (v : Value) (mode n : Nat) (ss : List Seg) (c : Int) (w : World) (h : Demuxed w D base v mode n ss) (hn : n + 1 ≤ 1099511627776) :
  Calls Tryz.prog 93 #[.pointer (some ⟨D,0,none⟩),.int .u8 c] w fun e w' => ∃ v' ss',e = .returned (.int .i64 mode) ∧ Demuxed w' D base v' mode (n + 1) ss' ∧ Only (D :: ownL v) w w' ∧ ∀ g,v'.ownBlock = some g → v.ownBlock = some g ∨ w.heap.size ≤ g := by
 have hnew : (∀ l,ss.getLast? = some l → l.m ≠ mode) → Calls Tryz.prog 93 #[.pointer (some ⟨D,0,none⟩),.int .u8 c] w fun e w' => ∃ v' ss',e = .returned (.int .i64 mode) ∧ Demuxed w' D base v' mode (n + 1) ss' ∧ Only (D :: ownL v) w w' ∧ ∀ g,v'.ownBlock = some g → v.ownBlock = some g ∨ w.heap.size ≤ g := fun hm => by
  obtain ⟨a,cp,rfl⟩ := own_slice h.own
  refine (put_new D base a cp mode n ss.length ss c w rfl h hn hm).mono ?_
  rintro e w' ⟨g,cap,he,hd,ho,hg⟩
  exact ⟨_,_,he,hd,ho,fun g' e' => by simp [Value.ownBlock] at e';subst e';exact hg⟩
 rcases List.eq_nil_or_concat ss with rfl | ⟨pre,l,rfl⟩
 ·exact hnew (by simp)
 ·by_cases hl : l.m = mode
  ·obtain ⟨m,f,s⟩ := l
   simp only at hl
   subst hl
   simp only [List.concat_eq_append] at h ⊢
   obtain ⟨g,cap,rfl,hg,hgl,hc⟩ := own_form h.own (by simp)
   have hlen : (pre ++ [(⟨m,f,s⟩ : Seg)]).length = pre.length + 1 := by simp
   rw [hlen] at h ⊢
   refine (put_same D base g cap m n f s pre.length pre c w rfl h hn).mono ?_
   rintro e w' ⟨he,hd,ho⟩
   exact ⟨_,_,he,hd,ho.weaken (by simp [ownL,Value.ownBlock]),fun g' e' => .inl e'⟩
  ·exact hnew (fun l' hl' => by simp at hl';subst hl';exact hl)
theorem ev_upd {w w' : World} {f : Nat → List Nat} {i : Nat} {l : List Nat} (hi : i < 10) (ho : Only (f i) w w') (hg : Grow (f i) l w) : Ev w w' (allF f) (allF (upd f i l)) := by
 refine ⟨ho.weaken (fun b hb => mem_allF.2 ⟨i,hi,hb⟩),fun b hb => ?_⟩
 obtain ⟨j,hj,hb⟩ := mem_allF.1 hb
 by_cases hji : j = i
 ·subst hji
  rw [upd_same] at hb
  exact (hg b hb).imp (fun h1 => mem_allF.2 ⟨j,hj,h1⟩) id
 ·rw [upd_other f l hji] at hb
  exact .inl (mem_allF.2 ⟨j,hj,hb⟩)
theorem HostAt.takes {w w3 w' : World} {H : Nat} {z : HV} {f : Nat → List Nat} {x : M.Host} (h : HostAt w H z f x) (ho : Only (H :: f 8) w w3) {a' : Option Addr} {c' : Nat} {hs' : List UInt8} (hs : w3.heap[H]? = some (.cells (hostZ { z with ha := a',hc := c',hs := hs' } { x with heard := x.heard + 1 }) 96 (0,0))) (hrow : RowAt w3 (H + 1) a' c' hs') (hl : hs'.length = x.heard + 1) (hg8 : Grow (f 8) (ownL (.slice a' (x.heard + 1) c')) w) (o7 : Only (z.Dm :: ownL z.dv) w3 w') {dv' : Value} {ss' : List Seg} (hd : Demuxed w' z.Dm z.db dv' z.mode (x.heard + 1) ss') (hg7 : ∀ g,dv'.ownBlock = some g → z.dv.ownBlock = some g ∨ w3.heap.size ≤ g) :
  ∃ fp',HostIs w' H fp' { x with heard := x.heard + 1 } ∧ Ev w w' (allF f) fp' := by
 obtain ⟨_,h7⟩ := h.parts.demux (by decide)
 have hl8 : Live w3 (ownL (.slice a' (x.heard + 1) c')) := fun b hb => by
  rw [← hl] at hb
  exact (World.ownsRow.lt hrow b (mem_ownL.1 hb)).2
 obtain ⟨⟨G3,hz3⟩,hp3,he3⟩ := h.turn 8 (by decide) (by decide) ho hg8 hl8
 have o7' : Only (f 7) w3 w' := by rw [h7];exact o7
 have hg7' : Grow (f 7) (z.Dm :: ownL dv') w3 := fun b hb => by
  rw [h7]
  rcases List.mem_cons.1 hb with rfl | hb
  ·left;simp
  ·exact (hg7 b (mem_ownL.1 hb)).imp (fun e => List.mem_cons_of_mem _ (mem_ownL.2 e)) id
 have hl7 : Live w' (z.Dm :: ownL dv') := fun b hb => by
  rcases List.mem_cons.1 hb with rfl | hb
  ·exact heap_lt hd.str
  ·exact (hd.blk b (mem_ownL.1 hb)).2
 have hz4 := hz3.turn (i := 7) o7.size (l := z.Dm :: ownL dv') (show Grow (f 7) _ w3 from hg7') hl7
 have he4 := ev_upd (f := upd f 8 (ownL (.slice a' (x.heard + 1) c'))) (i := 7) (by decide) (show Only (f 7) w3 w' from o7') (show Grow (f 7) _ w3 from hg7')
 have hs7 : ∀ j,j ≠ 7 → j ≠ 8 → Sep (f j) (f 7) := fun j hj _ => h.sep hj
 have s87 : Sep (ownL (.slice a' (x.heard + 1) c')) (f 7) := hz3.sep (i := 8) (j := 7) (by decide)
 refine ⟨_,⟨{ z with ha := a',hc := c',hs := hs',dv := dv',ss := ss' },upd (upd f 8 (ownL (.slice a' (x.heard + 1) c'))) 7 (z.Dm :: ownL dv'),rfl,⟨o7'.heap hs (h.notH (by decide)),h.f0,⟨_,hz4⟩,⟨fun _ => (hp3.es (by decide)).of_only o7' (hs7 1 (by decide) (by decide)),fun _ => (hp3.im (by decide)).of_only o7' (hs7 2 (by decide) (by decide)),fun _ => (hp3.play (by decide)).of_only o7' (hs7 3 (by decide) (by decide)),fun _ => (hp3.giver (by decide)).of_only o7' (hs7 4 (by decide) (by decide)),fun _ => (hp3.watch (by decide)).of_only o7' (hs7 5 (by decide) (by decide)),fun _ => ?_,fun _ => ⟨hd,rfl⟩,fun _ => ⟨?_,hl,rfl⟩,fun _ => ?_⟩,⟨h.nums.cfg,h.nums.ma0,h.nums.ma1,h.nums.mb0,h.nums.mb1,h.nums.k,h.nums.es8,h.nums.up⟩⟩⟩,he3.trans he4⟩
 ·obtain ⟨h1,h2⟩ := hp3.ring (by decide)
  have hs6 := hs7 6 (by decide) (by decide)
  rw [h2] at hs6
  exact ⟨h1.of_only o7' (hs6 _ (by simp)) (hs6 _ (by simp)),h2⟩
 ·exact hrow.of_only hl rfl o7' s87
 ·obtain ⟨h1,h3⟩ := hp3.out (by decide)
  exact ⟨h1.of_only rfl h3 o7' (hs7 9 (by decide) (by decide)),h3⟩
theorem ListensAt.live {w : World} {P left : Nat} {fp : List Nat} {x : M.Watch} (h : ListensAt w P fp left x) : Live w fp := by
 obtain ⟨D,D0,cd,X,W,fpw,x5,rfl,h⟩ := h
 intro b hb
 simp only [List.mem_cons] at hb
 rcases hb with rfl | rfl | rfl | hb
 ·exact heap_lt h.str
 ·exact h.dlg.lt
 ·exact heap_lt h.dlg.arm
 ·exact h.wat.live.1 b hb
theorem HostAt.plays {w w' : World} {H : Nat} {z : HV} {f : Nat → List Nat} {x : M.Host} (h : HostAt w H z f x) (y : M.Watch) (left st : Nat) {l : List Nat} (e : Ev w w' (f 3) l) (hl : Live w' l) (hp' : PlayIs w' z.P l { x with playW := y,playLeft := left,playState := st }) :
  HostAt w' H z (upd f 3 l) { x with playW := y,playLeft := left,playState := st } ∧ Ev w w' (allF f) (allF (upd f 3 l)) := by
 obtain ⟨hz,hp,he⟩ := h.turn 3 (by decide) (by decide) (e.only.weaken (fun b hb => List.mem_cons_of_mem _ hb)) e.grow hl
 exact ⟨⟨e.only.heap h.str (h.notH (by decide)),h.f0,hz,⟨fun _ => hp.es (by decide),fun _ => hp.im (by decide),fun _ => hp',fun _ => hp.giver (by decide),fun _ => hp.watch (by decide),fun _ => hp.ring (by decide),fun _ => hp.demux (by decide),fun _ => hp.heard (by decide),fun _ => hp.out (by decide)⟩,⟨h.nums.cfg,h.nums.ma0,h.nums.ma1,h.nums.mb0,h.nums.mb1,h.nums.k,h.nums.es8,h.nums.up⟩⟩,he⟩
theorem HostAt.gives {w w' : World} {H : Nat} {z : HV} {f : Nat → List Nat} {x : M.Host} (h : HostAt w H z f x) (g : M.Giver) (o : Only (f 4) w w') (hg : GiverIs w' z.giver (f 4) g) :
  HostAt w' H z (upd f 4 (f 4)) { x with giver := g } ∧ Ev w w' (allF f) (allF (upd f 4 (f 4))) := by
 obtain ⟨hz,hp,he⟩ := h.turn 4 (by decide) (by decide) (o.weaken (fun b hb => List.mem_cons_of_mem _ hb)) (Grow.refl _ _) ((h.live 4).ev o.size)
 exact ⟨⟨o.heap h.str (h.notH (by decide)),h.f0,hz,⟨fun _ => hp.es (by decide),fun _ => hp.im (by decide),fun _ => hp.play (by decide),fun _ => hg,fun _ => hp.watch (by decide),fun _ => hp.ring (by decide),fun _ => hp.demux (by decide),fun _ => hp.heard (by decide),fun _ => hp.out (by decide)⟩,⟨h.nums.cfg,h.nums.ma0,h.nums.ma1,h.nums.mb0,h.nums.mb1,h.nums.k,h.nums.es8,h.nums.up⟩⟩,he⟩
theorem HostAt.watches {w w' : World} {H : Nat} {z : HV} {f : Nat → List Nat} {x : M.Host} (h : HostAt w H z f x) (y : M.Watch) {l : List Nat} {W : Nat} (e : Ev w w' (f 5) l) (hv : z.watch = .pointer (some ⟨W,0,none⟩)) (hw : Watched w' W l y) :
  HostAt w' H z (upd f 5 l) { x with watch := y } ∧ Ev w w' (allF f) (allF (upd f 5 l)) := by
 obtain ⟨hz,hp,he⟩ := h.turn 5 (by decide) (by decide) (e.only.weaken (fun b hb => List.mem_cons_of_mem _ hb)) e.grow hw.live.1
 exact ⟨⟨e.only.heap h.str (h.notH (by decide)),h.f0,hz,⟨fun _ => hp.es (by decide),fun _ => hp.im (by decide),fun _ => hp.play (by decide),fun _ => hp.giver (by decide),fun _ _ _ _ _ => ⟨W,hv,hw⟩,fun _ => hp.ring (by decide),fun _ => hp.demux (by decide),fun _ => hp.heard (by decide),fun _ => hp.out (by decide)⟩,⟨h.nums.cfg,h.nums.ma0,h.nums.ma1,h.nums.mb0,h.nums.mb1,h.nums.k,h.nums.es8,h.nums.up⟩⟩,he⟩
theorem hostsend_nil (x : M.Host) : x.send [] = x := by
 unfold M.Host.send
 rw [List.append_nil]
end Go.Proofs.YtplaamfoeaaaiaaGreatDoor
