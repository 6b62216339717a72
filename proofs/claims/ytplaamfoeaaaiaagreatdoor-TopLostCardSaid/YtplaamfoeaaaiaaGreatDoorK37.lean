/- A part of the proofs of the laws of lifelinetop (TopNever, TopLost, TopRoom): contracts of functions that these laws reach. No condition of its own. -/
import Derived.Test.YtplaamfoeaaaiaaGreatDoorK02
import Derived.Test.YtplaamfoeaaaiaaGreatDoorK04
import Derived.Test.YtplaamfoeaaaiaaGreatDoorK07
import Derived.Test.YtplaamfoeaaaiaaGreatDoorK36
set_option maxRecDepth 100000
set_option maxHeartbeats 8000000
set_option linter.unusedVariables false
namespace Go.Proofs.YtplaamfoeaaaiaaGreatDoor
open Go.RowKit
theorem HostAt.rings {w w' : World} {H : Nat} {z : HV} {f : Nat → List Nat} {x : M.Host} (h : HostAt w H z f x) (ho : Only [z.R,z.S] w w') (at' : Nat) (r : M.Ring) (hr : Ringed w' z.R z.S r.cap at' r.q r.lost) :
  HostAt w' H { z with rat := at' } f { x with ring := r } ∧ Ev w w' (allF f) (allF f) := by
 obtain ⟨_,h6⟩ := h.parts.ring (by decide)
 have ho6 : Only (f 6) w w' := by rw [h6];exact ho
 obtain ⟨hz,hp,he⟩ := h.turn 6 (by decide) (by decide) (ho6.weaken (fun b hb => List.mem_cons_of_mem _ hb)) (Grow.refl _ _) ((h.live 6).ev ho.size)
 rw [upd_id] at hz he
 exact ⟨⟨ho6.heap h.str (h.notH (by decide)),h.f0,hz,⟨fun _ => hp.es (by decide),fun _ => hp.im (by decide),fun _ => hp.play (by decide),fun _ => hp.giver (by decide),fun _ => hp.watch (by decide),fun _ => ⟨hr,h6⟩,fun _ => hp.demux (by decide),fun _ => hp.heard (by decide),fun _ => hp.out (by decide)⟩,⟨h.nums.cfg,h.nums.ma0,h.nums.ma1,h.nums.mb0,h.nums.mb1,h.nums.k,h.nums.es8,h.nums.up⟩⟩,he⟩
theorem hput_is (a : Option Addr) (m c : Nat) (bs : List UInt8) (H : Nat) (fp : List Nat) (x : M.Host) (w : World) (h : HostIs w H fp x) (hb : Bytes w a bs) (hl : bs.length = m) (hc : m ≤ c) (hm : c ≤ 9223372036854775807) (ha : Away a fp) (hN : x.ring.lost + m ≤ 1000000) :
  Calls Tryz.prog 13 #[.pointer (some ⟨H,0,none⟩),.slice a m c] w (HPost w H fp (x.put bs)) := by
 obtain ⟨z,f,rfl,h⟩ := h
 obtain ⟨hr,h6⟩ := h.parts.ring (by decide)
 have c14 : w.cell? ⟨H,14,none⟩ = some (.pointer (some ⟨z.S,0,none⟩)) := cell_at h.str rfl
 have ha' : Away a [z.R,z.S] := fun ad e hh => ha ad e (mem_allF.2 ⟨6,by omega,by rw [h6];exact hh⟩)
 obtain ⟨L,hL⟩ : ∃ L,(x.ring.put bs).lost = L := ⟨_,rfl⟩
 have hLe : (L : Int) = (x.ring.lost : Int) + ((m : Int) - (min m (x.ring.cap - x.ring.q.length) : Nat)) := by
  rw [← hL]
  unfold M.Ring.put
  simp only
  rw [hl]
  omega
 have hP := put_fit z.R z.S x.ring.cap z.rat x.ring.q x.ring.lost a bs m c w hr hb (.inr ha') hl hc hm (by omega) (by omega) _ rfl (x.ring.put bs).q (by unfold M.Ring.put;simp only;rw [hl]) L hLe
 have hput : x.put bs = if 0 < L ∧ x.phase ≠ 7 then M.Host.end_ { x with ring := x.ring.put bs } 13 else { x with ring := x.ring.put bs } := by
  unfold M.Host.put
  dsimp only
  rw [hL]
 have hL9 : L ≤ 1000000 := by omega
 have HH := LH (AI h (AI hP (AI hput hL)))
 clear h hr h6 ha ha' hb hP hput hLe hL
 go_enter Tryz.func13,Tryz.ntmps13
 go_upto_region 1 with (go_at_call 29;go_loud (refine HH.out.2.1.mono ?_;rintro e w1 ⟨rfl,hr1,o1⟩))
 obtain ⟨j1,j2⟩ := HH.out.1.rings o1 _ (x.ring.put bs) (by rw [HH.out.2.2.2];exact hr1)
 have d14 : w1.cell? ⟨H,14,none⟩ = some (.pointer (some ⟨z.S,0,none⟩)) := cell_at j1.str rfl
 have d7 : w1.cell? ⟨H,7,none⟩ = some (.int .i64 x.phase) := cell_at j1.str rfl
 have HL := LH (lost_any _ _ _ _ _ _ w1 hr1)
 have H1 := LH (AI j1 j2)
 clear j1 j2 hr1 o1 c14
 by_cases hp : 0 < L
 ·by_cases h7 : x.phase = 7
  ·have hx := HH.out.2.2.1
   rw [if_neg (by omega)] at hx
   rw [h7] at d7
   have HX := LH hx
   clear hx h7
   go_wp2_with (go_at_call 30;go_loud (refine HL.out.mono ?_;rintro e w2 ⟨rfl,rfl⟩))
   go_end0
   rw [HX.out]
   exact ⟨rfl,_,⟨_,_,rfl,H1.out.1⟩,H1.out.2⟩
  ·have hx := HH.out.2.2.1
   rw [if_pos ⟨hp,h7⟩] at hx
   have h7' : ((x.phase : Int) != 7) = true := by simp;omega
   have HE := LH (hend_is 13 H (allF f) _ w1 ⟨_,_,rfl,H1.out.1⟩)
   have HX := LH hx
   clear hx h7
   go_wp2_with (first
    | (go_at_call 30;go_loud (refine HL.out.mono ?_;rintro e w2 ⟨rfl,rfl⟩))
    | (go_at_call 31;go_loud (refine HE.out.mono ?_;rintro e w3 ⟨rfl,hq⟩)))
   go_end0
   rw [HX.out]
   exact HPost.after (w1 := w1) ⟨rfl,hq⟩ H1.out.2
 ·obtain rfl : L = 0 := by omega
  have hx := HH.out.2.2.1
  rw [if_neg (by omega)] at hx
  have HX := LH hx
  clear hx hp
  go_wp2_with (go_at_call 30;go_loud (refine HL.out.mono ?_;rintro e w2 ⟨rfl,rfl⟩))
  go_end0
  rw [HX.out]
  exact ⟨rfl,_,⟨_,_,rfl,H1.out.1⟩,H1.out.2⟩
theorem hout_is (H : Nat) (fp : List Nat) (x : M.Host) (w : World) (h : HostIs w H fp x) :
  Calls Tryz.prog 48 #[.pointer (some ⟨H,0,none⟩)] w fun e w' => ∃ v fp',e = .returned v ∧ RowB w' v x.out ∧ HostIs w' H fp' { x with out := [] } ∧ Ev w w' fp fp' ∧ (∀ g,v.ownBlock = some g → g ∈ fp ∧ g ∉ fp') := by
 obtain ⟨z,f,rfl,h⟩ := h
 obtain ⟨hout,h9⟩ := h.parts.out (by decide)
 refine (hout_any H _ _ _ _ _ _ _ _ _ _ _ _ _ _ _ _ _ _ _ _ w h.str).mono ?_
 rintro e w' ⟨rfl,hs,ho⟩
 have hnH : H ∉ f 9 := h.notH (by decide)
 obtain ⟨hz,hp,he⟩ := h.turn 9 (by decide) (by decide) (ho.weaken (by simp)) (l := []) (fun b hb => by simp at hb) (fun b hb => by simp at hb)
 have hown := ownsRow_only hout ho (fun g e => by have := (World.ownsRow.lt hout g e).1;simp;omega)
 refine ⟨_,_,rfl,ownsRow_base hown (Nat.zero_le _),⟨{ z with oa := none,oc := 0 },upd f 9 [],rfl,⟨hs,h.f0,hz,⟨fun _ => hp.es (by decide),fun _ => hp.im (by decide),fun _ => hp.play (by decide),fun _ => hp.giver (by decide),fun _ => hp.watch (by decide),fun _ => hp.ring (by decide),fun _ => hp.demux (by decide),fun _ => hp.heard (by decide),fun _ => ⟨World.ownsRow_nil _ _ _ _,rfl⟩⟩,⟨h.nums.cfg,h.nums.ma0,h.nums.ma1,h.nums.mb0,h.nums.mb1,h.nums.k,h.nums.es8,h.nums.up⟩⟩⟩,he,fun g e => ?_⟩
 have hg9 : g ∈ f 9 := by rw [h9];exact mem_ownL.2 e
 refine ⟨mem_allF.2 ⟨9,by omega,hg9⟩,fun hm => ?_⟩
 obtain ⟨j,hj,hb⟩ := mem_allF.1 hm
 by_cases hj9 : j = 9
 ·subst hj9
  rw [upd_same] at hb
  simp at hb
 ·rw [upd_other f [] hj9] at hb
  exact h.sep hj9 g hb hg9
theorem hdone_is (H : Nat) (fp : List Nat) (x : M.Host) (w : World) (h : HostIs w H fp x) :
  Calls Tryz.prog 26 #[.pointer (some ⟨H,0,none⟩)] w fun e w' => e = .returned (.tuple #[.bool (x.phase == 7),errV x.err]) ∧ ∃ m,w' = w.drewN m := by
 obtain ⟨z,f,rfl,h⟩ := h
 refine (done_any H _ _ _ _ _ _ _ _ _ _ _ _ _ _ _ _ _ _ _ _ w h.str).mono ?_
 rintro e w' ⟨rfl,hm⟩
 refine ⟨?_,hm⟩
 have : (((x.phase : Nat) : Int) == 7) = (x.phase == 7) := by
  rw [Bool.eq_iff_iff];simp;omega
 rw [this]
theorem hbrought_is (H : Nat) (fp : List Nat) (x : M.Host) (w : World) (h : HostIs w H fp x) :
  Calls Tryz.prog 15 #[.pointer (some ⟨H,0,none⟩)] w fun e w' => e = .returned (.int .i64 x.k) ∧ w = w' := by
 obtain ⟨z,f,rfl,h⟩ := h
 exact brought_any H _ _ _ _ _ _ _ _ _ _ _ _ _ _ _ _ _ _ _ _ w h.str
structure WireAt (w : World) (D : Nat) (fd : List Nat) (aa : Option Addr) (ca : Nat) (a : Option Addr) (cp : Nat) (x : M.Wire) : Prop where
 wired : Wired w D 0 aa ca (.slice a x.marks cp) x
 plain : plainA x
 inD : D ∈ fd
 inA : ∀ ad,aa = some ad → x.acts ≠ [] → ad.block ∈ fd
 inM : ∀ g,(Value.slice a x.marks cp).ownBlock = some g → g ∈ fd
 live : Live w fd
def WireIs (w : World) (D : Nat) (fd : List Nat) (x : M.Wire) : Prop := ∃ aa ca a cp,WireAt w D fd aa ca a cp x
theorem WireIs.of_only {w w' : World} {D : Nat} {fd ks : List Nat} {x : M.Wire} (h : WireIs w D fd x) (ho : Only ks w w') (hs : Sep fd ks) : WireIs w' D fd x := by
 obtain ⟨aa,ca,a,cp,h⟩ := h
 obtain ⟨xs,hm⟩ := h.wired.marks
 refine ⟨aa,ca,a,cp,⟨ho.heap h.wired.str (hs D h.inD),fun k y hk => ?_,⟨xs,ownsRow_only hm ho (fun g e => hs g (h.inM g e))⟩,h.wired.bp,h.wired.sep,h.wired.nle,h.wired.mle,h.wired.ale⟩,h.plain,h.inD,h.inA,h.inM,h.live.ev ho.size⟩
 obtain ⟨g,e,g1,g2,g3,y0,y1,y2,y3⟩ := h.wired.acts k y hk
 have hg := hs g (h.inA _ e (fun e' => by rw [e'] at hk;simp at hk))
 exact ⟨g,e,g1,g2,g3,ho.cell y0 hg,ho.cell y1 hg,ho.cell y2 hg,ho.cell y3 hg⟩
theorem wpass_is (ab : Option Addr) (n cb : Nat) (bs : List UInt8) (D : Nat) (fd : List Nat) (x : M.Wire) (w : World) (h : WireIs w D fd x) (hb : Bytes w ab bs) (hn : bs.length = n) (hab : Away ab fd) (h1 : x.n + n ≤ 1000000) (h2 : x.marks + n ≤ 1000000) :
  Calls Tryz.prog 47 #[.pointer (some ⟨D,0,none⟩),.slice ab n cb] w fun e w' => ∃ v fd',e = .returned v ∧ Out w w' v (x.pass bs).1 ∧ WireIs w' D fd' (x.pass bs).2 ∧ Ev w w' fd fd' ∧ ∀ g,v.ownBlock = some g → g ∉ fd' := by
 obtain ⟨aa,ca,a,cp,h⟩ := h
 refine (pass_any D aa ca a cp x ab bs n cb w h.wired h.plain (fun ad e hne => h.live _ (h.inA ad e hne)) hb hn (fun ad e hm => ?_) (by omega) (by omega)).mono ?_
 ·have hx := hab ad e
  rcases List.mem_cons.1 hm with h' | h'
  ·exact hx (h' ▸ h.inD)
  ·exact hx (h.inM _ (mem_ownL.1 h'))
 ·rintro e w' ⟨v,a',cp',rfl,hv,hw,ho,hg,hvD⟩
  obtain ⟨f1,f2,f3,f4⟩ := pass_facts x bs h.plain
  have hsub : ∀ b,b ∈ D :: ownL (.slice a x.marks cp) → b ∈ fd := fun b hb => by
   rcases List.mem_cons.1 hb with rfl | hb
   ·exact h.inD
   ·exact h.inM b (mem_ownL.1 hb)
  obtain ⟨xs,hm⟩ := hw.marks
  refine ⟨v,ownL (.slice a' (x.pass bs).2.marks cp') ++ fd,rfl,hv,⟨aa,ca,a',cp',hw,?_,List.mem_append_right _ h.inD,fun ad e hne => List.mem_append_right _ (h.inA ad e (by rw [← f1];exact hne)),fun g e => List.mem_append_left _ (mem_ownL.2 e),fun b hb => ?_⟩,⟨ho.weaken hsub,fun b hb => ?_⟩,fun g e hmem => ?_⟩
  ·unfold plainA
   rw [f1];exact h.plain
  ·rcases List.mem_append.1 hb with hb | hb
   ·exact (hm.lt b (mem_ownL.1 hb)).2
   ·exact Nat.lt_of_lt_of_le (h.live b hb) ho.size
  ·rcases List.mem_append.1 hb with hb | hb
   ·exact ((hg b (mem_ownL.1 hb)).1).imp (fun e => h.inM b e) id
   ·exact .inl hb
  ·rcases List.mem_append.1 hmem with hmem | hmem
   ·exact (hg g (mem_ownL.1 hmem)).2 e
   ·have h3 := (hv.fresh g e).1
    have h4 := h.live g hmem
    omega
structure SysAt (w : World) (W H T D U : Nat) (f : Nat → List Nat) (N : Nat) (s : M.Sys) : Prop where
 str : w.heap[W]? = some (.cells #[.pointer (some ⟨H,0,none⟩),.pointer (some ⟨T,0,none⟩),.pointer (some ⟨D,0,none⟩),.pointer (some ⟨U,0,none⟩),.int .i64 s.ticks,.int .i64 0] 55 (0,0))
 f0 : f 0 = [W]
 zone : ∃ G,Zone w G f
 glob : Glob w
 gsep : ∀ j,Sep (f j) glb
 host : HostIs w H (f 1) s.host
 board : Boarded w T (f 2) N s.board
 down : WireIs w D (f 3) s.down
 up : WireIs w U (f 4) s.up
theorem SysAt.sep {w : World} {W H T D U : Nat} {f : Nat → List Nat} {N : Nat} {s : M.Sys} (h : SysAt w W H T D U f N s) {i j : Nat} (hij : i ≠ j) : Sep (f i) (f j) := by
 obtain ⟨G,hz⟩ := h.zone
 exact hz.sep hij
theorem SysAt.notW {w : World} {W H T D U : Nat} {f : Nat → List Nat} {N : Nat} {s : M.Sys} (h : SysAt w W H T D U f N s) {j : Nat} (hj : j ≠ 0) : W ∉ f j := fun hm => by
 have := h.sep hj W hm
 rw [h.f0] at this
 simp at this
theorem SysAt.live {w : World} {W H T D U : Nat} {f : Nat → List Nat} {N : Nat} {s : M.Sys} (h : SysAt w W H T D U f N s) (j : Nat) : Live w (f j) := by
 obtain ⟨G,hz⟩ := h.zone
 exact hz.live j
structure SRest (w : World) (W H T D U : Nat) (f : Nat → List Nat) (N : Nat) (s : M.Sys) (i : Nat) : Prop where
 str : i ≠ 0 → w.heap[W]? = some (.cells #[.pointer (some ⟨H,0,none⟩),.pointer (some ⟨T,0,none⟩),.pointer (some ⟨D,0,none⟩),.pointer (some ⟨U,0,none⟩),.int .i64 s.ticks,.int .i64 0] 55 (0,0))
 glob : Glob w
 host : i ≠ 1 → HostIs w H (f 1) s.host
 board : i ≠ 2 → Boarded w T (f 2) N s.board
 down : i ≠ 3 → WireIs w D (f 3) s.down
 up : i ≠ 4 → WireIs w U (f 4) s.up
theorem SysAt.turn {w w' : World} {W H T D U : Nat} {f : Nat → List Nat} {N : Nat} {s : M.Sys} (h : SysAt w W H T D U f N s) (i : Nat) (hi : i ≠ 0) {l : List Nat} (e : Ev w w' (f i) l) (hl : Live w' l) : (upd f i l 0 = [W]) ∧ (∃ G,Zone w' G (upd f i l)) ∧ (∀ j,Sep (upd f i l j) glb) ∧ SRest w' W H T D U f N s i := by
 obtain ⟨G,hz⟩ := h.zone
 refine ⟨by rw [upd_other f l (Ne.symm hi)];exact h.f0,⟨_,hz.turn e.size e.grow hl⟩,fun j => ?_,?_⟩
 ·by_cases hj : j = i
  ·subst hj
   rw [upd_same]
   exact (h.gsep j).ev e h.glob
  ·rw [upd_other f l hj];exact h.gsep j
 ·exact ⟨fun _ => e.only.heap h.str (h.notW hi),h.glob.of_ev (h.gsep i) e,fun hn => h.host.of_only e.only (h.sep (Ne.symm hn)),fun hn => h.board.of_only e.only (h.sep (Ne.symm hn)),fun hn => h.down.of_only e.only (h.sep (Ne.symm hn)),fun hn => h.up.of_only e.only (h.sep (Ne.symm hn))⟩
theorem SysAt.setHost {w w' : World} {W H T D U : Nat} {f : Nat → List Nat} {N : Nat} {s : M.Sys} (h : SysAt w W H T D U f N s) {l : List Nat} (x : M.Host) (e : Ev w w' (f 1) l) (hx : HostIs w' H l x) : SysAt w' W H T D U (upd f 1 l) N { s with host := x } := by
 obtain ⟨a,b,c,r⟩ := h.turn 1 (by decide) e hx.live
 exact ⟨r.str (by decide),a,b,r.glob,c,hx,r.board (by decide),r.down (by decide),r.up (by decide)⟩
theorem SysAt.setBoard {w w' : World} {W H T D U : Nat} {f : Nat → List Nat} {N N' : Nat} {s : M.Sys} (h : SysAt w W H T D U f N s) {l : List Nat} (x : M.Board) (e : Ev w w' (f 2) l) (hx : Boarded w' T l N' x) : SysAt w' W H T D U (upd f 2 l) N' { s with board := x } := by
 obtain ⟨a,b,c,r⟩ := h.turn 2 (by decide) e hx.live
 exact ⟨r.str (by decide),a,b,r.glob,c,r.host (by decide),hx,r.down (by decide),r.up (by decide)⟩
theorem WireIs.live {w : World} {D : Nat} {fd : List Nat} {x : M.Wire} (h : WireIs w D fd x) : Live w fd := by
 obtain ⟨_,_,_,_,h⟩ := h
 exact h.live
theorem SysAt.setDown {w w' : World} {W H T D U : Nat} {f : Nat → List Nat} {N : Nat} {s : M.Sys} (h : SysAt w W H T D U f N s) {l : List Nat} (x : M.Wire) (e : Ev w w' (f 3) l) (hx : WireIs w' D l x) : SysAt w' W H T D U (upd f 3 l) N { s with down := x } := by
 obtain ⟨a,b,c,r⟩ := h.turn 3 (by decide) e hx.live
 exact ⟨r.str (by decide),a,b,r.glob,c,r.host (by decide),r.board (by decide),hx,r.up (by decide)⟩
theorem SysAt.setUp {w w' : World} {W H T D U : Nat} {f : Nat → List Nat} {N : Nat} {s : M.Sys} (h : SysAt w W H T D U f N s) {l : List Nat} (x : M.Wire) (e : Ev w w' (f 4) l) (hx : WireIs w' U l x) : SysAt w' W H T D U (upd f 4 l) N { s with up := x } := by
 obtain ⟨a,b,c,r⟩ := h.turn 4 (by decide) e hx.live
 exact ⟨r.str (by decide),a,b,r.glob,c,r.host (by decide),r.board (by decide),r.down (by decide),hx⟩
theorem SysAt.of_none {w w' : World} {W H T D U : Nat} {f : Nat → List Nat} {N : Nat} {s : M.Sys} (h : SysAt w W H T D U f N s) (o : Only [] w w') : SysAt w' W H T D U f N s := by
 obtain ⟨G,hz⟩ := h.zone
 exact ⟨o.heap h.str (by simp),h.f0,⟨G,hz.of_none o.size⟩,h.glob.of_none o,h.gsep,h.host.of_only o (fun b _ => by simp),h.board.of_only o (fun b _ => by simp),h.down.of_only o (fun b _ => by simp),h.up.of_only o (fun b _ => by simp)⟩
def SayOk (s : M.Sys) (b : M.B) : Prop := s.up.n + b.length ≤ 1000000 ∧ s.up.marks + b.length ≤ 1000000 ∧ s.host.ring.lost + (s.up.pass b).1.length ≤ 1000000
def WPost (w : World) (W H T D U : Nat) (f : Nat → List Nat) (N : Nat) (s' : M.Sys) (e : Ending) (w' : World) : Prop :=
 e = .returned (.tuple #[]) ∧ ∃ f',SysAt w' W H T D U f' N s' ∧ Ev w w' (allF f) (allF f')
theorem ev_upd' {w w' : World} {f : Nat → List Nat} {i : Nat} {l : List Nat} (hi : i < 10) (e : Ev w w' (f i) l) : Ev w w' (allF f) (allF (upd f i l)) := ev_upd hi e.only e.grow
theorem away_part {a : Option Addr} {f : Nat → List Nat} (h : Away a (allF f)) {i : Nat} (hi : i < 10) : Away a (f i) := fun ad e hm => h ad e (mem_allF.2 ⟨i,hi,hm⟩)
theorem say_is (ab : Option Addr) (n cb : Nat) (b : List UInt8) (W H T D U : Nat) (f : Nat → List Nat) (N : Nat) (s : M.Sys) (w : World) (h : SysAt w W H T D U f N s) (hb : Bytes w ab b) (hn : b.length = n) (hab : Away ab (allF f)) (hk : SayOk s b) :
  Calls Tryz.prog 49 #[.pointer (some ⟨W,0,none⟩),.slice ab n cb] w (WPost w W H T D U f N (s.say b)) := by
 have c3 : w.cell? ⟨W,3,none⟩ = some (.pointer (some ⟨U,0,none⟩)) := cell_at h.str rfl
 obtain ⟨k1,k2,k3⟩ := hk
 have hP := wpass_is ab n cb b U (f 4) s.up w h.up hb hn (away_part hab (by decide)) (by omega) (by omega)
 have HH := LH (AI h hP)
 clear h hP hb hab hn k1 k2
 go_enter Tryz.func49,Tryz.ntmps49
 go_upto_region 1 with (go_at_call 47;go_loud (refine HH.out.2.mono ?_;rintro e w1 ⟨v,l4,rfl,hv,hu,e1,hvl⟩))
 obtain ⟨av,cv,rfl,bv,cv1,nv,lv,mv,ov⟩ := hv.read
 have h1 := HH.out.1.setUp (s.up.pass b).2 e1 hu
 have ev1 := ev_upd' (f := f) (i := 4) (by decide) e1
 have hva : Away av (f 1) := fun ad e hm => by
  have := lv ad e
  have := HH.out.1.live 1 _ hm
  omega
 obtain ⟨p,hp⟩ : ∃ p,p = (s.up.pass b).1 := ⟨_,rfl⟩
 rw [← hp] at k3 hv bv cv1
 rw [← hp]
 obtain ⟨m,hm⟩ : ∃ m,m = p.length := ⟨_,rfl⟩
 rw [← hm] at k3 cv1
 rw [← hm]
 have c0 : w1.cell? ⟨W,0,none⟩ = some (.pointer (some ⟨H,0,none⟩)) := cell_at h1.str rfl
 have c5 : w1.cell? ⟨W,5,none⟩ = some (.int .i64 0) := cell_at h1.str rfl
 have hcv : cv ≤ 9223372036854775807 := by unfold maxLen at mv;omega
 have hm1 : m ≤ 1000000 := by omega
 have H1 := LH (AI h1 (AI ev1 (AI hva (AI bv (AI hp (AI hm mv))))))
 clear h1 ev1 hva bv hp hm mv hv hu e1 hvl lv nv c3 ov
 by_cases h0 : m = 0
 ·subst h0
  have hx : s.say b = { s with up := (s.up.pass b).2 } := by
   unfold M.Sys.say
   dsimp only
   rw [if_pos (by rw [← H1.out.2.2.2.2.1];exact List.eq_nil_of_length_eq_zero H1.out.2.2.2.2.2.1.symm)]
  have HX := LH hx
  clear hx
  refine wp_loop_rounds 1 ?_
  show Code.wp _ _ (Exit.then (Code.rounds _ _ _ 0) _) _ _
  go_wp2_with fail
  go_end0
  rw [HX.out]
  exact ⟨rfl,_,H1.out.1,H1.out.2.1⟩
 ·have hm0 : 0 < m := by omega
  have hx : s.say b = { s with up := (s.up.pass b).2,host := s.host.put p } := by
   unfold M.Sys.say
   dsimp only
   rw [if_neg (fun e => by have := H1.out.2.2.2.2.2.1;rw [H1.out.2.2.2.2.1,e] at this;simp at this;omega),← H1.out.2.2.2.2.1]
  have hsl := fun w => run_head Tryz.prog w 22 av m cv m Tryz.elem22 1 Tryz.size5 cv1 .i64
  obtain ⟨ta,tn,tc,htn,hst⟩ : ∃ ta tn tc,tn = 0 ∧ ∀ w,(Instr.slice 22 (.slice av m cv) (some (.int .i64 (m : Int))) none none).run Tryz.prog w = .ok (.slice ta tn tc) w := ⟨_,_,_,Nat.sub_self m,fun w => run_tail Tryz.prog w 22 av m cv m Tryz.elem22 1 Tryz.size5 (Nat.le_refl _) .i64⟩
  subst htn
  have hP := hput_is av m cv p H ((upd f 4 l4) 1) s.host w1.drew (H1.out.1.host.of_only ((Only.refl [] w1).drew) (fun b _ => by simp)) H1.out.2.2.2.1.drew H1.out.2.2.2.2.2.1.symm cv1 hcv H1.out.2.2.1 k3
  have HX := LH (AI hx hP)
  clear hx hP h0
  refine wp_loop_rounds 2 ?_
  show Code.wp _ _ (Exit.then (Code.rounds _ _ _ 1) _) _ _
  go_upto_region 5 with fail
  go_still_tail 7,(by kernel_rfl)
  go_wp2_with (go_at_call 13;go_loud (refine HX.out.2.mono ?_;rintro e w2 ⟨rfl,l1,h2,e2⟩;have H2 := LH (AI h2 e2);clear h2 e2))
  show Code.wp _ _ (Exit.then (Code.rounds _ _ _ 0) _) _ _
  go_wp2_with fail
  go_end0
  have hd := H1.out.1.of_none ((Only.refl [] w1).drew)
  have ed : Ev w1 w1.drew (allF (upd f 4 l4)) (allF (upd f 4 l4)) := Ev.of_only ((Only.refl _ w1).drew) (fun b hb => hb)
  rw [HX.out.1]
  exact ⟨rfl,_,hd.setHost _ H2.out.2 H2.out.1,(H1.out.2.1.trans ed).trans (ev_upd' (f := upd f 4 l4) (i := 1) (by decide) H2.out.2)⟩
def downs (s : M.Sys) : M.B := (s.down.pass s.host.tick.out).1
def sysA (s : M.Sys) : M.Sys := { s with ticks := s.ticks + 1,host := { s.host.tick with out := [] },down := (s.down.pass s.host.tick.out).2 }
def sysB1 (s : M.Sys) : M.Sys := { sysA s with board := ((sysA s).board.put (downs s)).2 }
def sysB (s : M.Sys) : M.Sys := if downs s = [] then sysA s else (sysB1 s).say ((sysA s).board.put (downs s)).1
def sysC (s : M.Sys) : M.Sys := { sysB s with board := (sysB s).board.tick.2 }
theorem systick_eq (s : M.Sys) : s.tick = (sysC s).say (sysB s).board.tick.1 := rfl
structure STickOk (N : Nat) (s : M.Sys) : Prop where
 ticks : s.ticks ≤ 1000000
 host : HTickOk s.host
 down1 : s.down.n + s.host.tick.out.length ≤ 1000000
 down2 : s.down.marks + s.host.tick.out.length ≤ 1000000
 board : downs s ≠ [] → BoardOk s.board (downs s) ∧ SayOk (sysB1 s) ((sysA s).board.put (downs s)).1
 num : N + (downs s).length ≤ 1000000
 tick : TickOk (sysB s).board
 say : SayOk (sysC s) (sysB s).board.tick.1
theorem SysAt.setTicks {w : World} {W H T D U : Nat} {f : Nat → List Nat} {N : Nat} {s : M.Sys} (h : SysAt w W H T D U f N s) :
  SysAt (w.setCell ⟨W,4,none⟩ (.int .i64 ((s.ticks : Int) + 1))) W H T D U f N { s with ticks := s.ticks + 1 } ∧ Ev w (w.setCell ⟨W,4,none⟩ (.int .i64 ((s.ticks : Int) + 1))) (allF f) (allF f) := by
 have ho := only_set w W 4 (.int .i64 ((s.ticks : Int) + 1))
 obtain ⟨G,hz⟩ := h.zone
 have hs : ∀ j,j ≠ 0 → Sep (f j) [W] := fun j hj => by have := h.sep hj;rwa [h.f0] at this
 refine ⟨⟨hs_same h.str rfl,h.f0,⟨G,hz.of_none ho.size⟩,h.glob.of_only ho (by have := h.gsep 0;rwa [h.f0] at this),h.gsep,h.host.of_only ho (hs 1 (by decide)),h.board.of_only ho (hs 2 (by decide)),h.down.of_only ho (hs 3 (by decide)),h.up.of_only ho (hs 4 (by decide))⟩,Ev.of_only ho (fun b hb => ?_)⟩
 simp at hb
 subst hb
 exact mem_allF.2 ⟨0,by omega,by rw [h.f0];simp⟩
theorem SysAt.freshAway {w : World} {W H T D U : Nat} {f : Nat → List Nat} {N : Nat} {s : M.Sys} (h : SysAt w W H T D U f N s) {i : Nat} {l : List Nat} {a : Option Addr} (hl : ∀ ad,a = some ad → w.heap.size ≤ ad.block) (hf : ∀ ad,a = some ad → ad.block ∉ l) : Away a (allF (upd f i l)) := fun ad ea hm => by
 obtain ⟨j,hj,hb⟩ := mem_allF.1 hm
 by_cases hji : j = i
 ·subst hji
  rw [upd_same] at hb
  exact hf ad ea hb
 ·rw [upd_other _ _ hji] at hb
  have h9 := h.live j _ hb
  have h10 := hl ad ea
  omega
theorem systick_is (W H T D U : Nat) (f : Nat → List Nat) (N : Nat) (s : M.Sys) (w : World) (h : SysAt w W H T D U f N s) (hk : STickOk N s) :
  Calls Tryz.prog 27 #[.pointer (some ⟨W,0,none⟩)] w (WPost w W H T D U f (N + (downs s).length) s.tick) := by
 have c4 : w.cell? ⟨W,4,none⟩ = some (.int .i64 s.ticks) := cell_at h.str rfl
 have f4 : w.frozen? ⟨W,4,none⟩ = false := free_at h.str
 obtain ⟨tk,htk⟩ : ∃ t,s.ticks = t := ⟨_,rfl⟩
 have ht := hk.ticks
 obtain ⟨h1,ev1⟩ := h.setTicks
 rw [htk] at c4 ht h1 ev1
 have HH := LH (AI h (AI hk (AI h1 ev1)))
 have HT := LH htk
 clear h hk h1 ev1 htk
 go_enter Tryz.func27,Tryz.ntmps27
 go_upto_region 1 with fail
 obtain ⟨w1,hw1⟩ : ∃ w1,w1 = w.setCell ⟨W,4,none⟩ (.int .i64 ((tk : Int) + 1)) := ⟨_,rfl⟩
 rw [← hw1]
 obtain ⟨_,_,h1,ev1⟩ := HH.out
 rw [← hw1] at h1 ev1
 have c0 : w1.cell? ⟨W,0,none⟩ = some (.pointer (some ⟨H,0,none⟩)) := cell_at h1.str rfl
 have hT := htick_is H (f 1) s.host w1 h1.host h1.glob (h1.gsep 1) HH.out.2.1.host
 have H1 := LH (AI h1 (AI ev1 hT))
 clear h1 ev1 hT hw1 c4 f4
 go_upto_region 2 with (go_at_call 46;go_loud (refine H1.out.2.2.mono ?_;rintro e w2 ⟨rfl,l1,hi2,e2⟩))
 have h2 := H1.out.1.setHost _ e2 hi2
 have ev2 := H1.out.2.1.trans (ev_upd' (f := f) (i := 1) (by decide) e2)
 have d2 : w2.cell? ⟨W,2,none⟩ = some (.pointer (some ⟨D,0,none⟩)) := cell_at h2.str rfl
 have d0 : w2.cell? ⟨W,0,none⟩ = some (.pointer (some ⟨H,0,none⟩)) := cell_at h2.str rfl
 have h2d := h2.of_none ((Only.refl [] w2).drew)
 have evd : Ev w w2.drew (allF f) (allF (upd f 1 l1)) := ev2.trans (Ev.of_only ((Only.refl _ w2).drew) (fun b hb => hb))
 have hO := hout_is H l1 s.host.tick w2.drew h2d.host
 have H2 := LH (AI h2d (AI evd hO))
 clear h2 ev2 h2d evd hO e2 hi2 c0
 go_region_held3 (fun w' => w'.cell? ⟨W,2,none⟩ = some (.pointer (some ⟨D,0,none⟩)) ∧ w'.cell? ⟨W,0,none⟩ = some (.pointer (some ⟨H,0,none⟩))) (first | exact ⟨d2,d0⟩ | exact ⟨cell_at H4.out.1.str rfl,cell_at H4.out.1.str rfl⟩ | exact ⟨cell_at H3.out.1.str rfl,cell_at H3.out.1.str rfl⟩ | go_keep) (first
  | (go_at_call 48;go_loud (refine H2.out.2.2.mono ?_;rintro e w3 ⟨v,l3,rfl,hv,hi3,e3,hvf⟩;obtain ⟨a3,c3,rfl,b3,n3,m3,k3,o3⟩ := hv.slc;have h3 := H2.out.1.setHost _ e3 hi3;have ha3 : Away a3 (upd (upd f 1 l1) 1 l3 3) := (fun ad ea => H2.out.1.sep (i := 1) (j := 3) (by decide) _ ((hvf _ (mem_ownL.1 (o3 ad ea))).1));have H3 := LH (AI h3 (AI (H2.out.2.1.trans (ev_upd' (f := upd f 1 l1) (i := 1) (by decide) e3)) (AI b3 ha3)));clear hv hi3 e3 hvf b3 o3 h3 ha3))
  | (go_at_call 47;go_loud (refine (wpass_is a3 s.host.tick.out.length c3 s.host.tick.out D _ s.down w3 H3.out.1.down H3.out.2.2.1 rfl H3.out.2.2.2 HH.out.2.1.down1 HH.out.2.1.down2).mono ?_;rintro e w4 ⟨v4,l4,rfl,hv4,hd4,e4,hvl4⟩;have h4 := H3.out.1.setDown _ e4 hd4;have H4 := LH (AI h4 (AI (H3.out.2.1.trans (ev_upd' (i := 3) (by decide) e4)) (AI hv4 (AI H3.out.1 hvl4))));clear h4 hv4 hd4 e4 hvl4)))
 obtain ⟨hA,evA,hv4,hP3,hvl4⟩ := H4.out
 obtain ⟨a4,c4,rfl,b4,k4,n4,lo4,m4,o4⟩ := hv4.read
 have e := HT.out
 subst e
 have hA' : SysAt w4 W H T D U (upd (upd (upd f 1 l1) 1 l3) 3 l4) N (sysA s) := hA
 have ha4 : Away a4 (allF (upd (upd (upd f 1 l1) 1 l3) 3 l4)) := hP3.freshAway lo4 (fun ad ea => hvl4 _ (o4 ad ea))
 obtain ⟨p,hp⟩ : ∃ p,p = downs s := ⟨_,rfl⟩
 have b4' : Bytes w4 a4 p := by rw [hp];exact b4
 have k4' : p.length ≤ c4 := by rw [hp];exact k4
 have hpe : (s.down.pass s.host.tick.out).1 = p := hp.symm
 rw [hpe]
 obtain ⟨m,hm⟩ : ∃ m,p.length = m := ⟨_,rfl⟩
 rw [hm] at k4'
 rw [hm]
 obtain ⟨F4,hF4⟩ : ∃ F,F = upd (upd (upd f 1 l1) 1 l3) 3 l4 := ⟨_,rfl⟩
 rw [← hF4] at hA' ha4 evA
 have hNm : N + m ≤ 1000000 := by have := HH.out.2.1.num;rw [← hp,hm] at this;exact this
 have hlow : ∀ ad,a4 = some ad → p ≠ [] → ad.block < w4.heap.size := fun ad ea _ => (hv4.fresh _ (o4 ad ea)).2
 have H5 := LH (AI hA' (AI evA (AI b4' (AI n4 (AI ha4 (AI hp (AI hm hlow)))))))
 clear hA hA' evA hv4 hP3 hvl4 b4 b4' k4 n4 lo4 o4 ha4 hpe hF4 hlow hp hm d2 d0
 have hm1 : m ≤ 1000000 := by omega
 by_cases h0 : m = 0
 ·subst h0
  have hp0 : p = [] := List.eq_nil_of_length_eq_zero H5.out.2.2.2.2.2.2.1
  have hB : SysAt w4 W H T D U F4 N (sysB s) := by
   unfold sysB
   rw [if_pos (by rw [← H5.out.2.2.2.2.2.1];exact hp0)]
   exact H5.out.1
  have HB := LH (AI hB H5.out.2.1)
  have HN := LH hp0
  clear hB hp0
  have d1 : w4.cell? ⟨W,1,none⟩ = some (.pointer (some ⟨T,0,none⟩)) := cell_at HB.out.1.str rfl
  have hTk := btick_board T (F4 2) N (sysB s).board w4 HB.out.1.board HB.out.1.glob (HB.out.1.gsep 2) HH.out.2.1.tick
  have HTk := LH hTk
  clear hTk
  go_wp2_with (first
   | (go_at_call 51;go_loud (refine HTk.out.mono ?_;rintro e w8 ⟨v8,l8,rfl,hv8,hb8,e8,hf8⟩;obtain ⟨a8,c8,rfl,b8,_,n8,lo8,_,o8⟩ := hv8.read;have h8 := HB.out.1.setBoard _ e8 hb8;have ha8 : Away a8 (allF (upd (F4) 2 l8)) := HB.out.1.freshAway lo8 (fun ad ea => hf8 _ (o8 ad ea));have H8 := LH (AI h8 (AI (HB.out.2.trans (ev_upd' (i := 2) (by decide) e8)) (AI b8 ha8)));clear h8 hv8 hb8 e8 hf8 b8 lo8 o8 ha8))
   | (go_at_call 49;go_loud (refine (say_is a8 _ c8 _ W H T D U _ N (sysC s) w8 H8.out.1 H8.out.2.2.1 rfl H8.out.2.2.2 HH.out.2.1.say).mono ?_;rintro e w9 ⟨rfl,f9,h9,e9⟩)))
  go_end0
  rw [systick_eq]
  exact ⟨rfl,f9,by rw [← H5.out.2.2.2.2.2.1,HN.out];exact h9,H8.out.2.1.trans e9⟩
 ·have hm0 : 0 < m := by omega
  have hp0 : p ≠ [] := fun e => by have := H5.out.2.2.2.2.2.2.1;rw [e] at this;simp at this;omega
  have hd0 : downs s ≠ [] := by rw [← H5.out.2.2.2.2.2.1];exact hp0
  obtain ⟨hbo,hsy⟩ := HH.out.2.1.board hd0
  rw [← H5.out.2.2.2.2.2.1] at hbo
  have hP := bput_board T (F4 2) N (sysA s).board a4 m c4 p w4 H5.out.1.board H5.out.1.glob (H5.out.1.gsep 2) H5.out.2.2.1 H5.out.2.2.2.2.2.2.1 k4' H5.out.2.2.2.1 (away_part H5.out.2.2.2.2.1 (by decide)) H5.out.2.2.2.2.2.2.2 hbo hNm
  have d1 : w4.cell? ⟨W,1,none⟩ = some (.pointer (some ⟨T,0,none⟩)) := cell_at H5.out.1.str rfl
  have HP := LH (AI hP (AI hsy hd0))
  clear hP hsy hd0 hbo hp0 h0
  go_upto_region 5 with (first
   | (go_at_call 50;go_loud (refine HP.out.1.mono ?_;rintro e w5 ⟨v5,l5,rfl,hv5,hb5,e5,hf5⟩;obtain ⟨a5,c5,rfl,b5,_,n5,lo5,_,o5⟩ := hv5.read;have h5 := H5.out.1.setBoard _ e5 hb5;have ha5 : Away a5 (allF (upd (F4) 2 l5)) := H5.out.1.freshAway lo5 (fun ad ea => hf5 _ (o5 ad ea));have H6 := LH (AI h5 (AI (H5.out.2.1.trans (ev_upd' (i := 2) (by decide) e5)) (AI b5 ha5)));clear h5 hv5 hb5 e5 hf5 b5 lo5 o5 ha5))
   | (go_at_call 49;go_loud (refine (say_is a5 _ c5 _ W H T D U _ (N + m) { sysA s with board := ((sysA s).board.put p).2 } w5 H6.out.1 H6.out.2.2.1 rfl H6.out.2.2.2 (by have := HP.out.2.1;unfold sysB1 at this;rw [← H5.out.2.2.2.2.2.1] at this;exact this)).mono ?_;rintro e w6 ⟨rfl,f6,h6,e6⟩;have H7 := LH (AI h6 (H6.out.2.1.trans e6));clear h6 e6)))
  have hB : SysAt w6 W H T D U f6 (N + m) (sysB s) := by
   unfold sysB
   rw [if_neg HP.out.2.2]
   unfold sysB1
   rw [← H5.out.2.2.2.2.2.1]
   exact H7.out.1
  have HB := LH (AI hB H7.out.2)
  clear hB d1
  have d1 : w6.cell? ⟨W,1,none⟩ = some (.pointer (some ⟨T,0,none⟩)) := cell_at HB.out.1.str rfl
  have hTk := btick_board T (f6 2) (N + m) (sysB s).board w6 HB.out.1.board HB.out.1.glob (HB.out.1.gsep 2) HH.out.2.1.tick
  have HTk := LH hTk
  clear hTk
  go_wp2_with (first
   | (go_at_call 51;go_loud (refine HTk.out.mono ?_;rintro e w8 ⟨v8,l8,rfl,hv8,hb8,e8,hf8⟩;obtain ⟨a8,c8,rfl,b8,_,n8,lo8,_,o8⟩ := hv8.read;have h8 := HB.out.1.setBoard _ e8 hb8;have ha8 : Away a8 (allF (upd (f6) 2 l8)) := HB.out.1.freshAway lo8 (fun ad ea => hf8 _ (o8 ad ea));have H8 := LH (AI h8 (AI (HB.out.2.trans (ev_upd' (i := 2) (by decide) e8)) (AI b8 ha8)));clear h8 hv8 hb8 e8 hf8 b8 lo8 o8 ha8))
   | (go_at_call 49;go_loud (refine (say_is a8 _ c8 _ W H T D U _ (N + m) (sysC s) w8 H8.out.1 H8.out.2.2.1 rfl H8.out.2.2.2 HH.out.2.1.say).mono ?_;rintro e w9 ⟨rfl,f9,h9,e9⟩)))
  go_end0
  rw [systick_eq]
  exact ⟨rfl,f9,by rw [← H5.out.2.2.2.2.2.1,H5.out.2.2.2.2.2.2.1];exact h9,H8.out.2.1.trans e9⟩
def RunOk : Nat → Nat → M.Sys → Prop
 | 0,_,_ => True
 | k + 1,N,s => s.host.phase = 7 ∨ (s.host.phase ≠ 7 ∧ STickOk N s ∧ RunOk k (N + (downs s).length) s.tick)
theorem run_over (k : Nat) (s : M.Sys) (h : s.host.phase = 7) : M.Sys.run k s = s := by
 cases k with
 | zero => rfl
 | succ k => unfold M.Sys.run;rw [if_pos h]
theorem run_step (k : Nat) (s : M.Sys) (h : s.host.phase ≠ 7) : M.Sys.run (k + 1) s = M.Sys.run k s.tick := by
 conv => lhs;unfold M.Sys.run
 rw [if_neg h]
def RunLoop (w : World) (W H T D U : Nat) (f : Nat → List Nat) (n : Nat) (s : M.Sys) (k : Nat) (wr : World) : Prop :=
 ∃ f' N' s',SysAt wr W H T D U f' N' s' ∧ Ev w wr (allF f) (allF f') ∧ RunOk (n - k) N' s' ∧ M.Sys.run (n - k) s' = M.Sys.run n s
theorem sysrun_is (n : Nat) (W H T D U : Nat) (f : Nat → List Nat) (N : Nat) (s : M.Sys) (w : World) (h : SysAt w W H T D U f N s) (hn : n ≤ 100000) (hk : RunOk n N s) :
  Calls Tryz.prog 11 #[.pointer (some ⟨W,0,none⟩),.int .i64 n] w fun e w' => e = .returned (.tuple #[.bool ((s.run n).host.phase == 7),errV (s.run n).host.err]) ∧ ∃ f' N',SysAt w' W H T D U f' N' (s.run n) ∧ Ev w w' (allF f) (allF f') := by
 have hst : RunLoop w W H T D U f n s 0 w := ⟨f,N,s,h,Ev.refl _ _,hk,rfl⟩
 have HH := LH hst
 clear h hk hst
 go_enter Tryz.func11,Tryz.ntmps11
 go_wp2_with fail
 go_loopw [10] (fun s10 wr => ∃ k : Nat,k ≤ n ∧ s10 = .int .i64 k ∧ RunLoop w W H T D U f n s k wr) (fun s10 _ => n - (intOf s10).toNat)
 case atStart => exact ⟨0,Nat.zero_le _,rfl,HH.out⟩
 case round =>
  obtain ⟨k,hk,rfl,f',N',s',h,ev,hR,hr⟩ := hrel
  have c0 : wr.cell? ⟨W,0,none⟩ = some (.pointer (some ⟨H,0,none⟩)) := cell_at h.str rfl
  have hD := hdone_is H (f' 1) s'.host wr h.host
  by_cases hlt : k < n
  ·obtain ⟨j,hj⟩ : ∃ j,n - k = j + 1 := ⟨n - k - 1,by omega⟩
   rw [hj] at hR hr
   by_cases hp : s'.host.phase = 7
   ·have hb : (s'.host.phase == 7) = true := by simp [hp]
    rw [run_over _ _ hp] at hr
    rw [hb] at hD
    have HX := LH (AI hD (AI h (AI ev (AI hr hb))))
    clear h ev hR hr hD hp hb hj
    go_wp2_with (go_at_call 26;go_loud (refine HX.out.1.mono ?_;rintro e w1 ⟨rfl,mm,rfl⟩))
    go_ret2
    rw [← HX.out.2.2.2.1,HX.out.2.2.2.2]
    exact ⟨rfl,f',N',HX.out.2.1.of_none (only_drewN [] wr mm),HX.out.2.2.1.drewN mm⟩
   ·have hb : (s'.host.phase == 7) = false := by simp [hp]
    rw [run_step _ _ hp] at hr
    rw [hb] at hD
    obtain ⟨hS,hR'⟩ : STickOk N' s' ∧ RunOk j (N' + (downs s').length) s'.tick := by
     rcases hR with h1 | ⟨_,h1,h2⟩
     ·exact absurd h1 hp
     ·exact ⟨h1,h2⟩
    have hj2 : n - (k + 1) = j := by omega
    have HX := LH (AI hD (AI h (AI ev (AI hr (AI hS (AI hR' hj2))))))
    clear h ev hR hr hD hp hb hj hS hR' hj2
    go_wp2_with (first
     | (go_at_call 26;go_loud (refine HX.out.1.mono ?_;rintro e w1 ⟨rfl,mm,rfl⟩))
     | (go_at_call 27;go_loud (refine (systick_is W H T D U f' N' s' _ (HX.out.2.1.of_none (only_drewN [] wr mm)) HX.out.2.2.2.2.1).mono ?_;rintro e w2 ⟨rfl,f2,h2,e2⟩;have H2 := LH (AI h2 e2);clear h2 e2)))
    go_roundw
    case rel => exact ⟨k + 1,by omega,by go_num,f2,_,_,H2.out.1,(HX.out.2.2.1.drewN mm).trans H2.out.2,by rw [HX.out.2.2.2.2.2.2];exact HX.out.2.2.2.2.2.1,by rw [HX.out.2.2.2.2.2.2];exact HX.out.2.2.2.1⟩
    case measure => simp [intOf];omega
  ·obtain rfl : k = n := by omega
   have kl : ¬ ((k : Int) < (k : Int)) := by omega
   have hr' : s' = M.Sys.run k s := by
    rw [Nat.sub_self] at hr
    exact hr
   have HX := LH (AI hD (AI h (AI ev hr')))
   clear h ev hR hr hD hr'
   go_wp2_with (go_at_call 26;go_loud (refine HX.out.1.mono ?_;rintro e w1 ⟨rfl,mm,rfl⟩))
   go_ret2
   rw [← HX.out.2.2.2]
   exact ⟨rfl,f',N',HX.out.2.1.of_none (only_drewN [] wr mm),HX.out.2.2.1.drewN mm⟩
theorem holds_is (nm : List UInt8) (addr : Nat) (size pr way : Int) (a : Option Addr) (m c : Nat) (im : List UInt8) (W H T D U : Nat) (f : Nat → List Nat) (N : Nat) (s : M.Sys) (w : World) (h : SysAt w W H T D U f N s) (hb : Bytes w a im) (hm : im.length = m) (h1 : addr < 16384) (h2 : m ≤ 16384 - addr) :
  Calls Tryz.prog 12 #[.pointer (some ⟨W,0,none⟩),.agg #[strB nm,.int .i64 addr,.int .i64 size,.int .u32 pr,.int .i64 way],.slice a m c] w fun e w' => e = .returned (.bool (rd s.board.store addr m == im)) ∧ Only [] w w' := by
 obtain ⟨S,vl,tv,tf,vr,n,G,hn,hf2,hB⟩ := h.board
 have c1 : w.cell? ⟨W,1,none⟩ = some (.pointer (some ⟨T,0,none⟩)) := cell_at h.str rfl
 have t0 : w.cell? ⟨T,0,none⟩ = some (.pointer (some ⟨S,0,none⟩)) := cell_at hB.str rfl
 have hW : W < w.heap.size := heap_lt h.str
 have hT : T < w.heap.size := heap_lt hB.str
 have HH := LH (AI h (AI hB (AI hb hm)))
 clear h hB hb hm hf2 hn
 go_enter Tryz.func12,Tryz.ntmps12
 go_upto_region 1 with fail
 obtain ⟨A,hA⟩ : ∃ A,A = w.heap.size := ⟨_,rfl⟩
 obtain ⟨w1,hw1⟩ : ∃ w1,w1 = w.alloc (.cells #[strB nm,.int .i64 addr,.int .i64 size,.int .u32 pr,.int .i64 way] 39) := ⟨_,rfl⟩
 have hA1 : w1.heap[A]? = some (.cells #[strB nm,.int .i64 addr,.int .i64 size,.int .u32 pr,.int .i64 way] 39 (0,0)) := by rw [hw1,hA];exact heap_alloc_new w _
 have o1 : Only [] w w1 := by rw [hw1];exact (Only.refl [] w).alloc _
 rw [← hA,← hw1]
 have d1 := o1.cell c1 (by simp)
 have e0 := o1.cell t0 (by simp)
 have a1 : w1.cell? ⟨A,1,none⟩ = some (.int .i64 addr) := cell_at hA1 rfl
 have o1d : Only [] w w1.drew := o1.drew
 have hR := read_any S s.board.store addr m w1.drew (HH.out.2.1.sto.of_only o1d (by simp)) h1 h2
 have H1 := LH (AI hR o1d)
 clear hA1 o1 hw1 hA hR o1d c1 t0
 go_region_held3 (fun w' => w'.cell? ⟨W,1,none⟩ = some (.pointer (some ⟨T,0,none⟩)) ∧ w'.cell? ⟨T,0,none⟩ = some (.pointer (some ⟨S,0,none⟩)) ∧ w'.cell? ⟨A,1,none⟩ = some (.int .i64 addr)) (first | exact ⟨d1,e0,a1⟩ | exact ⟨o2.cell d1 (by simp),o2.cell e0 (by simp),o2.cell a1 (by simp)⟩ | go_keep) ((go_at_call 28;go_loud (refine H1.out.1.mono ?_;rintro e w2 ⟨v,rfl,hv,o2⟩)))
 go_upto_region 2 with fail
 obtain ⟨a3,c3,rfl,b3,_,_,_,_,_⟩ := hv.read
 rw [rd_length] at *
 have o02 : Only [] w w2 := H1.out.2.trans o2
 have s1 := run_str w2 a3 m c3 (rd s.board.store addr m) b3 (rd_length _ _ _)
 have s2 := run_str w2 a m c im (HH.out.2.2.1.of_only o02 (.inr (fun ad e => by simp))) HH.out.2.2.2
 obtain ⟨r,hr⟩ : ∃ r,r = rd s.board.store addr m := ⟨_,rfl⟩
 rw [← hr] at s1
 have H2 := LH (AI hr o02)
 clear hr o02 b3 hv o2 d1 e0 a1
 by_cases he : r = im
 ·subst he
  go_wp2_with fail
  go_ret
  rw [← H2.out.1]
  exact ⟨by simp,H2.out.2⟩
 ·have HT := LH (by simpa using he : (r == im) = false)
  have hF : (⟨r.toArray⟩ : ByteArray) ≠ ⟨im.toArray⟩ := by
   intro e
   apply he
   have := congrArg (fun b : ByteArray => b.data.toList) e
   simpa using this
  have hG : decide ((⟨r.toArray⟩ : ByteArray) = ⟨im.toArray⟩) = false := by simpa using hF
  clear he
  go_wp2_with fail
  go_ret
  rw [← H2.out.1,HT.out]
  exact ⟨rfl,H2.out.2⟩
end Go.Proofs.YtplaamfoeaaaiaaGreatDoor
