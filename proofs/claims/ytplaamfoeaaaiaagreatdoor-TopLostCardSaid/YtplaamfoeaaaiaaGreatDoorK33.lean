/- A part of the proofs of the laws of lifelinetop (TopNever, TopLost, TopRoom): contracts of functions that these laws reach. No condition of its own. -/
import Derived.Test.YtplaamfoeaaaiaaGreatDoorK02
import Derived.Test.YtplaamfoeaaaiaaGreatDoorK22
import Derived.Test.YtplaamfoeaaaiaaGreatDoorK32
set_option maxRecDepth 100000
set_option maxHeartbeats 8000000
set_option linter.unusedVariables false
namespace Go.Proofs.YtplaamfoeaaaiaaGreatDoor
open Go.RowKit
theorem HostAt.sendRow {w w2 : World} {H : Nat} {z : HV} {f : Nat → List Nat} {x : M.Host} (h : HostAt w H z f x) {bs : List UInt8} {a' : Option Addr} {c' N m : Nat} (hN : x.out.length = N) (hm : bs.length = m) (own2 : w2.ownsRow (H + 1) 5 1 (.slice a' (N + m) c') (N + m) ((x.out ++ bs).map byteV)) (grow2 : w.grownBy w2 (Value.slice z.oa N z.oc).ownBlock) (at2 : ∀ g',(Value.slice a' (N + m) c').ownBlock = some g' → (Value.slice z.oa N z.oc).ownBlock = some g' ∨ w.heap.size ≤ g') :
  ∃ fp',HostIs (w2.setCell ⟨H,17,none⟩ (.slice a' (N + m) c')) H fp' (x.send bs) ∧ Ev w (w2.setCell ⟨H,17,none⟩ (.slice a' (N + m) c')) (allF f) fp' := by
 subst hN
 subst hm
 have e : x.out.length + bs.length = (x.send bs).out.length := by simp [M.Host.send]
 obtain ⟨hout,h9⟩ := h.parts.out (by decide)
 have hnH : H ∉ ownL (.slice z.oa x.out.length z.oc) := by rw [← h9];exact h.notH (by decide)
 have h2 := (only_grown grow2).heap h.str hnH
 have ho : Only (H :: f 9) w (w2.setCell ⟨H,17,none⟩ (.slice a' (x.out.length + bs.length) c')) := ((only_grown grow2).weaken (fun b hb => List.mem_cons_of_mem _ (by rw [h9];exact hb))).trans ((only_set w2 H 17 _).weaken (by simp))
 have hl : Live (w2.setCell ⟨H,17,none⟩ (.slice a' (x.out.length + bs.length) c')) (ownL (.slice a' (x.out.length + bs.length) c')) := fun b hb => by
  have := (own2.lt b (mem_ownL.1 hb)).2
  simpa [World.setCell] using this
 have hg : Grow (f 9) (ownL (.slice a' (x.out.length + bs.length) c')) w := fun b hb => by
  rw [h9]
  exact (at2 b (mem_ownL.1 hb)).imp mem_ownL.2 id
 obtain ⟨hz,hp,he⟩ := h.turn 9 (by decide) (by decide) ho hg hl
 refine ⟨_,⟨{ z with oa := a',oc := c' },upd f 9 (ownL (.slice a' (x.out.length + bs.length) c')),rfl,⟨hs_same h2 (by rw [e];rfl),h.f0,hz,⟨fun _ => hp.es (by decide),fun _ => hp.im (by decide),fun _ => hp.play (by decide),fun _ => hp.giver (by decide),fun _ => hp.watch (by decide),fun _ => hp.ring (by decide),fun _ => hp.demux (by decide),fun _ => hp.heard (by decide),fun _ => ⟨?_,?_⟩⟩,⟨h.nums.cfg,h.nums.ma0,h.nums.ma1,h.nums.mb0,h.nums.mb1,h.nums.k,h.nums.es8,h.nums.up⟩⟩⟩,he⟩
 ·have o2 := ownsRow_only own2 (only_set w2 H 17 (.slice a' (x.out.length + bs.length) c')) (fun g e => by have := (own2.lt g e).1;simp;omega)
  rw [e] at o2
  rw [e]
  exact o2
 ·rw [upd_same,← e]
theorem hsend_is (a : Option Addr) (m c : Nat) (bs : List UInt8) (H : Nat) (fp : List Nat) (x : M.Host) (w : World) (h : HostIs w H fp x) (hb : Bytes w a bs) (hl : bs.length = m) (hn : a = none → c = 0) (hN : x.out.length + m ≤ 1000000) :
  Calls Tryz.prog 44 #[.pointer (some ⟨H,0,none⟩),.slice a m c] w (HPost w H fp (x.send bs)) := by
 obtain ⟨z,f,rfl,h⟩ := h
 obtain ⟨N,hNN⟩ : ∃ N,x.out.length = N := ⟨_,rfl⟩
 have c17 : w.cell? ⟨H,17,none⟩ = some (.slice z.oa x.out.length z.oc) := cell_at h.str rfl
 obtain ⟨hout,_⟩ := h.parts.out (by decide)
 have hnH : ∀ g,(Value.slice z.oa N z.oc).ownBlock = some g → g ≠ H := fun g e => by
  rw [← hNN] at e
  have := (World.ownsRow.lt hout g e).1;omega
 unfold RowAt at hout
 rw [hNN] at hN c17 hout
 have hbase : H + 1 ≤ w.heap.size := h.hlt
 have HH := LH (AI h (AI hout (AI hb (AI hl (AI hn (AI hNN hnH))))))
 clear h hout hb hl hn hNN hnH
 go_enter Tryz.func44,Tryz.ntmps44
 go_wp2_with (at_builtin;go_loud (refine wpList_appAt w rfl (.tmp 8) (.tmp 9) rfl (H + 1) (.slice z.oa N z.oc) N x.out rfl HH.out.2.1 a m c bs rfl HH.out.2.2.1 HH.out.2.2.2.1 HH.out.2.2.2.2.1 (x.out ++ bs) rfl (N + m) rfl (by omega) hbase ?_;intro a' c' w2 own2 grow2 at2;have h2 := (only_grown grow2).heap HH.out.1.str (fun hm => HH.out.2.2.2.2.2.2 H (mem_ownL.1 hm) rfl);have c2 : w2.cell? ⟨H,17,none⟩ = some (.slice z.oa N z.oc) := HH.out.2.2.2.2.2.1 ▸ (cell_at h2 rfl : w2.cell? ⟨H,17,none⟩ = some (.slice z.oa x.out.length z.oc));have f2 : w2.frozen? ⟨H,17,none⟩ = false := free_at h2;have H2 := LH (AI own2 (AI grow2 at2));clear h2 own2 grow2 at2))
 go_end0
 exact ⟨rfl,HH.out.1.sendRow HH.out.2.2.2.2.2.1 HH.out.2.2.2.1 H2.out.1 H2.out.2.1 H2.out.2.2⟩
theorem hend_raw (ev : Value) (hev : ev = .nilIface ∨ ∃ n : Int,ev = .iface 57 (.int .i64 n)) (Dm base : Nat) (dv : Value) (mode dn : Nat) (ss : List Seg) (H : Nat) (tries wait htries room : Int) (wake es images : Value) (phase k up : Int) (play giver watch : Value) (left : Int) (ring heard out meter err : Value) (w : World) (h : w.heap[H]? = some (.cells (hostA tries wait htries room wake es images phase k up play giver watch left ring (.pointer (some ⟨Dm,0,none⟩)) heard out meter err) 96 (0,0))) (hd : Demuxed w Dm base dv mode dn ss) (hne : Dm ≠ H) (hv : ∀ g,dv.ownBlock = some g → g ≠ H) :
  Calls Tryz.prog 31 #[.pointer (some ⟨H,0,none⟩),ev] w fun e w' => e = .returned (.tuple #[]) ∧ w'.heap[H]? = some (.cells (hostA tries wait htries room wake es images 7 k up play giver watch left ring (.pointer (some ⟨Dm,0,none⟩)) heard out meter ev) 96 (0,0)) ∧ Demuxed w' Dm base dv 0 dn ss ∧ Only [H,Dm] w w' := by
 rcases hev with rfl | ⟨n,rfl⟩
 ·have c7 : w.cell? ⟨H,7,none⟩ = some (.int .i64 phase) := cell_at h rfl
  have f7 : w.frozen? ⟨H,7,none⟩ = false := free_at h
  have c19 : w.cell? ⟨H,19,none⟩ = some err := cell_at h rfl
  have f19 : w.frozen? ⟨H,19,none⟩ = false := free_at h
  have c15 : w.cell? ⟨H,15,none⟩ = some (.pointer (some ⟨Dm,0,none⟩)) := cell_at h rfl
  have HH := LH (AI h (AI hd (AI hne hv)))
  clear h hd hne hv
  go_enter Tryz.func31,Tryz.ntmps31
  go_upto_region 1 with fail
  generalize hw1 : World.setCell (World.setCell w _ _) _ _ = w1
  have H1 := LH (show w1.heap[H]? = some (.cells (hostA tries wait htries room wake es images 7 k up play giver watch left ring (.pointer (some ⟨Dm,0,none⟩)) heard out meter .nilIface) 96 (0,0)) ∧ Only [H] w w1 by
   subst hw1
   exact ⟨hs_same (hs_same HH.out.1 rfl) rfl,(only_set w H 7 _).trans (only_set _ H 19 _)⟩)
  clear hw1 c7 f7 c19 f19 c15
  have c15 : w1.cell? ⟨H,15,none⟩ = some (.pointer (some ⟨Dm,0,none⟩)) := cell_at H1.out.1 rfl
  have hd1 := HH.out.2.1.of_only H1.out.2 (by simpa using HH.out.2.2.1) (fun g e => by simpa using HH.out.2.2.2 g e)
  have HD := LH hd1
  clear hd1
  go_wp2_with (go_at_call 53;refine (switch_any Dm base dv mode dn ss 0 w1 HD.out).mono ?_;rintro e w2 ⟨rfl,hd2,o2⟩;have H2 := LH (AI hd2 o2);clear hd2 o2)
  go_end0
  exact ⟨rfl,H2.out.2.heap H1.out.1 (by simpa using Ne.symm HH.out.2.2.1),H2.out.1,(H1.out.2.weaken (by simp)).trans (H2.out.2.weaken (by simp))⟩
 ·have c7 : w.cell? ⟨H,7,none⟩ = some (.int .i64 phase) := cell_at h rfl
  have f7 : w.frozen? ⟨H,7,none⟩ = false := free_at h
  have c19 : w.cell? ⟨H,19,none⟩ = some err := cell_at h rfl
  have f19 : w.frozen? ⟨H,19,none⟩ = false := free_at h
  have c15 : w.cell? ⟨H,15,none⟩ = some (.pointer (some ⟨Dm,0,none⟩)) := cell_at h rfl
  have HH := LH (AI h (AI hd (AI hne hv)))
  clear h hd hne hv
  go_enter Tryz.func31,Tryz.ntmps31
  go_upto_region 1 with fail
  generalize hw1 : World.setCell (World.setCell w _ _) _ _ = w1
  have H1 := LH (show w1.heap[H]? = some (.cells (hostA tries wait htries room wake es images 7 k up play giver watch left ring (.pointer (some ⟨Dm,0,none⟩)) heard out meter (.iface 57 (.int .i64 n))) 96 (0,0)) ∧ Only [H] w w1 by
   subst hw1
   exact ⟨hs_same (hs_same HH.out.1 rfl) rfl,(only_set w H 7 _).trans (only_set _ H 19 _)⟩)
  clear hw1 c7 f7 c19 f19 c15
  have c15 : w1.cell? ⟨H,15,none⟩ = some (.pointer (some ⟨Dm,0,none⟩)) := cell_at H1.out.1 rfl
  have hd1 := HH.out.2.1.of_only H1.out.2 (by simpa using HH.out.2.2.1) (fun g e => by simpa using HH.out.2.2.2 g e)
  have HD := LH hd1
  clear hd1
  go_wp2_with (go_at_call 53;refine (switch_any Dm base dv mode dn ss 0 w1 HD.out).mono ?_;rintro e w2 ⟨rfl,hd2,o2⟩;have H2 := LH (AI hd2 o2);clear hd2 o2)
  go_end0
  exact ⟨rfl,H2.out.2.heap H1.out.1 (by simpa using Ne.symm HH.out.2.2.1),H2.out.1,(H1.out.2.weaken (by simp)).trans (H2.out.2.weaken (by simp))⟩
theorem HostAt.switched {w w' : World} {H : Nat} {z : HV} {f : Nat → List Nat} {x : M.Host} (h : HostAt w H z f x) (m : Nat) {ks : List Nat} (ho : Only ks w w') (hks : ∀ b,b ∈ ks → b = H ∨ b = z.Dm) (hd : Demuxed w' z.Dm z.db z.dv m x.heard z.ss) : (∃ G,Zone w' G (upd f 7 (f 7))) ∧ HParts w' H { z with mode := m } (upd f 7 (f 7)) x 0 ∧ Ev w w' (allF f) (allF (upd f 7 (f 7))) := by
 obtain ⟨hd0,h7⟩ := h.parts.demux (by decide)
 have hoo : Only (H :: f 7) w w' := ho.weaken (fun b hb => by
  rcases hks b hb with rfl | rfl
  ·simp
  ·rw [h7];simp)
 obtain ⟨hz,hp,he⟩ := h.turn 7 (by decide) (by decide) hoo (Grow.refl _ _) ((h.live 7).ev ho.size)
 exact ⟨hz,⟨fun _ => hp.es (by decide),fun _ => hp.im (by decide),fun _ => hp.play (by decide),fun _ => hp.giver (by decide),fun _ => hp.watch (by decide),fun _ => hp.ring (by decide),fun _ => ⟨hd,h7⟩,fun _ => hp.heard (by decide),fun _ => hp.out (by decide)⟩,he⟩
theorem HostAt.dmH {w : World} {H : Nat} {z : HV} {f : Nat → List Nat} {x : M.Host} (h : HostAt w H z f x) : z.Dm ≠ H ∧ ∀ g,z.dv.ownBlock = some g → g ≠ H := by
 obtain ⟨_,h7⟩ := h.parts.demux (by decide)
 have hn := h.notH (j := 7) (by decide)
 rw [h7] at hn
 exact ⟨fun e => hn (by simp [e]),fun g e hg => hn (by rw [← hg];exact List.mem_cons_of_mem _ (mem_ownL.2 e))⟩
theorem hend_is (n : Nat) (H : Nat) (fp : List Nat) (x : M.Host) (w : World) (h : HostIs w H fp x) :
  Calls Tryz.prog 31 #[.pointer (some ⟨H,0,none⟩),errV n] w (HPost w H fp (x.end_ n)) := by
 obtain ⟨z,f,rfl,h⟩ := h
 obtain ⟨hd,_⟩ := h.parts.demux (by decide)
 obtain ⟨d1,d2⟩ := h.dmH
 refine (hend_raw (errV n) (by unfold errV;split;exact .inl rfl;exact .inr ⟨_,rfl⟩) z.Dm z.db z.dv z.mode x.heard z.ss H _ _ _ _ _ _ _ _ _ _ _ _ _ _ _ _ _ _ _ w h.str hd d1 d2).mono ?_
 rintro e w' ⟨rfl,hs,hd',ho⟩
 obtain ⟨hz,hp,he⟩ := h.switched 0 ho (fun b hb => by simpa using hb) hd'
 refine ⟨rfl,_,⟨{ z with mode := 0 },upd f 7 (f 7),rfl,⟨hs,h.f0,hz,⟨hp.es,hp.im,hp.play,hp.giver,fun _ _ _ _ h7 => absurd rfl h7,hp.ring,hp.demux,hp.heard,hp.out⟩,⟨h.nums.cfg,h.nums.ma0,h.nums.ma1,h.nums.mb0,h.nums.mb1,h.nums.k,h.nums.es8,h.nums.up⟩⟩⟩,he⟩
theorem HostAt.waits {w w4 : World} {H : Nat} {z : HV} {f : Nat → List Nat} {x : M.Host} (h : HostAt w H z f x) (ho : Only [H] w w4) {W p : Nat} {fpw : List Nat} {ls : List M.B} (hw : Watched w4 W fpw (M.watchOf ls)) (hf : ∀ b,b ∈ fpw → w.heap.size ≤ b) (hs : w4.heap[H]? = some (.cells (hostZ { z with watch := .pointer (some ⟨W,0,none⟩) } (x.wait_ p ls)) 96 (0,0))) :
  HostAt w4 H { z with watch := .pointer (some ⟨W,0,none⟩) } (upd f 5 fpw) (x.wait_ p ls) ∧ Ev w w4 (allF f) (allF (upd f 5 fpw)) := by
 obtain ⟨hz,hp,he⟩ := h.turn 5 (by decide) (by decide) (ho.weaken (by simp)) (fun b hb => .inr (hf b hb)) hw.live.1
 exact ⟨⟨hs,h.f0,hz,⟨fun _ => hp.es (by decide),fun _ => hp.im (by decide),fun _ => hp.play (by decide),fun _ => hp.giver (by decide),fun _ _ _ _ _ => ⟨W,rfl,hw⟩,fun _ => hp.ring (by decide),fun _ => hp.demux (by decide),fun _ => hp.heard (by decide),fun _ => hp.out (by decide)⟩,⟨h.nums.cfg,h.nums.ma0,h.nums.ma1,h.nums.mb0,h.nums.mb1,h.nums.k,h.nums.es8,h.nums.up⟩⟩,he⟩
theorem hwait_is (gp cp p n : Nat) (ls : List ByteArray) (H : Nat) (fp : List Nat) (x : M.Host) (w : World) (h : HostIs w H fp x) (hn : ls.length = n) (h0 : 0 < n) (h8 : n ≤ 8) (hc : ∀ (k : Nat) (s : ByteArray),ls[k]? = some s → w.cell? ⟨gp,k,none⟩ = some (.string s)) (hs : ∀ s,s ∈ ls → Plain s ∧ 0 < s.size ∧ s.size ≤ 64) (hgp : gp ≠ H) :
  Calls Tryz.prog 99 #[.pointer (some ⟨H,0,none⟩),.int .i64 p,.slice (some ⟨gp,0,none⟩) n cp] w (HPost w H fp (x.wait_ p (ls.map fun s => s.data.toList))) := by
 obtain ⟨z,f,rfl,h⟩ := h
 obtain ⟨_,_,k3,k4⟩ := h.nums.cfg
 obtain ⟨wt,hwt⟩ : ∃ wt,x.cfg.wait = wt := ⟨_,rfl⟩
 have hcw : x.cfg.wait = wt := hwt
 have c7 : w.cell? ⟨H,7,none⟩ = some (.int .i64 x.phase) := cell_at h.str rfl
 have f7 : w.frozen? ⟨H,7,none⟩ = false := free_at h.str
 have HH := LH (AI h (AI hn (AI hc (AI hs (AI hgp hwt)))))
 rw [hcw] at k3 k4
 clear h hn hc hs hwt hcw
 go_enter Tryz.func99,Tryz.ntmps99
 go_upto_region 1 with fail
 obtain ⟨w1,hw1⟩ : ∃ w1,w1 = w.setCell ⟨H,7,none⟩ (.int .i64 p) := ⟨_,rfl⟩
 rw [← hw1]
 have h1 := hs_same (i := 7) (v := .int .i64 p) HH.out.1.str rfl
 rw [← hw1] at h1
 have o1 : Only [H] w w1 := by rw [hw1];exact only_set w H 7 _
 have H1 := LH (AI h1 o1)
 clear hw1 c7 f7 h1 o1
 have hE := eof_any gp cp ls w1 (by rw [HH.out.2.1];exact h0) (by rw [HH.out.2.1];exact h8) (fun k s e => H1.out.2.cell (HH.out.2.2.1 k s e) (by simpa using HH.out.2.2.2.2.1)) HH.out.2.2.2.1
 rw [HH.out.2.1] at hE
 have HE := LH hE
 clear hE
 go_upto_region 2 with (go_at_call 87;refine HE.out.mono ?_;rintro e w2 ⟨W,fpw,rfl,hw2,hf2,o2⟩;have h2 := o2.heap H1.out.1 (by simp);have c12 : w2.cell? ⟨H,12,none⟩ = some z.watch := cell_at h2 rfl;have f12 : w2.frozen? ⟨H,12,none⟩ = false := free_at h2;have H2 := LH (AI h2 (AI hw2 (AI hf2 o2)));clear h2 hw2 hf2 o2)
 obtain ⟨w3,hw3⟩ : ∃ w3,w3 = w2.setCell ⟨H,12,none⟩ (.pointer (some ⟨W,0,none⟩)) := ⟨_,rfl⟩
 rw [← hw3]
 have h3 := hs_same (i := 12) (v := .pointer (some ⟨W,0,none⟩)) H2.out.1 rfl
 rw [← hw3] at h3
 have o3 : Only [H] w2 w3 := by rw [hw3];exact only_set w2 H 12 _
 have c1 : w3.cell? ⟨H,1,none⟩ = some (.int .i64 wt) := by rw [← HH.out.2.2.2.2.2];exact cell_at h3 rfl
 have c13 : w3.cell? ⟨H,13,none⟩ = some (.int .i64 x.left) := cell_at h3 rfl
 have f13 : w3.frozen? ⟨H,13,none⟩ = false := free_at h3
 have H3 := LH (AI h3 o3)
 clear hw3 h3 o3 c12 f12
 go_upto_region 3 with fail
 obtain ⟨w4,hw4⟩ : ∃ w4,w4 = w3.setCell ⟨H,13,none⟩ (.int .i64 (4 * max 1 (min (wt : Int) 99))) := ⟨_,rfl⟩
 rw [← hw4]
 have h4 := hs_same (i := 13) (v := .int .i64 (4 * max 1 (min (wt : Int) 99))) H3.out.1 rfl
 rw [← hw4] at h4
 have o4 : Only [H] w3 w4 := by rw [hw4];exact only_set w3 H 13 _
 have o14 : Only [H] w w4 := ((H1.out.2.trans (H2.out.2.2.2.weaken (by simp))).trans H3.out.2).trans o4
 have hleft : 4 * max 1 (min (wt : Int) 99) = (((x.wait_ p (ls.map fun s => s.data.toList)).left : Nat) : Int) := by
  show 4 * max 1 (min (wt : Int) 99) = ((4 * max 1 (min x.cfg.wait 99) : Nat) : Int)
  rw [HH.out.2.2.2.2.2];omega
 rw [hleft] at h4
 have hW4 : Watched w4 W fpw (M.watchOf (ls.map fun s => s.data.toList)) := (H2.out.2.1.of_only H3.out.2 (fun b hb => by have := H2.out.2.2.1 b hb;have := H1.out.2.size;have := HH.out.1.hlt;simp;omega)).of_only o4 (fun b hb => by have := H2.out.2.2.1 b hb;have := H1.out.2.size;have := HH.out.1.hlt;simp;omega)
 obtain ⟨j1,j2⟩ := HH.out.1.waits (p := p) o14 hW4 (fun b hb => Nat.le_trans H1.out.2.size (H2.out.2.2.1 b hb)) h4
 obtain ⟨hd4,_⟩ := j1.parts.demux (by decide)
 have c15 : w4.cell? ⟨H,15,none⟩ = some (.pointer (some ⟨z.Dm,0,none⟩)) := cell_at h4 rfl
 have HJ := LH (AI j1 (AI j2 hd4))
 clear hw4 h4 o4 o14 hleft hW4 j1 j2 hd4 c1 c13 f13
 go_wp2_with (go_at_call 53;refine (switch_any _ _ _ _ _ _ 1 w4 HJ.out.2.2).mono ?_;rintro e w5 ⟨rfl,hd5,o5⟩;have H5 := LH (AI hd5 o5);clear hd5 o5)
 go_end0
 obtain ⟨hz,hp,he⟩ := HJ.out.1.switched 1 H5.out.2 (fun b hb => by simp at hb;exact .inr hb) H5.out.1
 have hnH := HJ.out.1.dmH.1
 exact ⟨rfl,_,⟨{ z with watch := .pointer (some ⟨W,0,none⟩),mode := 1 },upd (upd f 5 fpw) 7 (upd f 5 fpw 7),rfl,⟨H5.out.2.heap HJ.out.1.str (by simpa using Ne.symm hnH),HJ.out.1.f0,hz,hp,HJ.out.1.nums.cfg,HJ.out.1.nums.ma0,HJ.out.1.nums.ma1,HJ.out.1.nums.mb0,HJ.out.1.nums.mb1,HJ.out.1.nums.k,HJ.out.1.nums.es8,HJ.out.1.nums.up⟩⟩,HJ.out.2.1.trans he⟩
end Go.Proofs.YtplaamfoeaaaiaaGreatDoor
