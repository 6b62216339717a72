/- A part of the proofs of the laws of lifelinetop (TopNever, TopLost, TopRoom): contracts of functions that these laws reach. No condition of its own. -/
import Derived.Test.YtplaamfoeaaaiaaGreatDoorK02
import Derived.Test.YtplaamfoeaaaiaaGreatDoorK33
set_option maxRecDepth 100000
set_option maxHeartbeats 8000000
set_option linter.unusedVariables false
namespace Go.Proofs.YtplaamfoeaaaiaaGreatDoor
open Go.RowKit
theorem EsIs.at {w : World} {v : Value} {f : List Nat} {es : List M.Entry} (h : EsIs w v f es) {k : Nat} {e : M.Entry} (hk : es[k]? = some e) :
  ∃ g c,v = .slice (some ⟨g,0,none⟩) es.length c ∧ es.length ≤ c ∧ k < es.length ∧ g ∈ f ∧ w.cell? ⟨g,k * 5,none⟩ = some (strB e.name) ∧ w.cell? ⟨g,k * 5 + 1,none⟩ = some (.int .i64 e.addr) ∧ w.cell? ⟨g,k * 5 + 2,none⟩ = some (.int .i64 e.size) ∧ w.cell? ⟨g,k * 5 + 3,none⟩ = some (.int .u32 e.print) ∧ w.cell? ⟨g,k * 5 + 4,none⟩ = some (.int .i64 e.way) := by
 obtain ⟨a,c,rfl,h2,h3⟩ := h
 have hl := (List.getElem?_eq_some_iff.1 hk).1
 obtain ⟨g,rfl,hg,hat⟩ := h3 (fun e => by rw [e] at hl;simp at hl)
 exact ⟨g,c,rfl,h2,hl,hg,hat k e hk⟩
theorem ImIs.at {w : World} {v : Value} {f : List Nat} {ims : List M.B} (h : ImIs w v f ims) {k : Nat} {im : M.B} (hk : ims[k]? = some im) :
  ∃ g c u,v = .slice (some ⟨g,0,none⟩) ims.length c ∧ ims.length ≤ c ∧ k < ims.length ∧ g ∈ f ∧ w.cell? ⟨g,k,none⟩ = some u ∧ Slc w f u im := by
 obtain ⟨a,c,rfl,h2,h3⟩ := h
 have hl := (List.getElem?_eq_some_iff.1 hk).1
 obtain ⟨g,u,rfl,hg,c0,hs⟩ := h3 k im hk
 exact ⟨g,c,u,rfl,h2,hl,hg,c0,hs⟩
def LoadOk (x : M.Host) : Prop := ∃ e im,x.es[x.k]? = some e ∧ x.images[x.k]? = some im ∧ e.addr < 4294967296 ∧ x.out.length ≤ 900000 ∧ ((e.way = 3 ∧ e.name = fb ∧ im.length = 100) ∨ ((e.way = 0 ∨ e.way = 1) ∧ 0 < im.length ∧ im.length < 1024))
theorem loadOf_len (way addr : Nat) : (M.loadOf way addr).length ≤ 1000 := by
 have h1 := digits_len 16 addr
 have h2 : (M.ways.getD (min way 3) []).length ≤ 64 := by
  rw [ways_eq]
  have : min way 3 = 0 ∨ min way 3 = 1 ∨ min way 3 = 2 ∨ min way 3 = 3 := by omega
  rcases this with e | e | e | e <;> rw [e] <;> decide
 unfold M.loadOf
 rw [str_load]
 simp only [List.length_append,List.length_cons,List.length_nil]
 omega
theorem HostAt.loads {w w' : World} {H : Nat} {z : HV} {f : Nat → List Nat} {x : M.Host} (h : HostAt w H z f x) (ho : Only [H] w w') (g : M.Giver) (gv : Value) (l : List Nat) (hg : GiverIs w' gv l g) (hl : Live w' l) (hf : ∀ b,b ∈ l → w.heap.size ≤ b) (hs : w'.heap[H]? = some (.cells (hostZ { z with giver := gv } { x with giver := g }) 96 (0,0))) :
  HostAt w' H { z with giver := gv } (upd f 4 l) { x with giver := g } ∧ Ev w w' (allF f) (allF (upd f 4 l)) := by
 obtain ⟨hz,hp,he⟩ := h.turn 4 (by decide) (by decide) (ho.weaken (by simp)) (fun b hb => .inr (hf b hb)) hl
 exact ⟨⟨hs,h.f0,hz,⟨fun _ => hp.es (by decide),fun _ => hp.im (by decide),fun _ => hp.play (by decide),fun _ => hg,fun _ => hp.watch (by decide),fun _ => hp.ring (by decide),fun _ => hp.demux (by decide),fun _ => hp.heard (by decide),fun _ => hp.out (by decide)⟩,⟨h.nums.cfg,h.nums.ma0,h.nums.ma1,h.nums.mb0,h.nums.mb1,h.nums.k,h.nums.es8,h.nums.up⟩⟩,he⟩
theorem HostAt.setPhase1 {w : World} {H : Nat} {z : HV} {f : Nat → List Nat} {x : M.Host} (h : HostAt w H z f x) :
  HostAt (w.setCell ⟨H,7,none⟩ (.int .i64 1)) H z f { x with phase := 1 } ∧ Ev w (w.setCell ⟨H,7,none⟩ (.int .i64 1)) (allF f) (allF f) := by
 obtain ⟨hz,hp,he⟩ := h.own (only_set w H 7 (.int .i64 1))
 exact ⟨⟨hs_same h.str rfl,h.f0,hz,⟨hp.es,hp.im,hp.play,hp.giver,fun _ _ h1 _ _ => absurd rfl h1,hp.ring,hp.demux,hp.heard,hp.out⟩,⟨h.nums.cfg,h.nums.ma0,h.nums.ma1,h.nums.mb0,h.nums.mb1,h.nums.k,h.nums.es8,h.nums.up⟩⟩,he⟩
theorem number_data : ∀ (ps : List (List UInt8)) (k : Nat) (b : M.Blk),b ∈ M.numberF k ps → b.data ∈ ps := by
 intro ps
 induction ps with
 | nil => intro k b hb;simp [M.numberF] at hb
 | cons p r ih =>
  intro k b hb
  unfold M.numberF at hb
  rcases List.mem_cons.1 hb with rfl | hb
  ·simp
  ·exact List.mem_cons_of_mem _ (ih _ b hb)
theorem parts_count : ∀ (f : Nat) (d : List UInt8),(parts f d).length ≤ f := by
 intro f
 induction f with
 | zero => intro d;simp [parts]
 | succ f ih =>
  intro d
  unfold parts
  split
  ·simp
  ·simp only [List.length_cons];have := ih (d.drop 128);omega
theorem load_one_eq (x : M.Host) (e : M.Entry) (im : M.B) (he : x.es[x.k]? = some e) (hi : x.images[x.k]? = some im) (hw : e.way ≠ 3) (hl : im.length < 1024) :
  x.load = { ({ x.send (M.loadOf e.way e.addr) with phase := 1 } : M.Host) with giver := .one (M.sndOf x.cfg (M.number (parts im.length im)) (e.way != 0) true) } := by
 unfold M.Host.load
 rw [he,hi]
 simp only [if_neg hw]
 rw [split_parts im _ (.inr hl)]
 rfl
theorem load_batch_eq (x : M.Host) (e : M.Entry) (im : M.B) (he : x.es[x.k]? = some e) (hi : x.images[x.k]? = some im) (hw : e.way = 3) (hnm : e.name = fb) :
  x.load = { ({ x.send (M.loadOf e.way e.addr) with phase := 1 } : M.Host) with giver := .batch (M.bsndOf x.cfg fb im) } := by
 unfold M.Host.load
 rw [he,hi]
 simp only [if_pos hw]
 rw [hnm]
 rfl
theorem keep6 {w1 w2 : World} {H A G k : Nat} {a b c d e u v : Value} (ho : Only [H] w1 (w1.setCell ⟨H,11,none⟩ v)) (h : w1.cell? ⟨H,0,none⟩ = some a ∧ w1.cell? ⟨H,1,none⟩ = some b ∧ w1.cell? ⟨A,0,none⟩ = some c ∧ w1.cell? ⟨H,6,none⟩ = some d ∧ w1.cell? ⟨H,8,none⟩ = some e ∧ w1.cell? ⟨G,k,none⟩ = some u) (hA : A ≠ H) (hG : G ≠ H) (e2 : w2 = w1.setCell ⟨H,11,none⟩ v := by rfl) :
  w2.cell? ⟨H,0,none⟩ = some a ∧ w2.cell? ⟨H,1,none⟩ = some b ∧ w2.cell? ⟨A,0,none⟩ = some c ∧ w2.cell? ⟨H,6,none⟩ = some d ∧ w2.cell? ⟨H,8,none⟩ = some e ∧ w2.cell? ⟨G,k,none⟩ = some u := by
 subst e2
 obtain ⟨h0,h1,h2,h3,h4,h5⟩ := h
 have hn : ∀ i,i ≠ 11 → (w1.setCell ⟨H,11,none⟩ v).cell? ⟨H,i,none⟩ = w1.cell? ⟨H,i,none⟩ := fun i hi => World.cell?_setCell_other w1 _ _ v (by intro h;simp only [Addr.mk.injEq] at h;omega)
 exact ⟨(hn 0 (by decide)).trans h0,(hn 1 (by decide)).trans h1,ho.cell h2 (by simpa using hA),(hn 6 (by decide)).trans h3,(hn 8 (by decide)).trans h4,ho.cell h5 (by simpa using hG)⟩
theorem Glob.of_ev {w w' : World} {f f' : List Nat} (h : Glob w) (hS : Sep f glb) (e : Ev w w' f f') : Glob w' := h.of_only e.only hS
theorem hload_0 (H : Nat) (fp : List Nat) (x : M.Host) (e : M.Entry) (im : M.B) (w : World) (h : HostIs w H fp x) (hgl : Glob w) (he : x.es[x.k]? = some e) (hi : x.images[x.k]? = some im) (ha : e.addr < 4294967296) (hol : x.out.length ≤ 900000) (hw : e.way = 0) (hi0 : 0 < im.length) (hi1 : im.length < 1024) :
  Calls Tryz.prog 67 #[.pointer (some ⟨H,0,none⟩)] w (HPost w H fp x.load) := by
 have hle := load_one_eq x e im he hi (by omega) hi1
 have hlive := h.live
 have h00 := h
 obtain ⟨z,f,hfp,h⟩ := h
 obtain ⟨ge,ce,hze,e0,e1,e2,q0,q1,q2,q3,q4⟩ := (h.parts.es (by decide)).at he
 obtain ⟨nm,addr,size,pr,way⟩ := e
 obtain ⟨k,hk⟩ : ∃ k,x.k = k := ⟨_,rfl⟩
 obtain ⟨ne,hne⟩ : ∃ n,x.es.length = n := ⟨_,rfl⟩
 obtain ⟨ni,hni⟩ : ∃ n,x.images.length = n := ⟨_,rfl⟩
 simp only at q0 q1 q2 q3 q4 ha hw hle
 subst hw
 have c5 : w.cell? ⟨H,5,none⟩ = some (.slice (some ⟨ge,0,none⟩) ne ce) := by rw [← hne,← hze];exact cell_at h.str rfl
 have c8 : w.cell? ⟨H,8,none⟩ = some (.int .i64 k) := by rw [← hk];exact cell_at h.str rfl
 rw [hk] at q0 q1 q2 q3 q4 e1
 rw [hne] at e0 e1
 have hH := h.hlt
 have hge : ge < w.heap.size := h.live 1 ge e2
 have hk8 : ne ≤ 8 := by rw [← hne];exact h.nums.es8
 have hcf := h.nums.cfg
 have HH := LH (AI h00 (AI hgl (AI hle (AI hk (AI hni (AI hcf hlive))))))
 have HI := LH hi
 clear h h00 hgl hle hk hni hcf hlive hfp hne hze he hi e2
 go_enter Tryz.func67,Tryz.ntmps67
 go_wp2_with fail
 go_region
 go_upto_region 1 with fail
 obtain ⟨A,hA⟩ : ∃ A,A = w.heap.size := ⟨_,rfl⟩
 obtain ⟨w1,hw1⟩ : ∃ w1,w1 = (w.alloc (.cells #[strB nm,.int .i64 addr,.int .i64 size,.int .u32 pr,.int .i64 0] 39)).drew := ⟨_,rfl⟩
 have hA1 : w1.heap[A]? = some (.cells #[strB nm,.int .i64 addr,.int .i64 size,.int .u32 pr,.int .i64 0] 39 (0,0)) := by rw [hw1,hA];exact heap_alloc_new w _
 have o1 : Only [] w w1 := by rw [hw1];exact ((Only.refl [] w).alloc _).drew
 rw [← hA,← hw1]
 have a1 : w1.cell? ⟨A,1,none⟩ = some (.int .i64 addr) := cell_at hA1 rfl
 have a4 : w1.cell? ⟨A,4,none⟩ = some (.int .i64 0) := cell_at hA1 rfl
 have hL9 : Calls Tryz.prog 9 #[.int .i64 0,.int .i64 addr] w1 fun e w' => e = .returned (strB (M.loadOf 0 addr)) ∧ Only [] w1 w' := load_any 0 addr w1 ((HH.out.2.1.of_only o1 (by intro b hb;simp at hb)).tabs) (by omega) ha
 obtain ⟨t,ht⟩ : ∃ t,t = M.loadOf 0 addr := ⟨_,rfl⟩
 have htl : t.length ≤ 1000 := by rw [ht];exact loadOf_len _ _
 obtain ⟨L,hL⟩ : ∃ L,L = t.length := ⟨_,rfl⟩
 rw [← ht] at hL9
 have H1 := LH (AI hA1 (AI o1 (AI hL9 (AI ht (AI hL hA)))))
 have hA0 : w.heap.size ≤ A := by omega
 rw [← hL] at htl
 clear hA1 o1 hw1 hA hL9 ht hL q0 q1 q2 q3 q4 c5 c8
 go_upto_region 2 with (first
  | (go_at_call 9;go_loud (refine H1.out.2.2.1.mono ?_;rintro e w2 ⟨rfl,o2⟩;obtain ⟨C,wc,hconv,d1,d2,oc,sc,hbc⟩ := conv_str t w2 (by rw [← H1.out.2.2.2.2.1];unfold maxLen;omega);rw [← H1.out.2.2.2.2.1] at hconv;have H2 := LH (AI o2 (AI oc hbc));clear o2 oc hbc d1 d2 sc))
  | (go_at_call 44;go_loud (have o03 : Only [] w wc := (H1.out.2.1.trans H2.out.1).trans H2.out.2.1;refine (hsend_is (some ⟨w2.heap.size,0,none⟩) L C t H fp x wc (HH.out.1.of_only o03 (fun b _ => by simp)) H2.out.2.2 H1.out.2.2.2.2.1.symm (fun e => by cases e) (by omega)).mono ?_;rintro e w3 ⟨rfl,fp3,h3,ev3⟩;have H3 := LH (AI h3 (AI (⟨o03.weaken (by simp),Grow.refl _ _⟩ : Ev w wc fp fp) (AI ev3 o03)));clear hconv h3 ev3 o03)))
 have hA3 : w3.heap[A]? = some (.cells #[strB nm,.int .i64 addr,.int .i64 size,.int .u32 pr,.int .i64 0] 39 (0,0)) := by
  have oA : Only [] w1 wc := H2.out.1.trans H2.out.2.1
  refine H3.out.2.2.1.only.heap (oA.heap H1.out.1 (by simp)) (fun hm => ?_)
  have := HH.out.2.2.2.2.2.2 A hm;omega
 have ev03 : Ev w w3 fp fp3 := H3.out.2.1.trans H3.out.2.2.1
 obtain ⟨z3,f3,hfp3,h3⟩ := H3.out.1
 have c7 : w3.cell? ⟨H,7,none⟩ = some (.int .i64 x.phase) := cell_at h3.str rfl
 have f7 : w3.frozen? ⟨H,7,none⟩ = false := free_at h3.str
 obtain ⟨h4,ev4⟩ := h3.setPhase1
 have hAH : A ≠ H := by omega
 have H3' := LH (AI hA3 (AI ev03 (AI h3 (AI hfp3 (AI h4 ev4)))))
 clear hA3 ev03 hfp3 h4 ev4 h3 a1 a4
 go_upto_region 3 with fail
 obtain ⟨w4,hw4⟩ : ∃ w4,w4 = w3.setCell ⟨H,7,none⟩ (.int .i64 1) := ⟨_,rfl⟩
 rw [← hw4]
 obtain ⟨hA3,ev03,_,hfp3,h4,ev4⟩ := H3'.out
 have o34 : Only [H] w3 w4 := by rw [hw4];exact only_set w3 H 7 _
 rw [← hw4] at h4 ev4
 have hA4 := o34.heap hA3 (by simpa using hAH)
 obtain ⟨hd4,_⟩ := h4.parts.demux (by decide)
 have c15 : w4.cell? ⟨H,15,none⟩ = some (.pointer (some ⟨z3.Dm,0,none⟩)) := cell_at h4.str rfl
 rw [← hfp3] at ev4
 have H4 := LH (AI hA4 (AI h4 (AI hd4 (ev03.trans ev4))))
 clear hw4 hA3 ev03 hfp3 h4 ev4 o34 hA4 hd4 c7 f7
 go_upto_region 4 with (go_at_call 53;refine (switch_any _ _ _ _ _ _ 2 w4 H4.out.2.2.1).mono ?_;rintro e w5 ⟨rfl,hd5,o5⟩;have H5 := LH (AI hd5 o5);clear hd5 o5)
 obtain ⟨hz5,hp5,he5⟩ := H4.out.2.1.switched 2 H5.out.2 (fun b hb => by simp at hb;exact .inr hb) H5.out.1
 have hs5 := H5.out.2.heap H4.out.2.1.str (by simpa using Ne.symm H4.out.2.1.dmH.1)
 have hAD : A ≠ z3.Dm := fun hh => by
  have := H4.out.2.2.1.str
  have hm : z3.Dm ∈ fp3 := by
   obtain ⟨_,_,_,hfp3,_⟩ := H3'.out
   rw [hfp3];exact mem_allF.2 ⟨7,by omega,by rw [(H4.out.2.1.parts.demux (by decide)).2];simp⟩
  have hAw : A < wc.heap.size := by have := heap_lt H1.out.1;exact Nat.lt_of_lt_of_le this (H2.out.1.trans H2.out.2.1).size
  rcases H3.out.2.2.1.grow _ hm with h' | h'
  ·have := HH.out.2.2.2.2.2.2 _ h';omega
  ·omega
 have hA5 := H5.out.2.heap H4.out.1 (by simpa using hAD)
 have h5 : HostAt w5 H { z3 with mode := 2 } (upd f3 7 (f3 7)) { x.send t with phase := 1 } := ⟨hs5,H4.out.2.1.f0,hz5,hp5,H4.out.2.1.nums.cfg,H4.out.2.1.nums.ma0,H4.out.2.1.nums.ma1,H4.out.2.1.nums.mb0,H4.out.2.1.nums.mb1,H4.out.2.1.nums.k,H4.out.2.1.nums.es8,H4.out.2.1.nums.up⟩
 have ev5 : Ev w w5 fp (allF (upd f3 7 (f3 7))) := by
  have := H4.out.2.2.2
  obtain ⟨_,_,_,hfp3,_⟩ := H3'.out
  rw [hfp3] at this
  exact this.trans he5
 obtain ⟨gi,ci,u,hzi,i0,i1,i2,cu,hu⟩ := (h5.parts.im (by decide)).at (k := x.k) (im := im) HI.out
 obtain ⟨ai,cc,rfl,u1,u2,u3,u4,u5⟩ := hu
 have c6 : w5.cell? ⟨H,6,none⟩ = some (.slice (some ⟨gi,0,none⟩) ni ci) := by
  have := cell_at h5.str (i := 6) rfl
  rw [this]
  exact congrArg some (hzi.trans (by rw [show ({ x.send t with phase := 1 } : M.Host).images.length = ni from HH.out.2.2.2.2.1]))
 have c8 : w5.cell? ⟨H,8,none⟩ = some (.int .i64 k) := by rw [← HH.out.2.2.2.1];exact cell_at h5.str rfl
 have i0' : ni ≤ ci := HH.out.2.2.2.2.1 ▸ i0
 have i1' : k < ni := HH.out.2.2.2.1 ▸ HH.out.2.2.2.2.1 ▸ i1
 have cu' : w5.cell? ⟨gi,k,none⟩ = some (.slice ai im.length cc) := HH.out.2.2.2.1 ▸ cu
 have a4 : w5.cell? ⟨A,4,none⟩ = some (.int .i64 0) := cell_at hA5 rfl
 have hcc : cc ≤ 9223372036854775807 := by unfold maxLen at u3;omega
 obtain ⟨N,hN⟩ : ∃ N,N = im.length := ⟨_,rfl⟩
 have hSP := split_any ai im.length cc false im w5.drew u1.drew rfl u2 hcc u4 (fun ad e => h5.live 2 _ (u5 ad e)) hi1
 rw [← hN] at hSP cu' hi0 hi1 u2
 have HX := LH (AI h5 (AI ev5 (AI hA5 (AI hSP hN))))
 clear h5 ev5 hA5 hSP hN hs5 hz5 hp5 he5 hAD hzi i0 i1 i2 cu u1 u3 u4 u5
 go_upto_region 6 with fail
 go_still_tail 13,(by kernel_rfl)
 go_upto_region 7 with (go_at_call 90;go_loud (refine HX.out.2.2.2.1.mono ?_;rintro e w6 ⟨v6,r6,rfl,hp6,o6⟩))
 obtain ⟨ps,hps⟩ : ∃ ps,ps = parts N im := ⟨_,rfl⟩
 have hpsl : ps.length ≤ 1024 := by rw [hps];have := parts_count N im;omega
 have hps0 : 0 < ps.length := by
  rw [hps,HX.out.2.2.2.2,parts_one im (by have := HX.out.2.2.2.2;omega)];simp
 rw [← hps] at hp6
 obtain ⟨Mn,hM⟩ : ∃ m,m = ps.length := ⟨_,rfl⟩
 obtain ⟨g6,c6',rfl,hs6,hl6⟩ := parts_slcs hp6 hps0
 rw [← hM] at hpsl hps0
 have o56 : Only [] w5 w6 := ((Only.refl [] w5).drew).trans o6
 have hH6 := o56.heap HX.out.1.str (by simp)
 have hA6 := o56.heap HX.out.2.2.1 (by simp)
 have hp128 : ∀ p,p ∈ ps → p.length = 128 := by rw [hps];exact parts_len N im
 have hNB := numb_any (some ⟨g6,0,none⟩) ps.length c6' _ ps w6.drew (hs6.of_only ((Only.refl [] w6).drew) (fun b _ => by simp)) rfl (fun b hb => hl6 b hb) (by omega) (fun p hp => by rw [hp128 p hp];omega)
 have hnl : (M.number ps).length = Mn := by unfold M.number;rw [numberF_length];exact hM.symm
 rw [← hM] at hNB
 rw [← hM]
 have c0 : w6.cell? ⟨H,0,none⟩ = some (.int .i64 x.cfg.tries) := cell_at hH6 rfl
 have c1 : w6.cell? ⟨H,1,none⟩ = some (.int .i64 x.cfg.wait) := cell_at hH6 rfl
 have a4 : w6.cell? ⟨A,4,none⟩ = some (.int .i64 0) := cell_at hA6 rfl
 have H6 := LH (AI hNB (AI hnl (AI hp128 (AI hps (AI hM (AI o56 (AI hH6 hA6)))))))
 clear hNB hnl hp128 hps hM o56 o6 hs6 hl6 hp6 hH6 hA6 c6 c8 cu'
 go_region_held3 (fun w' => w'.cell? ⟨H,0,none⟩ = some (.int .i64 x.cfg.tries) ∧ w'.cell? ⟨H,1,none⟩ = some (.int .i64 x.cfg.wait) ∧ w'.cell? ⟨A,4,none⟩ = some (.int .i64 0)) (first | exact ⟨c0,c1,a4⟩ | exact ⟨cell_at (hs_same H8.out.1 rfl) rfl,cell_at (hs_same H8.out.1 rfl) rfl,cell_at ((only_set w8 H 11 _).heap H8.out.2.1 (by simpa using hAH)) rfl⟩ | exact ⟨cell_at H8.out.1 rfl,cell_at H8.out.1 rfl,cell_at H8.out.2.1 rfl⟩ | exact ⟨cell_at H7.out.1 rfl,cell_at H7.out.1 rfl,cell_at H7.out.2.1 rfl⟩ | go_keep) (first
  | (go_at_call 92;go_loud (refine H6.out.1.mono ?_;rintro e w7 ⟨v7,r7,rfl,hp7,o7⟩;obtain ⟨g7,c7',rfl,hs7,hl7⟩ := blkrow_blks hp7 (by rw [H6.out.2.1];exact hps0);rw [H6.out.2.1];have H7 := LH (AI ((((Only.refl [] w6).drew).trans o7).heap H6.out.2.2.2.2.2.2.1 (by simp)) (AI ((((Only.refl [] w6).drew).trans o7).heap H6.out.2.2.2.2.2.2.2 (by simp)) (AI hs7 (AI hl7 (((Only.refl [] w6).drew).trans o7)))));clear hp7 hs7 hl7 o7))
  | (go_at_call 91;go_loud (refine (sof_any x.cfg (some ⟨g7,0,none⟩) Mn c7' _ (M.number ps) false true w7 HH.out.2.2.2.2.2.1 H7.out.2.2.1 H6.out.2.1 H7.out.2.2.2.1 (by omega) (fun b hb => .inl (H6.out.2.2.1 _ (number_data ps 0 b hb)))).mono ?_;rintro e w8 ⟨S,r8,rfl,hS8,hr8,hsn,o8,hl8⟩;have h8H := o8.heap H7.out.1 (by simp);have c11 : w8.cell? ⟨H,11,none⟩ = some z3.giver := cell_at h8H rfl;have f11 : w8.frozen? ⟨H,11,none⟩ = false := free_at h8H;have H8 := LH (AI h8H (AI (o8.heap H7.out.2.1 (by simp)) (AI hS8 (AI hr8 (AI hsn (AI o8 hl8))))));clear hS8 hr8 hsn o8 hl8 h8H)))
 go_end0
 obtain ⟨k1,k2,k3,k4,k5,k6,k7⟩ := H8.out
 have o57 : Only [] w5 w7 := H6.out.2.2.2.2.2.1.trans H7.out.2.2.2.2
 have s57 := o57.size
 have hS := heap_lt k5.str.choose_spec.choose_spec.1
 have h5s := HX.out.1.hlt
 have o59 : Only [H] w5 (w8.setCell ⟨H,11,none⟩ (.iface 205 (.pointer (some ⟨S,0,none⟩)))) := ((o57.trans k6).weaken (by simp)).trans (only_set w8 H 11 _)
 have hsn9 := k5.of_only (only_set w8 H 11 (.iface 205 (.pointer (some ⟨S,0,none⟩)))) (by simp;omega) (fun b hb => by have := k4 b hb;simp;omega)
 have hz9 : (w8.setCell ⟨H,11,none⟩ (.iface 205 (.pointer (some ⟨S,0,none⟩)))).heap.size = w8.heap.size := by simp [World.setCell]
 obtain ⟨j1,j2⟩ := HX.out.1.loads o59 (.one (M.sndOf x.cfg (M.number ps) false true)) (.iface 205 (.pointer (some ⟨S,0,none⟩))) (S :: r8) ⟨S,r8,rfl,rfl,hsn9⟩ (fun b hb => by
   rw [hz9]
   rcases List.mem_cons.1 hb with rfl | hb
   ·exact hS
   ·exact k7 b hb)
  (fun b hb => by
   rcases List.mem_cons.1 hb with rfl | hb
   ·omega
   ·have := k4 b hb;omega)
  (hs_same k1 rfl)
 have hx : x.load = { ({ x.send t with phase := 1 } : M.Host) with giver := .one (M.sndOf x.cfg (M.number ps) false true) } := by
  rw [HH.out.2.2.1,H6.out.2.2.2.1,HX.out.2.2.2.2,H1.out.2.2.2.1]
  rfl
 rw [hx]
 exact ⟨rfl,_,⟨_,_,rfl,j1⟩,HX.out.2.1.trans j2⟩
theorem hload_1 (H : Nat) (fp : List Nat) (x : M.Host) (e : M.Entry) (im : M.B) (w : World) (h : HostIs w H fp x) (hgl : Glob w) (he : x.es[x.k]? = some e) (hi : x.images[x.k]? = some im) (ha : e.addr < 4294967296) (hol : x.out.length ≤ 900000) (hw : e.way = 1) (hi0 : 0 < im.length) (hi1 : im.length < 1024) :
  Calls Tryz.prog 67 #[.pointer (some ⟨H,0,none⟩)] w (HPost w H fp x.load) := by
 have hle := load_one_eq x e im he hi (by omega) hi1
 have hlive := h.live
 have h00 := h
 obtain ⟨z,f,hfp,h⟩ := h
 obtain ⟨ge,ce,hze,e0,e1,e2,q0,q1,q2,q3,q4⟩ := (h.parts.es (by decide)).at he
 obtain ⟨nm,addr,size,pr,way⟩ := e
 obtain ⟨k,hk⟩ : ∃ k,x.k = k := ⟨_,rfl⟩
 obtain ⟨ne,hne⟩ : ∃ n,x.es.length = n := ⟨_,rfl⟩
 obtain ⟨ni,hni⟩ : ∃ n,x.images.length = n := ⟨_,rfl⟩
 simp only at q0 q1 q2 q3 q4 ha hw hle
 subst hw
 have c5 : w.cell? ⟨H,5,none⟩ = some (.slice (some ⟨ge,0,none⟩) ne ce) := by rw [← hne,← hze];exact cell_at h.str rfl
 have c8 : w.cell? ⟨H,8,none⟩ = some (.int .i64 k) := by rw [← hk];exact cell_at h.str rfl
 rw [hk] at q0 q1 q2 q3 q4 e1
 rw [hne] at e0 e1
 have hH := h.hlt
 have hge : ge < w.heap.size := h.live 1 ge e2
 have hk8 : ne ≤ 8 := by rw [← hne];exact h.nums.es8
 have hcf := h.nums.cfg
 have HH := LH (AI h00 (AI hgl (AI hle (AI hk (AI hni (AI hcf hlive))))))
 have HI := LH hi
 clear h h00 hgl hle hk hni hcf hlive hfp hne hze he hi e2
 go_enter Tryz.func67,Tryz.ntmps67
 go_wp2_with fail
 go_region
 go_upto_region 1 with fail
 obtain ⟨A,hA⟩ : ∃ A,A = w.heap.size := ⟨_,rfl⟩
 obtain ⟨w1,hw1⟩ : ∃ w1,w1 = (w.alloc (.cells #[strB nm,.int .i64 addr,.int .i64 size,.int .u32 pr,.int .i64 1] 39)).drew := ⟨_,rfl⟩
 have hA1 : w1.heap[A]? = some (.cells #[strB nm,.int .i64 addr,.int .i64 size,.int .u32 pr,.int .i64 1] 39 (0,0)) := by rw [hw1,hA];exact heap_alloc_new w _
 have o1 : Only [] w w1 := by rw [hw1];exact ((Only.refl [] w).alloc _).drew
 rw [← hA,← hw1]
 have a1 : w1.cell? ⟨A,1,none⟩ = some (.int .i64 addr) := cell_at hA1 rfl
 have a4 : w1.cell? ⟨A,4,none⟩ = some (.int .i64 1) := cell_at hA1 rfl
 have hL9 : Calls Tryz.prog 9 #[.int .i64 1,.int .i64 addr] w1 fun e w' => e = .returned (strB (M.loadOf 1 addr)) ∧ Only [] w1 w' := load_any 1 addr w1 ((HH.out.2.1.of_only o1 (by intro b hb;simp at hb)).tabs) (by omega) ha
 obtain ⟨t,ht⟩ : ∃ t,t = M.loadOf 1 addr := ⟨_,rfl⟩
 have htl : t.length ≤ 1000 := by rw [ht];exact loadOf_len _ _
 obtain ⟨L,hL⟩ : ∃ L,L = t.length := ⟨_,rfl⟩
 rw [← ht] at hL9
 have H1 := LH (AI hA1 (AI o1 (AI hL9 (AI ht (AI hL hA)))))
 have hA0 : w.heap.size ≤ A := by omega
 rw [← hL] at htl
 clear hA1 o1 hw1 hA hL9 ht hL q0 q1 q2 q3 q4 c5 c8
 go_upto_region 2 with (first
  | (go_at_call 9;go_loud (refine H1.out.2.2.1.mono ?_;rintro e w2 ⟨rfl,o2⟩;obtain ⟨C,wc,hconv,d1,d2,oc,sc,hbc⟩ := conv_str t w2 (by rw [← H1.out.2.2.2.2.1];unfold maxLen;omega);rw [← H1.out.2.2.2.2.1] at hconv;have H2 := LH (AI o2 (AI oc hbc));clear o2 oc hbc d1 d2 sc))
  | (go_at_call 44;go_loud (have o03 : Only [] w wc := (H1.out.2.1.trans H2.out.1).trans H2.out.2.1;refine (hsend_is (some ⟨w2.heap.size,0,none⟩) L C t H fp x wc (HH.out.1.of_only o03 (fun b _ => by simp)) H2.out.2.2 H1.out.2.2.2.2.1.symm (fun e => by cases e) (by omega)).mono ?_;rintro e w3 ⟨rfl,fp3,h3,ev3⟩;have H3 := LH (AI h3 (AI (⟨o03.weaken (by simp),Grow.refl _ _⟩ : Ev w wc fp fp) (AI ev3 o03)));clear hconv h3 ev3 o03)))
 have hA3 : w3.heap[A]? = some (.cells #[strB nm,.int .i64 addr,.int .i64 size,.int .u32 pr,.int .i64 1] 39 (0,0)) := by
  have oA : Only [] w1 wc := H2.out.1.trans H2.out.2.1
  refine H3.out.2.2.1.only.heap (oA.heap H1.out.1 (by simp)) (fun hm => ?_)
  have := HH.out.2.2.2.2.2.2 A hm;omega
 have ev03 : Ev w w3 fp fp3 := H3.out.2.1.trans H3.out.2.2.1
 obtain ⟨z3,f3,hfp3,h3⟩ := H3.out.1
 have c7 : w3.cell? ⟨H,7,none⟩ = some (.int .i64 x.phase) := cell_at h3.str rfl
 have f7 : w3.frozen? ⟨H,7,none⟩ = false := free_at h3.str
 obtain ⟨h4,ev4⟩ := h3.setPhase1
 have hAH : A ≠ H := by omega
 have H3' := LH (AI hA3 (AI ev03 (AI h3 (AI hfp3 (AI h4 ev4)))))
 clear hA3 ev03 hfp3 h4 ev4 h3 a1 a4
 go_upto_region 3 with fail
 obtain ⟨w4,hw4⟩ : ∃ w4,w4 = w3.setCell ⟨H,7,none⟩ (.int .i64 1) := ⟨_,rfl⟩
 rw [← hw4]
 obtain ⟨hA3,ev03,_,hfp3,h4,ev4⟩ := H3'.out
 have o34 : Only [H] w3 w4 := by rw [hw4];exact only_set w3 H 7 _
 rw [← hw4] at h4 ev4
 have hA4 := o34.heap hA3 (by simpa using hAH)
 obtain ⟨hd4,_⟩ := h4.parts.demux (by decide)
 have c15 : w4.cell? ⟨H,15,none⟩ = some (.pointer (some ⟨z3.Dm,0,none⟩)) := cell_at h4.str rfl
 rw [← hfp3] at ev4
 have H4 := LH (AI hA4 (AI h4 (AI hd4 (ev03.trans ev4))))
 clear hw4 hA3 ev03 hfp3 h4 ev4 o34 hA4 hd4 c7 f7
 go_upto_region 4 with (go_at_call 53;refine (switch_any _ _ _ _ _ _ 2 w4 H4.out.2.2.1).mono ?_;rintro e w5 ⟨rfl,hd5,o5⟩;have H5 := LH (AI hd5 o5);clear hd5 o5)
 obtain ⟨hz5,hp5,he5⟩ := H4.out.2.1.switched 2 H5.out.2 (fun b hb => by simp at hb;exact .inr hb) H5.out.1
 have hs5 := H5.out.2.heap H4.out.2.1.str (by simpa using Ne.symm H4.out.2.1.dmH.1)
 have hAD : A ≠ z3.Dm := fun hh => by
  have := H4.out.2.2.1.str
  have hm : z3.Dm ∈ fp3 := by
   obtain ⟨_,_,_,hfp3,_⟩ := H3'.out
   rw [hfp3];exact mem_allF.2 ⟨7,by omega,by rw [(H4.out.2.1.parts.demux (by decide)).2];simp⟩
  have hAw : A < wc.heap.size := by have := heap_lt H1.out.1;exact Nat.lt_of_lt_of_le this (H2.out.1.trans H2.out.2.1).size
  rcases H3.out.2.2.1.grow _ hm with h' | h'
  ·have := HH.out.2.2.2.2.2.2 _ h';omega
  ·omega
 have hA5 := H5.out.2.heap H4.out.1 (by simpa using hAD)
 have h5 : HostAt w5 H { z3 with mode := 2 } (upd f3 7 (f3 7)) { x.send t with phase := 1 } := ⟨hs5,H4.out.2.1.f0,hz5,hp5,H4.out.2.1.nums.cfg,H4.out.2.1.nums.ma0,H4.out.2.1.nums.ma1,H4.out.2.1.nums.mb0,H4.out.2.1.nums.mb1,H4.out.2.1.nums.k,H4.out.2.1.nums.es8,H4.out.2.1.nums.up⟩
 have ev5 : Ev w w5 fp (allF (upd f3 7 (f3 7))) := by
  have := H4.out.2.2.2
  obtain ⟨_,_,_,hfp3,_⟩ := H3'.out
  rw [hfp3] at this
  exact this.trans he5
 obtain ⟨gi,ci,u,hzi,i0,i1,i2,cu,hu⟩ := (h5.parts.im (by decide)).at (k := x.k) (im := im) HI.out
 obtain ⟨ai,cc,rfl,u1,u2,u3,u4,u5⟩ := hu
 have c6 : w5.cell? ⟨H,6,none⟩ = some (.slice (some ⟨gi,0,none⟩) ni ci) := by
  have := cell_at h5.str (i := 6) rfl
  rw [this]
  exact congrArg some (hzi.trans (by rw [show ({ x.send t with phase := 1 } : M.Host).images.length = ni from HH.out.2.2.2.2.1]))
 have c8 : w5.cell? ⟨H,8,none⟩ = some (.int .i64 k) := by rw [← HH.out.2.2.2.1];exact cell_at h5.str rfl
 have i0' : ni ≤ ci := HH.out.2.2.2.2.1 ▸ i0
 have i1' : k < ni := HH.out.2.2.2.1 ▸ HH.out.2.2.2.2.1 ▸ i1
 have cu' : w5.cell? ⟨gi,k,none⟩ = some (.slice ai im.length cc) := HH.out.2.2.2.1 ▸ cu
 have a4 : w5.cell? ⟨A,4,none⟩ = some (.int .i64 1) := cell_at hA5 rfl
 have hcc : cc ≤ 9223372036854775807 := by unfold maxLen at u3;omega
 obtain ⟨N,hN⟩ : ∃ N,N = im.length := ⟨_,rfl⟩
 have hSP := split_any ai im.length cc false im w5.drew u1.drew rfl u2 hcc u4 (fun ad e => h5.live 2 _ (u5 ad e)) hi1
 rw [← hN] at hSP cu' hi0 hi1 u2
 have HX := LH (AI h5 (AI ev5 (AI hA5 (AI hSP hN))))
 clear h5 ev5 hA5 hSP hN hs5 hz5 hp5 he5 hAD hzi i0 i1 i2 cu u1 u3 u4 u5
 go_upto_region 6 with fail
 go_still_tail 13,(by kernel_rfl)
 go_upto_region 7 with (go_at_call 90;go_loud (refine HX.out.2.2.2.1.mono ?_;rintro e w6 ⟨v6,r6,rfl,hp6,o6⟩))
 obtain ⟨ps,hps⟩ : ∃ ps,ps = parts N im := ⟨_,rfl⟩
 have hpsl : ps.length ≤ 1024 := by rw [hps];have := parts_count N im;omega
 have hps0 : 0 < ps.length := by
  rw [hps,HX.out.2.2.2.2,parts_one im (by have := HX.out.2.2.2.2;omega)];simp
 rw [← hps] at hp6
 obtain ⟨Mn,hM⟩ : ∃ m,m = ps.length := ⟨_,rfl⟩
 obtain ⟨g6,c6',rfl,hs6,hl6⟩ := parts_slcs hp6 hps0
 rw [← hM] at hpsl hps0
 have o56 : Only [] w5 w6 := ((Only.refl [] w5).drew).trans o6
 have hH6 := o56.heap HX.out.1.str (by simp)
 have hA6 := o56.heap HX.out.2.2.1 (by simp)
 have hp128 : ∀ p,p ∈ ps → p.length = 128 := by rw [hps];exact parts_len N im
 have hNB := numb_any (some ⟨g6,0,none⟩) ps.length c6' _ ps w6.drew (hs6.of_only ((Only.refl [] w6).drew) (fun b _ => by simp)) rfl (fun b hb => hl6 b hb) (by omega) (fun p hp => by rw [hp128 p hp];omega)
 have hnl : (M.number ps).length = Mn := by unfold M.number;rw [numberF_length];exact hM.symm
 rw [← hM] at hNB
 rw [← hM]
 have c0 : w6.cell? ⟨H,0,none⟩ = some (.int .i64 x.cfg.tries) := cell_at hH6 rfl
 have c1 : w6.cell? ⟨H,1,none⟩ = some (.int .i64 x.cfg.wait) := cell_at hH6 rfl
 have a4 : w6.cell? ⟨A,4,none⟩ = some (.int .i64 1) := cell_at hA6 rfl
 have H6 := LH (AI hNB (AI hnl (AI hp128 (AI hps (AI hM (AI o56 (AI hH6 hA6)))))))
 clear hNB hnl hp128 hps hM o56 o6 hs6 hl6 hp6 hH6 hA6 c6 c8 cu'
 go_region_held3 (fun w' => w'.cell? ⟨H,0,none⟩ = some (.int .i64 x.cfg.tries) ∧ w'.cell? ⟨H,1,none⟩ = some (.int .i64 x.cfg.wait) ∧ w'.cell? ⟨A,4,none⟩ = some (.int .i64 1)) (first | exact ⟨c0,c1,a4⟩ | exact ⟨cell_at (hs_same H8.out.1 rfl) rfl,cell_at (hs_same H8.out.1 rfl) rfl,cell_at ((only_set w8 H 11 _).heap H8.out.2.1 (by simpa using hAH)) rfl⟩ | exact ⟨cell_at H8.out.1 rfl,cell_at H8.out.1 rfl,cell_at H8.out.2.1 rfl⟩ | exact ⟨cell_at H7.out.1 rfl,cell_at H7.out.1 rfl,cell_at H7.out.2.1 rfl⟩ | go_keep) (first
  | (go_at_call 92;go_loud (refine H6.out.1.mono ?_;rintro e w7 ⟨v7,r7,rfl,hp7,o7⟩;obtain ⟨g7,c7',rfl,hs7,hl7⟩ := blkrow_blks hp7 (by rw [H6.out.2.1];exact hps0);rw [H6.out.2.1];have H7 := LH (AI ((((Only.refl [] w6).drew).trans o7).heap H6.out.2.2.2.2.2.2.1 (by simp)) (AI ((((Only.refl [] w6).drew).trans o7).heap H6.out.2.2.2.2.2.2.2 (by simp)) (AI hs7 (AI hl7 (((Only.refl [] w6).drew).trans o7)))));clear hp7 hs7 hl7 o7))
  | (go_at_call 91;go_loud (refine (sof_any x.cfg (some ⟨g7,0,none⟩) Mn c7' _ (M.number ps) true true w7 HH.out.2.2.2.2.2.1 H7.out.2.2.1 H6.out.2.1 H7.out.2.2.2.1 (by omega) (fun b hb => .inl (H6.out.2.2.1 _ (number_data ps 0 b hb)))).mono ?_;rintro e w8 ⟨S,r8,rfl,hS8,hr8,hsn,o8,hl8⟩;have h8H := o8.heap H7.out.1 (by simp);have c11 : w8.cell? ⟨H,11,none⟩ = some z3.giver := cell_at h8H rfl;have f11 : w8.frozen? ⟨H,11,none⟩ = false := free_at h8H;have H8 := LH (AI h8H (AI (o8.heap H7.out.2.1 (by simp)) (AI hS8 (AI hr8 (AI hsn (AI o8 hl8))))));clear hS8 hr8 hsn o8 hl8 h8H)))
 go_end0
 obtain ⟨k1,k2,k3,k4,k5,k6,k7⟩ := H8.out
 have o57 : Only [] w5 w7 := H6.out.2.2.2.2.2.1.trans H7.out.2.2.2.2
 have s57 := o57.size
 have hS := heap_lt k5.str.choose_spec.choose_spec.1
 have h5s := HX.out.1.hlt
 have o59 : Only [H] w5 (w8.setCell ⟨H,11,none⟩ (.iface 205 (.pointer (some ⟨S,0,none⟩)))) := ((o57.trans k6).weaken (by simp)).trans (only_set w8 H 11 _)
 have hsn9 := k5.of_only (only_set w8 H 11 (.iface 205 (.pointer (some ⟨S,0,none⟩)))) (by simp;omega) (fun b hb => by have := k4 b hb;simp;omega)
 have hz9 : (w8.setCell ⟨H,11,none⟩ (.iface 205 (.pointer (some ⟨S,0,none⟩)))).heap.size = w8.heap.size := by simp [World.setCell]
 obtain ⟨j1,j2⟩ := HX.out.1.loads o59 (.one (M.sndOf x.cfg (M.number ps) true true)) (.iface 205 (.pointer (some ⟨S,0,none⟩))) (S :: r8) ⟨S,r8,rfl,rfl,hsn9⟩ (fun b hb => by
   rw [hz9]
   rcases List.mem_cons.1 hb with rfl | hb
   ·exact hS
   ·exact k7 b hb)
  (fun b hb => by
   rcases List.mem_cons.1 hb with rfl | hb
   ·omega
   ·have := k4 b hb;omega)
  (hs_same k1 rfl)
 have hx : x.load = { ({ x.send t with phase := 1 } : M.Host) with giver := .one (M.sndOf x.cfg (M.number ps) true true) } := by
  rw [HH.out.2.2.1,H6.out.2.2.2.1,HX.out.2.2.2.2,H1.out.2.2.2.1]
  rfl
 rw [hx]
 exact ⟨rfl,_,⟨_,_,rfl,j1⟩,HX.out.2.1.trans j2⟩
theorem hload_3 (H : Nat) (fp : List Nat) (x : M.Host) (e : M.Entry) (im : M.B) (w : World) (h : HostIs w H fp x) (hgl : Glob w) (hS : Sep fp glb) (he : x.es[x.k]? = some e) (hi : x.images[x.k]? = some im) (ha : e.addr < 4294967296) (hol : x.out.length ≤ 900000) (hw : e.way = 3) (hnm : e.name = fb) (hi1 : im.length = 100) :
  Calls Tryz.prog 67 #[.pointer (some ⟨H,0,none⟩)] w (HPost w H fp x.load) := by
 have hle := load_batch_eq x e im he hi hw hnm
 have hlive := h.live
 have h00 := h
 obtain ⟨z,f,hfp,h⟩ := h
 obtain ⟨ge,ce,hze,e0,e1,e2,q0,q1,q2,q3,q4⟩ := (h.parts.es (by decide)).at he
 obtain ⟨nm,addr,size,pr,way⟩ := e
 obtain ⟨k,hk⟩ : ∃ k,x.k = k := ⟨_,rfl⟩
 obtain ⟨ne,hne⟩ : ∃ n,x.es.length = n := ⟨_,rfl⟩
 obtain ⟨ni,hni⟩ : ∃ n,x.images.length = n := ⟨_,rfl⟩
 simp only at q0 q1 q2 q3 q4 ha hw hle hnm
 subst hw
 subst hnm
 have c5 : w.cell? ⟨H,5,none⟩ = some (.slice (some ⟨ge,0,none⟩) ne ce) := by rw [← hne,← hze];exact cell_at h.str rfl
 have c8 : w.cell? ⟨H,8,none⟩ = some (.int .i64 k) := by rw [← hk];exact cell_at h.str rfl
 rw [hk] at q0 q1 q2 q3 q4 e1
 rw [hne] at e0 e1
 have hH := h.hlt
 have hge : ge < w.heap.size := h.live 1 ge e2
 have hk8 : ne ≤ 8 := by rw [← hne];exact h.nums.es8
 have hcf := h.nums.cfg
 have HH := LH (AI h00 (AI hgl (AI hle (AI hk (AI hni (AI hcf hlive))))))
 have HI := LH hi
 have HX0 := LH hS
 clear h h00 hgl hle hk hni hcf hlive hfp hne hze he hi e2 hS
 go_enter Tryz.func67,Tryz.ntmps67
 go_wp2_with fail
 go_region
 go_upto_region 1 with fail
 obtain ⟨A,hA⟩ : ∃ A,A = w.heap.size := ⟨_,rfl⟩
 obtain ⟨w1,hw1⟩ : ∃ w1,w1 = (w.alloc (.cells #[strB fb,.int .i64 addr,.int .i64 size,.int .u32 pr,.int .i64 3] 39)).drew := ⟨_,rfl⟩
 have hA1 : w1.heap[A]? = some (.cells #[strB fb,.int .i64 addr,.int .i64 size,.int .u32 pr,.int .i64 3] 39 (0,0)) := by rw [hw1,hA];exact heap_alloc_new w _
 have o1 : Only [] w w1 := by rw [hw1];exact ((Only.refl [] w).alloc _).drew
 rw [← hA,← hw1]
 have a1 : w1.cell? ⟨A,1,none⟩ = some (.int .i64 addr) := cell_at hA1 rfl
 have a4 : w1.cell? ⟨A,4,none⟩ = some (.int .i64 3) := cell_at hA1 rfl
 have hL9 : Calls Tryz.prog 9 #[.int .i64 3,.int .i64 addr] w1 fun e w' => e = .returned (strB (M.loadOf 3 addr)) ∧ Only [] w1 w' := load_any 3 addr w1 ((HH.out.2.1.of_only o1 (by intro b hb;simp at hb)).tabs) (by omega) ha
 obtain ⟨t,ht⟩ : ∃ t,t = M.loadOf 3 addr := ⟨_,rfl⟩
 have htl : t.length ≤ 1000 := by rw [ht];exact loadOf_len _ _
 obtain ⟨L,hL⟩ : ∃ L,L = t.length := ⟨_,rfl⟩
 rw [← ht] at hL9
 have H1 := LH (AI hA1 (AI o1 (AI hL9 (AI ht (AI hL hA)))))
 have hA0 : w.heap.size ≤ A := by omega
 rw [← hL] at htl
 clear hA1 o1 hw1 hA hL9 ht hL q0 q1 q2 q3 q4 c5 c8
 go_upto_region 2 with (first
  | (go_at_call 9;go_loud (refine H1.out.2.2.1.mono ?_;rintro e w2 ⟨rfl,o2⟩;obtain ⟨C,wc,hconv,d1,d2,oc,sc,hbc⟩ := conv_str t w2 (by rw [← H1.out.2.2.2.2.1];unfold maxLen;omega);rw [← H1.out.2.2.2.2.1] at hconv;have H2 := LH (AI o2 (AI oc hbc));clear o2 oc hbc d1 d2 sc))
  | (go_at_call 44;go_loud (have o03 : Only [] w wc := (H1.out.2.1.trans H2.out.1).trans H2.out.2.1;refine (hsend_is (some ⟨w2.heap.size,0,none⟩) L C t H fp x wc (HH.out.1.of_only o03 (fun b _ => by simp)) H2.out.2.2 H1.out.2.2.2.2.1.symm (fun e => by cases e) (by omega)).mono ?_;rintro e w3 ⟨rfl,fp3,h3,ev3⟩;have H3 := LH (AI h3 (AI (⟨o03.weaken (by simp),Grow.refl _ _⟩ : Ev w wc fp fp) (AI ev3 o03)));clear hconv h3 ev3 o03)))
 have hA3 : w3.heap[A]? = some (.cells #[strB fb,.int .i64 addr,.int .i64 size,.int .u32 pr,.int .i64 3] 39 (0,0)) := by
  have oA : Only [] w1 wc := H2.out.1.trans H2.out.2.1
  refine H3.out.2.2.1.only.heap (oA.heap H1.out.1 (by simp)) (fun hm => ?_)
  have := HH.out.2.2.2.2.2.2 A hm;omega
 have ev03 : Ev w w3 fp fp3 := H3.out.2.1.trans H3.out.2.2.1
 obtain ⟨z3,f3,hfp3,h3⟩ := H3.out.1
 have c7 : w3.cell? ⟨H,7,none⟩ = some (.int .i64 x.phase) := cell_at h3.str rfl
 have f7 : w3.frozen? ⟨H,7,none⟩ = false := free_at h3.str
 obtain ⟨h4,ev4⟩ := h3.setPhase1
 have hAH : A ≠ H := by omega
 have H3' := LH (AI hA3 (AI ev03 (AI h3 (AI hfp3 (AI h4 ev4)))))
 clear hA3 ev03 hfp3 h4 ev4 h3 a1 a4
 go_upto_region 3 with fail
 obtain ⟨w4,hw4⟩ : ∃ w4,w4 = w3.setCell ⟨H,7,none⟩ (.int .i64 1) := ⟨_,rfl⟩
 rw [← hw4]
 obtain ⟨hA3,ev03,_,hfp3,h4,ev4⟩ := H3'.out
 have o34 : Only [H] w3 w4 := by rw [hw4];exact only_set w3 H 7 _
 rw [← hw4] at h4 ev4
 have hA4 := o34.heap hA3 (by simpa using hAH)
 obtain ⟨hd4,_⟩ := h4.parts.demux (by decide)
 have c15 : w4.cell? ⟨H,15,none⟩ = some (.pointer (some ⟨z3.Dm,0,none⟩)) := cell_at h4.str rfl
 rw [← hfp3] at ev4
 have H4 := LH (AI hA4 (AI h4 (AI hd4 (ev03.trans ev4))))
 clear hw4 hA3 ev03 hfp3 h4 ev4 o34 hA4 hd4 c7 f7
 go_upto_region 4 with (go_at_call 53;refine (switch_any _ _ _ _ _ _ 2 w4 H4.out.2.2.1).mono ?_;rintro e w5 ⟨rfl,hd5,o5⟩;have H5 := LH (AI hd5 o5);clear hd5 o5)
 obtain ⟨hz5,hp5,he5⟩ := H4.out.2.1.switched 2 H5.out.2 (fun b hb => by simp at hb;exact .inr hb) H5.out.1
 have hs5 := H5.out.2.heap H4.out.2.1.str (by simpa using Ne.symm H4.out.2.1.dmH.1)
 have hAD : A ≠ z3.Dm := fun hh => by
  have := H4.out.2.2.1.str
  have hm : z3.Dm ∈ fp3 := by
   obtain ⟨_,_,_,hfp3,_⟩ := H3'.out
   rw [hfp3];exact mem_allF.2 ⟨7,by omega,by rw [(H4.out.2.1.parts.demux (by decide)).2];simp⟩
  have hAw : A < wc.heap.size := by have := heap_lt H1.out.1;exact Nat.lt_of_lt_of_le this (H2.out.1.trans H2.out.2.1).size
  rcases H3.out.2.2.1.grow _ hm with h' | h'
  ·have := HH.out.2.2.2.2.2.2 _ h';omega
  ·omega
 have hA5 := H5.out.2.heap H4.out.1 (by simpa using hAD)
 have h5 : HostAt w5 H { z3 with mode := 2 } (upd f3 7 (f3 7)) { x.send t with phase := 1 } := ⟨hs5,H4.out.2.1.f0,hz5,hp5,H4.out.2.1.nums.cfg,H4.out.2.1.nums.ma0,H4.out.2.1.nums.ma1,H4.out.2.1.nums.mb0,H4.out.2.1.nums.mb1,H4.out.2.1.nums.k,H4.out.2.1.nums.es8,H4.out.2.1.nums.up⟩
 have ev5 : Ev w w5 fp (allF (upd f3 7 (f3 7))) := by
  have := H4.out.2.2.2
  obtain ⟨_,_,_,hfp3,_⟩ := H3'.out
  rw [hfp3] at this
  exact this.trans he5
 obtain ⟨gi,ci,u,hzi,i0,i1,i2,cu,hu⟩ := (h5.parts.im (by decide)).at (k := x.k) (im := im) HI.out
 obtain ⟨ai,cc,rfl,u1,u2,u3,u4,u5⟩ := hu
 have c6 : w5.cell? ⟨H,6,none⟩ = some (.slice (some ⟨gi,0,none⟩) ni ci) := by
  have := cell_at h5.str (i := 6) rfl
  rw [this]
  exact congrArg some (hzi.trans (by rw [show ({ x.send t with phase := 1 } : M.Host).images.length = ni from HH.out.2.2.2.2.1]))
 have c8 : w5.cell? ⟨H,8,none⟩ = some (.int .i64 k) := by rw [← HH.out.2.2.2.1];exact cell_at h5.str rfl
 have i0' : ni ≤ ci := HH.out.2.2.2.2.1 ▸ i0
 have i1' : k < ni := HH.out.2.2.2.1 ▸ HH.out.2.2.2.2.1 ▸ i1
 have cu' : w5.cell? ⟨gi,k,none⟩ = some (.slice ai im.length cc) := HH.out.2.2.2.1 ▸ cu
 have a4 : w5.cell? ⟨A,4,none⟩ = some (.int .i64 3) := cell_at hA5 rfl
 have hgiH : gi ≠ H := fun hh => h5.notH (j := 2) (by decide) (hh ▸ i2)
 have hcc : cc ≤ 9223372036854775807 := by unfold maxLen at u3;omega
 have hBS := bsof_any x.cfg ai cc im w5.drew HH.out.2.2.2.2.2.1 hi1 ((HH.out.2.1.of_ev HX0.out ev5).of_none ((Only.refl [] w5).drew)) u1.drew (by omega) hcc u4 (fun ad e => h5.live 2 _ (u5 ad e))
 rw [hi1] at cu' u2
 have c0 : w5.cell? ⟨H,0,none⟩ = some (.int .i64 x.cfg.tries) := cell_at h5.str rfl
 have c1 : w5.cell? ⟨H,1,none⟩ = some (.int .i64 x.cfg.wait) := cell_at h5.str rfl
 have a0 : w5.cell? ⟨A,0,none⟩ = some (strB fb) := cell_at hA5 rfl
 have HX := LH (AI h5 (AI ev5 (AI hA5 hBS)))
 clear h5 ev5 hA5 hBS hs5 hz5 hp5 he5 hAD hzi i0 i1 i2 cu u1 u3 u4 u5
 go_upto_region 5 with fail
 go_region_held3 (fun w' => w'.cell? ⟨H,0,none⟩ = some (.int .i64 x.cfg.tries) ∧ w'.cell? ⟨H,1,none⟩ = some (.int .i64 x.cfg.wait) ∧ w'.cell? ⟨A,0,none⟩ = some (strB fb) ∧ w'.cell? ⟨H,6,none⟩ = some (.slice (some ⟨gi,0,none⟩) ni ci) ∧ w'.cell? ⟨H,8,none⟩ = some (.int .i64 k) ∧ w'.cell? ⟨gi,k,none⟩ = some (.slice ai 100 cc)) (first | exact ⟨c0,c1,a0,c6,c8,cu'⟩ | exact ⟨H8.out.1,H8.out.2.1,H8.out.2.2.1,H8.out.2.2.2.1,H8.out.2.2.2.2.1,H8.out.2.2.2.2.2⟩ | exact keep6 (w1 := w7) (only_set w7 H 11 _) H8.out hAH hgiH | go_keep) ((go_at_call 89;go_loud (refine HX.out.2.2.2.mono ?_;rintro e w7 ⟨F,rfl,hbs,hbf,o7⟩;have o57 := ((Only.refl [] w5).drew).trans o7;have h7H := o57.heap HX.out.1.str (by simp);have c11 : w7.cell? ⟨H,11,none⟩ = some z3.giver := cell_at h7H rfl;have f11 : w7.frozen? ⟨H,11,none⟩ = false := free_at h7H;have H8 := LH (AI (o57.cell c0 (by simp)) (AI (o57.cell c1 (by simp)) (AI (o57.cell a0 (by simp)) (AI (o57.cell c6 (by simp)) (AI (o57.cell c8 (by simp)) (o57.cell cu' (by simp)))))));have H7 := LH (AI h7H (AI hbs (AI hbf o57)));clear h7H hbs hbf o7 o57)))
 go_wp2_with fail
 go_end0
 obtain ⟨k1,k2,k3,k4⟩ := H7.out
 have h5s := HX.out.1.hlt
 have s57 := k4.size
 have o59 : Only [H] w5 (w7.setCell ⟨H,11,none⟩ (.iface 199 (.pointer (some ⟨F.X,0,none⟩)))) := (k4.weaken (by simp)).trans (only_set w7 H 11 _)
 have hsn9 := k2.of_only (only_set w7 H 11 (.iface 199 (.pointer (some ⟨F.X,0,none⟩)))) (fun b hb => by have := k3 b hb;have e : w5.drew.heap.size = w5.heap.size := rfl;simp;omega)
 obtain ⟨j1,j2⟩ := HX.out.1.loads o59 (.batch (M.bsndOf x.cfg fb im)) (.iface 199 (.pointer (some ⟨F.X,0,none⟩))) F.all ⟨F,rfl,rfl,hsn9⟩ hsn9.live (fun b hb => k3 b hb) (hs_same k1 rfl)
 have hx : x.load = { ({ x.send t with phase := 1 } : M.Host) with giver := .batch (M.bsndOf x.cfg fb im) } := by
  rw [HH.out.2.2.1,H1.out.2.2.2.1]
 rw [hx]
 exact ⟨rfl,_,⟨_,_,rfl,j1⟩,HX.out.2.1.trans j2⟩
theorem hload_is (H : Nat) (fp : List Nat) (x : M.Host) (w : World) (h : HostIs w H fp x) (hgl : Glob w) (hS : Sep fp glb) (hk : LoadOk x) :
  Calls Tryz.prog 67 #[.pointer (some ⟨H,0,none⟩)] w (HPost w H fp x.load) := by
 obtain ⟨e,im,he,hi,ha,ho,hw⟩ := hk
 rcases hw with ⟨h1,h2,h3⟩ | ⟨h1 | h1,h2,h3⟩
 ·exact hload_3 H fp x e im w h hgl hS he hi ha ho h1 h2 h3
 ·exact hload_0 H fp x e im w h hgl he hi ha ho h1 h2 h3
 ·exact hload_1 H fp x e im w h hgl he hi ha ho h1 h2 h3
end Go.Proofs.YtplaamfoeaaaiaaGreatDoor
