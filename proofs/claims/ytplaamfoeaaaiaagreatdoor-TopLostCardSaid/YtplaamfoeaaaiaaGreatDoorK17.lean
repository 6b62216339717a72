/- A part of the proofs of the laws of lifelinetop (TopNever, TopLost, TopRoom): contracts of functions that these laws reach. No condition of its own. -/
import Derived.Test.YtplaamfoeaaaiaaGreatDoorK02
import Derived.Test.YtplaamfoeaaaiaaGreatDoorK16
import Derived.Deep.RegionLaw
import Derived.Deep.DeepCutAuto
set_option maxRecDepth 100000
set_option maxHeartbeats 8000000
set_option linter.unusedVariables false
namespace Go.Proofs.YtplaamfoeaaaiaaGreatDoor
open Go.RowKit
def ScanTo (wz : World) (g n c : Nat) (k : Bool) (st : Nat) (PP : Nat → Option Addr → Nat → Nat → World → Prop) : Prop :=
 ∀ w',Only [] wz w' → Calls Tryz.prog 254 #[.slice (some ⟨g,0,none⟩) n c,.bool k] w' fun e w'' => ∃ x sa sn sc,e = .returned (.tuple #[.agg #[.int .u8 (x : Nat),.slice sa sn sc],.int .i64 st]) ∧ PP x sa sn sc w'' ∧ Only [] w' w'' ∧ (∀ ad,sa = some ad → w'.heap.size ≤ ad.block ∧ ad.block < w''.heap.size)
def Comes4 (r : M.Rcv) (B : List UInt8) : Prop :=
 (B.getD 0 0 = 4 ∧ r.close = true) ∨
 ((B.getD 0 0 = 1 ∨ B.getD 0 0 = 2) ∧ (B.length ≤ 2 ∨ (2 < B.length ∧ B.getD 1 0 ≠ 255 - B.getD 2 0) ∨ (∃ L,(L = if B.getD 0 0 = 1 then 128 else 1024) ∧ 3 + L + (if r.crc then 2 else 1) ≤ B.length ∧ B.getD 1 0 = 255 - B.getD 2 0 ∧ B.getD 1 0 = r.number ∧ M.trailer ((B.drop 3).take L) r.crc = (B.drop (3 + L)).take (if r.crc then 2 else 1))))
theorem sizeB_of {x : UInt8} (k : Bool) (h : x = 1 ∨ x = 2) : M.sizeB x k = 3 + (if x = 1 then 128 else 1024) + (if k = true then 2 else 1) := by
 rcases h with rfl | rfl <;> cases k <;> rfl
theorem mscan_cons {B : List UInt8} (k : Bool) (h0 : 0 < B.length) (h12 : B.getD 0 0 = 1 ∨ B.getD 0 0 = 2) :
  M.scan B k = (if 2 < B.length ∧ B.getD 1 0 ≠ 255 - B.getD 2 0 then .bad else if B.length < M.sizeB (B.getD 0 0) k then .need else
   if M.trailer ((B.take (M.sizeB (B.getD 0 0) k - (if k = true then 2 else 1))).drop 3) k ≠ (B.take (M.sizeB (B.getD 0 0) k)).drop (3 + ((B.take (M.sizeB (B.getD 0 0) k - (if k = true then 2 else 1))).drop 3).length) then .bad else .good ⟨B.getD 1 0,(B.take (M.sizeB (B.getD 0 0) k - (if k = true then 2 else 1))).drop 3⟩) := by
 cases B with
 | nil => simp at h0
 | cons x r =>
  have hx : (x :: r).getD 0 0 = x := rfl
  rw [hx] at h12 ⊢
  have hs := sizeB_of k h12
  have hne : M.sizeB x k ≠ 0 := by rw [hs];cases k <;> simp <;> omega
  show (if M.sizeB x k = 0 then M.Scan.bad else _) = _
  rw [if_neg hne]
theorem mscan_need {B : List UInt8} (k : Bool) (h0 : 0 < B.length) (h12 : B.getD 0 0 = 1 ∨ B.getD 0 0 = 2) (hl : B.length ≤ 2) : M.scan B k = .need := by
 rw [mscan_cons k h0 h12,if_neg (by omega),if_pos (by rw [sizeB_of k h12];split <;> split <;> omega)]
theorem mscan_bad {B : List UInt8} (k : Bool) (h12 : B.getD 0 0 = 1 ∨ B.getD 0 0 = 2) (hl : 2 < B.length) (hne : B.getD 1 0 ≠ 255 - B.getD 2 0) : M.scan B k = .bad := by
 rw [mscan_cons k (by omega) h12,if_pos ⟨hl,hne⟩]
theorem mscan_good {B : List UInt8} (k : Bool) (L : Nat) (h12 : B.getD 0 0 = 1 ∨ B.getD 0 0 = 2) (hL : L = if B.getD 0 0 = 1 then 128 else 1024) (hl : 3 + L + (if k = true then 2 else 1) ≤ B.length) (hne : B.getD 1 0 = 255 - B.getD 2 0) (htr : M.trailer ((B.drop 3).take L) k = (B.drop (3 + L)).take (if k = true then 2 else 1)) : M.scan B k = .good ⟨B.getD 1 0,(B.drop 3).take L⟩ := by
 have hs := sizeB_of k h12
 rw [← hL] at hs
 obtain ⟨t,ht⟩ : ∃ t,t = (if k = true then 2 else 1) := ⟨_,rfl⟩
 have ht1 : 1 ≤ t ∧ t ≤ 2 := by rw [ht];split <;> omega
 rw [← ht] at hs hl htr
 rw [mscan_cons k (by omega) h12,if_neg (fun e => e.2 hne),if_neg (by omega),← ht,hs]
 have e1 : (B.take (3 + L + t - t)).drop 3 = (B.drop 3).take L := by rw [Nat.add_sub_cancel,List.drop_take,Nat.add_sub_cancel_left]
 have e2 : ((B.drop 3).take L).length = L := by simp;omega
 have e3 : (B.take (3 + L + t)).drop (3 + L) = (B.drop (3 + L)).take t := by rw [List.drop_take,Nat.add_sub_cancel_left]
 rw [e1,e2,e3,if_neg (fun h => h htr)]
theorem rput_scan {r : M.Rcv} {bs B : List UInt8} (hov : r.over = false) (hne : bs ≠ []) (hB : B = r.buffer ++ bs) (h12 : B.getD 0 0 = 1 ∨ B.getD 0 0 = 2) :
  r.put bs = (match M.scan B r.crc with
   | .need => ([],{ r with left := r.wait,buffer := B })
   | .bad => ([21],{ r with left := r.wait,buffer := [] })
   | .good x => M.Rcv.take { r with left := r.wait,buffer := [] } x) := by
 unfold M.Rcv.put
 rw [if_neg (by simp [hov,hne])]
 simp only [← hB]
 have n4 : B.getD 0 0 ≠ 4 := by rcases h12 with h | h <;> rw [h] <;> decide
 have n24 : B.getD 0 0 ≠ 24 := by rcases h12 with h | h <;> rw [h] <;> decide
 rw [if_neg (fun e => n4 e.1),if_neg (fun e => n24 e.1),if_neg (fun e => n24 e.1)]
 cases M.scan B r.crc <;> rfl
theorem rput_any (R : Nat) (ab : Option Addr) (cb : Nat) (vd : Value) (r : M.Rcv) (a : Option Addr) (n c : Nat) (bs : List UInt8) (w : World) (h : Rcved w R (.slice ab r.buffer.length cb) vd r) (hb : Bytes w a bs) (hn : bs.length = n) (h0 : 0 < n) (hnil : a = none → c = 0) (hov : r.over = false) (haw : Away a (rfp R (.slice ab r.buffer.length cb) vd)) (hl : r.buffer.length + n ≤ 1099511627776) (hdl : r.data.length + 1024 ≤ 1099511627776) (hk : r.blocks + 1 ≤ 1099511627776) (hc4 : Comes4 r (r.buffer ++ bs)) :
  Calls Tryz.prog 246 #[.pointer (some ⟨R,0,none⟩),.slice a n c] w (RPost w R (.slice ab r.buffer.length cb) vd (r.put bs)) := by
 have c1 : w.cell? ⟨R,1,none⟩ = some (.int .i64 r.wait) := cell_at h.str rfl
 have c3 : w.cell? ⟨R,3,none⟩ = some (.int .i64 r.left) := cell_at h.str rfl
 have c7 : w.cell? ⟨R,7,none⟩ = some (.slice ab r.buffer.length cb) := cell_at h.str rfl
 have c11 : w.cell? ⟨R,11,none⟩ = some (.bool false) := by rw [← hov];exact cell_at h.str rfl
 have f3 : w.frozen? ⟨R,3,none⟩ = false := free_at h.str
 have hlf := h.lf
 have hwt := h.wt
 obtain ⟨K,hK⟩ : ∃ K,K = r.buffer.length := ⟨_,rfl⟩
 obtain ⟨B,hB⟩ : ∃ B,B = r.buffer ++ bs := ⟨_,rfl⟩
 obtain ⟨x0,hx0⟩ : ∃ x0,x0 = B.getD 0 0 := ⟨_,rfl⟩
 have hBl : B.length = K + n := by rw [hB,hK];simp [hn]
 have hbu : w.ownsRow 0 5 1 (.slice ab K cb) K (r.buffer.map byteV) := by rw [hK];exact h.buf
 have o3 : Only [R] w (w.setCell ⟨R,3,none⟩ (.int .i64 r.wait)) := (Only.refl _ _).setCell (by simp) _
 have hbu3 : (w.setCell ⟨R,3,none⟩ (.int .i64 r.wait)).ownsRow 0 5 1 (.slice ab K cb) K (r.buffer.map byteV) := ownsRow_only hbu o3 (fun g e hg => by simp at hg;subst hg;rw [hK] at e;exact h.sb e)
 have hb3 : Bytes (w.setCell ⟨R,3,none⟩ (.int .i64 r.wait)) a bs := hb.of_only o3 (.inr fun ad e hx => haw ad e (by simp at hx;simp [rfp,hx]))
 have hd0 : ((n : Int) == 0) = false := by simp;omega
 rw [← hB] at hc4
 rw [← hK] at c7 hl h ⊢
 have hRl := heap_lt h.str
 have hvR : (Value.slice ab K cb).ownBlock ≠ some R := h.sb
 have H := LH (AI h (AI hb3 (AI hn (AI hbu3 (AI hB (AI hK hBl))))))
 have HC4 := LH hc4
 have HNL := LH hnil
 have hmid : ∀ g cp w1,w1.ownsRow 0 5 1 (.slice (some ⟨g,0,none⟩) (K + n) cp) (K + n) (B.map byteV) → (w.setCell ⟨R,3,none⟩ (.int .i64 r.wait)).grownBy w1 (Value.slice ab K cb).ownBlock → ((Value.slice ab K cb).ownBlock = some g ∨ w.heap.size ≤ g) →
   Rcved (w1.setCell ⟨R,7,none⟩ (.slice (some ⟨g,0,none⟩) (K + n) cp)) R (.slice (some ⟨g,0,none⟩) (K + n) cp) vd { r with left := r.wait,buffer := B } ∧ Ev w (w1.setCell ⟨R,7,none⟩ (.slice (some ⟨g,0,none⟩) (K + n) cp)) (rfp R (.slice ab K cb) vd) (rfp R (.slice (some ⟨g,0,none⟩) (K + n) cp) vd) ∧ g ≠ R ∧ w1.cell? ⟨R,7,none⟩ = some (.slice ab K cb) ∧ w1.frozen? ⟨R,7,none⟩ = false ∧ w1.cell? ⟨g,0,none⟩ = some (byteV x0) := by
  intro g cp w1 q1 q2 q3
  have h := H.out.1
  have o1 : Only (R :: ownL (.slice ab K cb)) w w1 := (o3.weaken (by simp)).trans ((only_grown q2).weaken (by intro b hb;simp [hb]))
  have hgR : g ≠ R := by
   rcases q3 with e | e
   ·intro e';exact h.sb (e' ▸ e)
   ·omega
  have oset : Only [R] w1 (w1.setCell ⟨R,7,none⟩ (.slice (some ⟨g,0,none⟩) (K + n) cp)) := only_set _ _ _ _
  have o2 : Only (R :: ownL (.slice ab K cb)) w (w1.setCell ⟨R,7,none⟩ (.slice (some ⟨g,0,none⟩) (K + n) cp)) := o1.trans (oset.weaken (by simp))
  have hs1 : w1.heap[R]? = some (.cells (rcvA { r with left := r.wait } (.slice ab K cb) vd) 308 (0,0)) := (only_grown q2).heap (hs_same h.str rfl) (fun hb => h.sb (mem_ownL.1 hb))
  have hby := (Bytes.of_owns q1).1.cell _ rfl 0 (by omega)
  rw [Addr.add_lit,← hx0] at hby
  refine ⟨h.turn (hs_same hs1 rfl) ?_ (ownsRow_only h.dat o2 (fun g' e hg => ?_)) rfl (by simpa [Value.ownBlock] using hgR) (fun g' e e' => ?_) rfl rfl h.tr ⟨hwt.1,hwt.2⟩ (by show B.length ≤ _;omega),⟨o2.weaken (by intro b hb;simp [rfp] at hb ⊢;rcases hb with hb | hb <;> simp [hb]),fun b hb => ?_⟩,hgR,cell_at hs1 rfl,free_at hs1,hby⟩
  ·show RowB _ _ B
   unfold RowB
   rw [hBl]
   exact ownsRow_only q1 oset (fun g' e => by simp [Value.ownBlock] at e;subst e;simpa using hgR)
  ·simp only [List.mem_cons,mem_ownL] at hg
   rcases hg with hg | hg
   ·subst hg;exact h.sd e
   ·exact h.sbd g' hg e
  ·simp [Value.ownBlock] at e
   subst e
   rcases q3 with h' | h'
   ·exact h.sbd g h' e'
   ·have := h.dat.live g e';omega
  ·simp only [rfp,List.mem_cons,List.mem_append,mem_ownL] at hb ⊢
   rcases hb with hb | hb | hb
   ·exact .inl (.inl hb)
   ·simp [Value.ownBlock] at hb
    subst hb
    exact q3.imp (fun e => .inr (.inl e)) id
   ·exact .inl (.inr (.inr hb))
 have HMID := LH hmid
 have HX := LH hx0
 clear h hb hn hbu o3 hbu3 hb3 hmid hc4 hnil hK hB hBl haw hx0
 go_enter Tryz.func246,Tryz.ntmps246
 go_upto_region 6 with (at_builtin;(refine wpList_appAt _ rfl (.tmp 28) (.tmp 29) rfl 0 (.slice ab K cb) K r.buffer rfl H.out.2.2.2.1 a n c bs rfl H.out.2.1 H.out.2.2.1 HNL.out B H.out.2.2.2.2.1.symm (K + n) rfl (by omega) (Nat.zero_le _) ?_);intro a' c' w1 q1 q2 q3;obtain ⟨g,cg,hv,_⟩ := owns_some q1 (by omega);simp only [Value.slice.injEq,true_and] at hv;obtain ⟨rfl,rfl⟩ := hv;have hm := HMID.out g c' w1 q1 q2 ((q3 g rfl).imp id (by intro h;simpa using h));obtain ⟨m1,m2,m3,m4,m5,m6⟩ := hm;have HM := LH (AI m1 (AI m2 q1));clear m1 m2 q1 q2 q3)
 obtain ⟨wz,hwz⟩ : ∃ wz,wz = w1.setCell ⟨R,7,none⟩ (.slice (some ⟨g,0,none⟩) (K + n) c') := ⟨_,rfl⟩
 have hz : Rcved wz R (.slice (some ⟨g,0,none⟩) (K + n) c') vd { r with left := r.wait,buffer := B } := by rw [hwz];exact HM.out.1
 have ez : Ev w wz (rfp R (.slice ab K cb) vd) (rfp R (.slice (some ⟨g,0,none⟩) (K + n) c') vd) := by rw [hwz];exact HM.out.2.1
 rw [← hwz]
 clear hwz m3 m4 m5 m6 c1 c3 c7 c11 f3
 have c0 : wz.cell? ⟨R,0,none⟩ = some (.bool r.crc) := cell_at hz.str rfl
 have c6 : wz.cell? ⟨R,6,none⟩ = some (.bool r.close) := cell_at hz.str rfl
 have c7 : wz.cell? ⟨R,7,none⟩ = some (.slice (some ⟨g,0,none⟩) (K + n) c') := cell_at hz.str rfl
 have f7 : wz.frozen? ⟨R,7,none⟩ = false := free_at hz.str
 have HZ := LH (AI hz ez)
 have hbz : Bytes wz (some ⟨g,0,none⟩) B ∧ K + n ≤ c' := by
  have h1 : wz.ownsRow 0 5 1 (.slice (some ⟨g,0,none⟩) (K + n) c') (K + n) (B.map byteV) := by have h2 : wz.ownsRow 0 5 1 (.slice (some ⟨g,0,none⟩) (K + n) c') B.length (B.map byteV) := hz.buf;rw [H.out.2.2.2.2.2.2] at h2;exact h2
  exact ⟨(Bytes.of_owns h1).1,(Bytes.of_owns h1).2.2.1⟩
 have HBZ := LH hbz
 clear hz ez hbz
 rcases HC4.out with ⟨e4,ecl⟩ | ⟨e12,hrest⟩
 ·have hput : r.put bs = M.Rcv.end_ { r with left := r.wait,buffer := B } 0 [6] := by
   unfold M.Rcv.put
   have hbne : bs ≠ [] := by intro e;have := H.out.2.2.1;rw [e] at this;simp at this;omega
   rw [if_neg (by simp [hov,hbne])]
   simp only [← H.out.2.2.2.2.1]
   rw [if_pos ⟨e4,ecl⟩]
  have HP := LH hput
  rw [← HX.out] at e4
  subst e4
  rw [ecl] at c6
  clear hput ecl
  go_wp2_with (first | (go_at_call 253;refine (rend_any R _ vd _ 0 .nilIface _ _ _ _ (HZ.out.1.of_none ((Only.refl [] wz).alloc _)) rfl).mono ?_;rintro e w6 ⟨rfl,h6,o6⟩))
  go_ret
  rw [HP.out]
  have hfr : ∀ b,(Value.slice (some ⟨wz.heap.size,0,none⟩) 1 1).ownBlock = some b → b ∉ rfp R (.slice (some ⟨g,0,none⟩) (K + n) c') vd := fun b e hb => by
   simp [Value.ownBlock] at e
   subst e
   have := HZ.out.1.live _ hb
   simp at this
  exact ⟨_,_,vd,rfl,(out_one w wz 6 6 rfl HZ.out.2.size).of_only o6 (fun b e hb => hfr b e (by simp at hb;simp [rfp,hb])),h6,(HZ.out.2.trans (Ev.of_only ((Only.refl [] wz).alloc _) (by simp))).trans (Ev.of_only o6 (by simp [rfp])),hfr⟩
 ·have hB0 : 0 < B.length := by rw [H.out.2.2.2.2.2.2];omega
  have hbne : bs ≠ [] := by intro e;have := H.out.2.2.1;rw [e] at this;simp at this;omega
  have hps := rput_scan hov hbne H.out.2.2.2.2.1 e12
  have hbl := H.out.2.2.2.2.2.2
  have hsc : ∃ st PP,ScanTo wz g (K + n) c' r.crc st PP ∧ ((st = 0 ∧ r.put bs = ([],{ r with left := r.wait,buffer := B })) ∨ (st = 1 ∧ r.put bs = ([21],{ r with left := r.wait,buffer := [] })) ∨ (st = 2 ∧ ∀ x sa sn sc w',PP x sa sn sc w' → ∃ ds Bb,x = r.number.toNat ∧ sa = some ⟨Bb,0,none⟩ ∧ wz.heap.size ≤ Bb ∧ Bytes w' sa ds ∧ ds.length = sn ∧ 0 < sn ∧ sn ≤ 1024 ∧ r.put bs = M.Rcv.take { r with left := r.wait,buffer := [] } ⟨r.number,ds⟩)) := by
   have hse : M.sizeB (B.getD 0 0) r.crc ≠ 0 := by rw [sizeB_of _ e12];split <;> split <;> omega
   rcases hrest with hl2 | ⟨hl2,hne⟩ | ⟨L,hL,hle,hne,hnum,htr⟩
   ·refine ⟨0,fun _ _ _ _ _ => True,fun w' o => ?_,.inl ⟨rfl,by rw [hps,mscan_need _ hB0 e12 hl2]⟩⟩
    refine (scan_need g 0 B (K + n) c' r.crc w' (HBZ.out.1.of_only o (.inr (by intro ad e;simp))) hbl (by omega) (by omega) hse).mono ?_
    rintro e w'' ⟨rfl,o2⟩
    exact ⟨0,none,0,0,rfl,trivial,o2,fun ad e => by cases e⟩
   ·refine ⟨1,fun _ _ _ _ _ => True,fun w' o => ?_,.inr (.inl ⟨rfl,by rw [hps,mscan_bad _ e12 hl2 hne]⟩)⟩
    refine (scan_bad g 0 B (K + n) c' r.crc w' (HBZ.out.1.of_only o (.inr (by intro ad e;simp))) hbl (by omega) hse hne).mono ?_
    rintro e w'' ⟨rfl,o2⟩
    exact ⟨0,none,0,0,rfl,trivial,o2,fun ad e => by cases e⟩
   ·have hL1 : 1 ≤ L ∧ L ≤ 1024 := by rw [hL];split <;> omega
    have hdl : ((B.drop 3).take L).length = L := by simp;omega
    refine ⟨2,fun x sa sn _ w' => x = r.number.toNat ∧ sn = L ∧ Bytes w' sa ((B.drop 3).take L) ∧ ∃ Bb,sa = some ⟨Bb,0,none⟩ ∧ wz.heap.size ≤ Bb,fun w' o => ?_,.inr (.inr ⟨rfl,?_⟩)⟩
    ·refine (scan_good g 0 B (K + n) c' (3 + L + (if r.crc = true then 2 else 1)) L (if r.crc = true then 2 else 1) r.crc w' (HBZ.out.1.of_only o (.inr (by intro ad e;simp))) hbl HBZ.out.2 (by rw [sizeB_of _ e12,← hL]) rfl rfl hL1.1 hL1.2 (by rw [← hbl];exact hle) hne _ rfl htr).mono ?_
     rintro e w'' ⟨v,rfl,ho,o2⟩
     obtain ⟨gs,cs,hv,hg1,hg2,_⟩ := owns_some ho (by rw [hdl];omega)
     subst hv
     rw [hdl] at ho ⊢
     refine ⟨r.number.toNat,_,L,cs,by rw [hnum];rfl,⟨rfl,rfl,(Bytes.of_owns (by have h := ho;unfold Out at h;rw [hdl] at h;exact h)).1,gs,rfl,Nat.le_trans o.size hg1⟩,o2,fun ad e => by cases e;exact ⟨hg1,hg2⟩⟩
    ·rintro x sa sn sc w' ⟨rfl,rfl,hb,Bb,rfl,hB1⟩
     exact ⟨_,Bb,rfl,rfl,hB1,hb,hdl,by omega,hL1.2,by rw [hps,mscan_good _ _ e12 hL hle hne htr,hnum]⟩
  obtain ⟨st,PP,hsc1,hst⟩ := hsc
  have HSC := LH (AI hsc1 hst)
  rw [← HX.out] at e12
  have d4 : ((x0.toNat : Int) == 4) = false := by rcases e12 with rfl | rfl <;> decide
  have d24 : ((x0.toNat : Int) == 24) = false := by rcases e12 with rfl | rfl <;> decide
  have hRz := heap_lt HZ.out.1.str
  clear hsc1 hst hps hbl hB0 hbne hrest
  go_upto_region 12 with fail
  go_cut [6,7] (fun s6 s7 wx => ∃ b x sa sn sc,s6 = .pointer (some ⟨b,0,none⟩) ∧ s7 = .int .i64 st ∧ wz.heap.size ≤ b ∧ wx.heap[b]? = some (.cells #[.int .u8 (x : Nat),.slice sa sn sc] 234 (0,0)) ∧ (∃ wp,PP x sa sn sc wp ∧ Only [b] wp wx ∧ Only [] wz wp ∧ (∀ ad,sa = some ad → ad.block ≠ b)))
  case first =>
   go_region_law (first | (go_simp;go_at_call 254;refine (HSC.out.1 _ (by first | exact (Only.refl [] wz).drew | exact ((Only.refl [] wz).alloc _).drew)).mono ?_;rintro z w5 ⟨x,sa,sn,sc,rfl,hp5,ho5,hfr5⟩;have oz5 : Only [] wz w5 := Only.trans (by first | exact (Only.refl [] wz).drew | exact ((Only.refl [] wz).alloc _).drew) ho5;have c75 : w5.cell? ⟨R,7,none⟩ = some (.slice (some ⟨g,0,none⟩) (K + n) c') := oz5.cell c7 (by simp);try (have za : w5.heap[wz.heap.size]? = some (.cells #[.int .u8 0,.slice none 0 0] 234 (0,0)) := ho5.heap (by exact heap_alloc_new wz _) (by simp);have za0 : w5.cell? ⟨wz.heap.size,0,none⟩ = some (.int .u8 0) := cell_at za rfl;have za1 : w5.cell? ⟨wz.heap.size,1,none⟩ = some (.slice none 0 0) := cell_at za rfl;have fa0 : w5.frozen? ⟨wz.heap.size,0,none⟩ = false := free_at za;have fa1 : w5.frozen? ⟨wz.heap.size,1,none⟩ = false := free_at za)))
   all_goals go_wp2_with fail
   all_goals go_meet
   all_goals first
    | exact ⟨w5.heap.size,x,sa,sn,sc,rfl,rfl,oz5.size,heap_alloc_new w5 _,w5,hp5,(Only.refl _ w5).alloc _,oz5,fun ad e => by have := (hfr5 ad e).2;omega⟩
    | exact ⟨wz.heap.size,x,sa,sn,sc,rfl,rfl,Nat.le_refl _,hs_same (hs_same za rfl) rfl,w5,hp5,((Only.refl _ w5).setCell (by simp) _).setCell (by simp) _,oz5,fun ad e => by have := (hfr5 ad e).1;simp at this;omega⟩
  case rest =>
   obtain ⟨b,x,sa,sn,sc,rfl,rfl,hbz,hbb,wp,hpp,owp,ozp,hne⟩ := hcut
   have hbw : b ∉ rfp R (.slice (some ⟨g,0,none⟩) (K + n) c') vd := fun hb => by
    have := HZ.out.1.live b hb
    omega
   have hzc : Rcved wc R (.slice (some ⟨g,0,none⟩) (K + n) c') vd { r with left := r.wait,buffer := B } := (HZ.out.1.of_none ozp).of_only owp (fun b' hb' hx => by simp at hx;subst hx;exact hbw hb')
   have ezc : Ev w wc (rfp R (.slice ab K cb) vd) (rfp R (.slice (some ⟨g,0,none⟩) (K + n) c') vd) := by
    refine ⟨⟨owp.os.trans (ozp.os.trans HZ.out.2.only.os),owp.tape.trans (ozp.tape.trans HZ.out.2.only.tape),owp.output.trans (ozp.output.trans HZ.out.2.only.output),Nat.le_trans HZ.out.2.size (Nat.le_trans ozp.size owp.size),fun k hk hn => ?_⟩,HZ.out.2.grow⟩
    have hkz := Nat.lt_of_lt_of_le hk HZ.out.2.size
    rw [owp.block k (Nat.lt_of_lt_of_le hkz ozp.size) (by simp;omega),ozp.block k hkz (by simp)]
    exact HZ.out.2.only.block k hk hn
   have c7c : wc.cell? ⟨R,7,none⟩ = some (.slice (some ⟨g,0,none⟩) (K + n) c') := cell_at hzc.str rfl
   have f7c : wc.frozen? ⟨R,7,none⟩ = false := free_at hzc.str
   have HC := LH (AI hzc (AI ezc (AI hpp (AI owp (AI ozp hne)))))
   have b0 : wc.cell? ⟨b,0,none⟩ = some (.int .u8 x) := cell_at hbb rfl
   have b1 : wc.cell? ⟨b,1,none⟩ = some (.slice sa sn sc) := cell_at hbb rfl
   have hbR : b ≠ R := fun e => hbw (by simp [rfp,e])
   clear hzc ezc hpp owp ozp hne hbb c7 c0 c6 f7
   rcases HSC.out.2 with ⟨rfl,hp⟩ | ⟨rfl,hp⟩ | ⟨rfl,hp⟩
   ·have HP := LH hp
    clear hp b0 b1
    go_wp2_with fail
    go_ret
    rw [HP.out]
    exact ⟨_,_,vd,rfl,Out.nil _ _,HC.out.1,HC.out.2.1,fun g e => by simp [Value.ownBlock] at e⟩
   ·have HP := LH hp
    have o7 : Only [R] wc (wc.setCell ⟨R,7,none⟩ (.slice none 0 0)) := only_set _ _ _ _
    have h7 : Rcved (wc.setCell ⟨R,7,none⟩ (.slice none 0 0)) R (.slice none 0 0) vd { r with left := r.wait,buffer := [] } := by
     have hz := HC.out.1
     exact hz.turn (hs_same hz.str rfl) (RowB.nil _) (ownsRow_only hz.dat o7 (fun g e hg => by simp at hg;subst hg;exact hz.sd e)) rfl (by simp [Value.ownBlock]) (fun g e => by simp [Value.ownBlock] at e) rfl rfl hz.tr ⟨hwt.1,hwt.2⟩ (by simp)
    have H7 := LH h7
    clear hp b0 b1 h7
    go_wp2_with fail
    go_ret
    rw [HP.out]
    have e7 : Ev w ((wc.setCell ⟨R,7,none⟩ (.slice none 0 0)).alloc (.cells #[.int .u8 21] 5)) (rfp R (.slice ab K cb) vd) (rfp R (.slice none 0 0) vd) := ((HC.out.2.1.trans (Ev.of_only o7 (by simp [rfp]))).alloc _).less (by intro b hb;simp [rfp,ownL,Value.ownBlock] at hb ⊢;rcases hb with hb | hb <;> simp [hb])
    refine ⟨_,_,vd,rfl,out_one' w _ _ (by simp) 21 21 rfl (by have := HC.out.2.1.size;simpa using this),H7.out.of_none ((Only.refl [] _).alloc _),e7,fun g' e hb => ?_⟩
    have := H7.out.live _ hb
    simp [Value.ownBlock] at e this
    omega
   ·obtain ⟨ds,Bb,q1,q2,q3,q4,q5,q6,q7,q8⟩ := hp x sa sn sc wp HC.out.2.2.1
    subst q1 q2
    have o7 : Only [R] wc (wc.setCell ⟨R,7,none⟩ (.slice none 0 0)) := only_set _ _ _ _
    have h7 : Rcved (wc.setCell ⟨R,7,none⟩ (.slice none 0 0)) R (.slice none 0 0) vd { r with left := r.wait,buffer := [] } := by
     have hz := HC.out.1
     exact hz.turn (hs_same hz.str rfl) (RowB.nil _) (ownsRow_only hz.dat o7 (fun g e hg => by simp at hg;subst hg;exact hz.sd e)) rfl (by simp [Value.ownBlock]) (fun g e => by simp [Value.ownBlock] at e) rfl rfl hz.tr ⟨hwt.1,hwt.2⟩ (by simp)
    have e7 : Ev w (wc.setCell ⟨R,7,none⟩ (.slice none 0 0)) (rfp R (.slice ab K cb) vd) (rfp R (.slice none 0 0) vd) := (HC.out.2.1.trans (Ev.of_only o7 (by simp [rfp]))).less (by intro b hb;simp [rfp,ownL,Value.ownBlock] at hb ⊢;rcases hb with hb | hb <;> simp [hb])
    have hRB : Bb ≠ R := by have := heap_lt HZ.out.1.str;omega
    have hby : Bytes (wc.setCell ⟨R,7,none⟩ (.slice none 0 0)) (some ⟨Bb,0,none⟩) ds := (q4.of_only HC.out.2.2.2.1 (.inr (by intro ad e;cases e;have := HC.out.2.2.2.2.2 _ rfl;simpa using this))).of_only o7 (.inr (by intro ad e;cases e;simpa using hRB))
    obtain ⟨ad,cd,hvd⟩ := own_slice h7.dat
    have H7 := LH (AI h7 (AI e7 (AI hby (AI q5 q8))))
    have HVD := LH hvd
    clear hp h7 e7 hby q4 q5 q8 hvd
    go_wp2_with (first | (go_at_call 255;refine (rtake_any R (.slice none 0 0) ad cd { r with left := r.wait,buffer := [] } Bb 0 sn sc ds _ (by rw [← HVD.out];exact H7.out.1) H7.out.2.2.1 H7.out.2.2.2.1 q6 (by show r.data.length + sn ≤ _;omega) hk).mono ?_;rintro e w9 ⟨v,vb9,vd9,rfl,z1,z2,z3,z4⟩))
    go_ret
    rw [H7.out.2.2.2.2]
    rw [← HVD.out] at z3
    exact ⟨v,vb9,vd9,rfl,z1.start H7.out.2.1.size,z2,H7.out.2.1.trans z3,z4⟩
end Go.Proofs.YtplaamfoeaaaiaaGreatDoor
