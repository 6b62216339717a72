/- A part of the proofs of the laws of lifelinetop (TopNever, TopLost, TopRoom): contracts of functions that these laws reach. No condition of its own. -/
import Derived.Test.YtplaamfoeaaaiaaGreatDoorK02
import Derived.Test.YtplaamfoeaaaiaaGreatDoorK30
set_option maxRecDepth 100000
set_option maxHeartbeats 8000000
set_option linter.unusedVariables false
namespace Go.Proofs.YtplaamfoeaaaiaaGreatDoor
open Go.RowKit
theorem u81 : Tryz.prog.underlying 81 = some (.interface (Tryz.prog.methodsAt 81)) := by kernel_rfl
theorem neq81_in (w : World) (t : TypeId) (x : Value) : (binOp .neq 81 (.iface t x) .nilIface).run Tryz.prog w = .ok (.bool true) w := run_neq_held_nil w 81 t x u81
theorem neq81_nn (w : World) : (binOp .neq 81 .nilIface .nilIface).run Tryz.prog w = .ok (.bool false) w := run_neq_nil_nil w 81 u81
theorem eql81_in (w : World) (t : TypeId) (x : Value) : (binOp .eql 81 (.iface t x) .nilIface).run Tryz.prog w = .ok (.bool false) w := run_eql_held_nil w 81 t x u81
theorem eql81_nn (w : World) : (binOp .eql 81 .nilIface .nilIface).run Tryz.prog w = .ok (.bool true) w := run_eql_nil_nil w 81 u81
theorem Brd.turn {w w1 : World} {T S n : Nat} {vl tv vr : Value} {tf tf' : List Nat} {t : M.Board} {G : Nat → Nat} {tk : M.Taker} (h : Brd w T S vl tv tf vr n t G) (ht : Takes w1 tv tf' tk) (he : Ev w w1 tf tf') :
  Brd w1 T S vl tv tf' vr n { t with taker := tk } (retag G w.heap.size 3) ∧ Ev w w1 (dfp T S vl tf vr) (dfp T S vl tf' vr) := by
 have hP := h.parts
 obtain ⟨q1,q2⟩ := h.step (w' := w1) (vl' := vl) (tv' := tv) (vr' := vr) (tf' := tf') (n' := n) (t' := { t with taker := tk }) 3 (he.only.heap h.str hP.tf) (h.sto' he.only hP.sf) (h.lin' he.only hP.lf) ht (h.rep' he.only hP.fr.symm) (.inl fun b h => h) (.inr ⟨rfl,he.grow⟩) (.inl fun b h => h) h.ll h.ok
 exact ⟨q1,⟨he.only.weaken (by intro b hb;simp [dfp,hb]),q2⟩⟩
theorem turn_fresh {w w1 : World} {T S n : Nat} {vl tv vr v : Value} {tf tf' : List Nat} {t : M.Board} {G : Nat → Nat} {bs : List UInt8} (h : Brd w T S vl tv tf vr n t G) (ho : Out w w1 v bs) (hn : ∀ g,v.ownBlock = some g → g ∉ tf') :
  ∀ g,v.ownBlock = some g → g ∉ dfp T S vl tf' vr := by
 intro g e hm
 have hf := (ho.fresh g e).1
 have hlv := h.live
 simp only [dfp,List.mem_cons,List.mem_append] at hm
 rcases hm with rfl | rfl | hm | hm | hm
 ·have := heap_lt h.str;omega
 ·have := h.sto.lt;omega
 ·have := hlv g (by simp [hm]);omega
 ·exact hn g e hm
 ·have := hlv g (by simp [hm]);omega
theorem mem_tf {T S b : Nat} {vl vr : Value} {tf : List Nat} (h : b ∈ tf) : b ∈ dfp T S vl tf vr := List.mem_cons_of_mem _ (List.mem_cons_of_mem _ (List.mem_append_right _ (List.mem_append_left _ h)))
def TakenOk (t : M.Board) (bs : M.B) : Prop :=
 match t.taker with
 | .none => True
 | .one r => RPutOk r bs ∧ (r.put bs).1.length ≤ 1000000 ∧ LoadedOk { t with taker := .one (r.put bs).2 }
 | .batch r => BPutOk r bs ∧ (r.put bs).1.length ≤ 1000000 ∧ LoadedOk { t with taker := .batch (r.put bs).2 }
def TickOk (t : M.Board) : Prop :=
 match t.taker with
 | .none => True
 | .one r => RTickOk r ∧ r.tick.1.length ≤ 1000000 ∧ LoadedOk { t with taker := .one r.tick.2 }
 | .batch r => BTickOk r ∧ r.tick.1.length ≤ 1000000 ∧ LoadedOk { t with taker := .batch r.tick.2 }
def PutsOk : M.B → M.Board → M.B → Prop
 | _,_,[] => True
 | out,t,c :: r => if t.isTaking then TakenOk t (c :: r) ∧ (out ++ (t.taken (c :: r)).1).length ≤ 1000000
   else Put1Ok t c ∧ (out ++ (t.put1 c).1).length ≤ 1000000 ∧ PutsOk (out ++ (t.put1 c).1) (t.put1 c).2 r
theorem Sep.ev {w w1 : World} {f f' : List Nat} (h : Sep f glb) (he : Ev w w1 f f') (hg : Glob w) : Sep f' glb := fun b hb hc => by
 rcases he.grow b hb with h' | h'
 ·exact h b h' hc
 ·have h1 := hg.tabs.t16
  have l3 : 3 < w.heap.size := World.block_lt_of_cell? w _ h1
  obtain ⟨m,hm⟩ := hg.mx
  have l4 : 4 < w.heap.size := World.block_lt_of_cell? w _ hm
  simp at hc
  omega
theorem tick_one (T : Nat) (fp : List Nat) (N : Nat) (t : M.Board) (r : M.Rcv) (w : World) (h : Boarded w T fp N t) (ht : t.taker = .one r) (hk : TickOk t) :
  Calls Tryz.prog 51 #[.pointer (some ⟨T,0,none⟩)] w (DPost w T fp N t.tick) := by
 obtain ⟨S,vl,tv,tf,vr,n,G,hn,rfl,hb⟩ := h
 have htk := hb.tak
 rw [ht] at htk
 obtain ⟨R,vb,vd,rfl,rfl,hrc⟩ := htk
 have hte : t.tick = M.Board.loaded { t with taker := .one r.tick.2 } r.tick.1 := by unfold M.Board.tick;rw [ht]
 unfold TickOk at hk
 rw [ht] at hk
 obtain ⟨k1,k2,k3⟩ := hk
 have c5 : w.cell? ⟨T,5,none⟩ = some (.iface 293 (.pointer (some ⟨R,0,none⟩))) := cell_at hb.str rfl
 have hm := fun w => m293_Tick R w
 have HP := rtick_any R vb vd r w hrc k1
 have HL := fun w1 v vb' vd' (q1 : Out w w1 v r.tick.1) (q2 : Rcved w1 R vb' vd' r.tick.2) (q3 : Ev w w1 (rfp R vb vd) (rfp R vb' vd')) (q4 : ∀ g,v.ownBlock = some g → g ∉ rfp R vb' vd') =>
  let e := hb.turn (tk := .one r.tick.2) ⟨R,vb',vd',rfl,rfl,q2⟩ q3
  loaded_any T w _ _ N { t with taker := .one r.tick.2 } v r.tick.1 w1 ⟨S,vl,_,_,vr,n,_,hn,rfl,e.1⟩ (by simp) q1 k2 e.2 (turn_fresh hb q1 q4) k3
 have q0 := fun (w : World) (x : Value) => eql81_in w 293 x
 rw [hte]
 clear hb hrc hn ht k1 k2 k3 hte
 go_enter Tryz.func51,Tryz.ntmps51
 go_wp2_with (first
  | (go_at_call 247;refine (HP).mono ?_;rintro e w1 ⟨v,vb',vd',rfl,q1,q2,q3,q4⟩)
  | (go_at_call 75;refine (HL _ v vb' vd' q1 q2 q3 q4).mono ?_;rintro e w2 ⟨v2,fp',rfl,p1,p2,p3,p4⟩))
 go_ret
 exact ⟨v2,fp',rfl,p1,p2,p3,p4⟩
theorem taken_one (T : Nat) (fp : List Nat) (N : Nat) (t : M.Board) (r : M.Rcv) (a : Option Addr) (m c : Nat) (bs : M.B) (w : World) (h : Boarded w T fp N t) (ht : t.taker = .one r) (hby : Bytes w a bs) (hbl : bs.length = m) (hnil : a = none → c = 0) (haw : Away a fp) (hk : TakenOk t bs) :
  Calls Tryz.prog 50 #[.pointer (some ⟨T,0,none⟩),.slice a m c] w (DPost w T fp N (t.taken bs)) := by
 obtain ⟨S,vl,tv,tf,vr,n,G,hn,rfl,hb⟩ := h
 have htk := hb.tak
 rw [ht] at htk
 obtain ⟨R,vb,vd,rfl,rfl,hrc⟩ := htk
 have hte : t.taken bs = M.Board.loaded { t with taker := .one (r.put bs).2 } (r.put bs).1 := by unfold M.Board.taken;rw [ht]
 unfold TakenOk at hk
 rw [ht] at hk
 obtain ⟨k1,k2,k3⟩ := hk
 have c5 : w.cell? ⟨T,5,none⟩ = some (.iface 293 (.pointer (some ⟨R,0,none⟩))) := cell_at hb.str rfl
 have hm := fun w => m293_Put R w
 have HP := rput_ok R vb vd r a m c bs w hrc hby hbl hnil (fun ad e hx => haw ad e (mem_tf hx)) k1
 have HL := fun w1 v vb' vd' (q1 : Out w w1 v (r.put bs).1) (q2 : Rcved w1 R vb' vd' (r.put bs).2) (q3 : Ev w w1 (rfp R vb vd) (rfp R vb' vd')) (q4 : ∀ g,v.ownBlock = some g → g ∉ rfp R vb' vd') =>
  let e := hb.turn (tk := .one (r.put bs).2) ⟨R,vb',vd',rfl,rfl,q2⟩ q3
  loaded_any T w _ _ N { t with taker := .one (r.put bs).2 } v (r.put bs).1 w1 ⟨S,vl,_,_,vr,n,_,hn,rfl,e.1⟩ (by simp) q1 k2 e.2 (turn_fresh hb q1 q4) k3
 have q0 := fun (w : World) (x : Value) => neq81_in w 293 x
 rw [hte]
 clear hb hrc hn ht k1 k2 k3 hte hby hbl hnil haw
 go_enter Tryz.func50,Tryz.ntmps50
 go_wp2_with (first
  | (go_at_call 246;refine (HP).mono ?_;rintro e w1 ⟨v,vb',vd',rfl,q1,q2,q3,q4⟩)
  | (go_at_call 75;refine (HL _ v vb' vd' q1 q2 q3 q4).mono ?_;rintro e w2 ⟨v2,fp',rfl,p1,p2,p3,p4⟩))
 go_ret
 exact ⟨v2,fp',rfl,p1,p2,p3,p4⟩
theorem tick_batch (T : Nat) (fp : List Nat) (N : Nat) (t : M.Board) (r : M.BRcv) (w : World) (h : Boarded w T fp N t) (hg : Glob w) (hS : Sep fp glb) (ht : t.taker = .batch r) (hk : TickOk t) :
  Calls Tryz.prog 51 #[.pointer (some ⟨T,0,none⟩)] w (DPost w T fp N t.tick) := by
 obtain ⟨S,vl,tv,tf,vr,n,G,hn,rfl,hb⟩ := h
 have htk := hb.tak
 rw [ht] at htk
 obtain ⟨X,R,vb,vp,vd,f0,rfl,rfl,hrc⟩ := htk
 have hte : t.tick = M.Board.loaded { t with taker := .batch r.tick.2 } r.tick.1 := by unfold M.Board.tick;rw [ht]
 unfold TickOk at hk
 rw [ht] at hk
 obtain ⟨k1,k2,k3⟩ := hk
 have c5 : w.cell? ⟨T,5,none⟩ = some (.iface 291 (.pointer (some ⟨X,0,none⟩))) := cell_at hb.str rfl
 have hm := fun w => m291_Tick X w
 have HP := btick_any X R vb vp vd f0 r w hrc hg (hS.sub (fun b hb => mem_tf hb) (fun b h => h)) k1
 have HL := fun w1 v R' vb' vp' vd' f0' (q1 : Out w w1 v r.tick.1) (q2 : BAt w1 X R' vb' vp' vd' f0' r.tick.2) (q3 : Ev w w1 (bfp X R vb vp vd) (bfp X R' vb' vp' vd')) (q4 : ∀ g,v.ownBlock = some g → g ∉ bfp X R' vb' vp' vd') =>
  let e := hb.turn (tk := .batch r.tick.2) ⟨X,R',vb',vp',vd',f0',rfl,rfl,q2⟩ q3
  loaded_any T w _ _ N { t with taker := .batch r.tick.2 } v r.tick.1 w1 ⟨S,vl,_,_,vr,n,_,hn,rfl,e.1⟩ (by simp) q1 k2 e.2 (turn_fresh hb q1 q4) k3
 have q0 := fun (w : World) (x : Value) => eql81_in w 291 x
 rw [hte]
 clear hb hrc hn ht k1 k2 k3 hte hg hS
 go_enter Tryz.func51,Tryz.ntmps51
 go_wp2_with (first
  | (go_at_call 244;refine (HP).mono ?_;rintro e w1 ⟨v,R',vb',vp',vd',f0',rfl,q1,q2,q3,q4⟩)
  | (go_at_call 75;refine (HL _ v R' vb' vp' vd' f0' q1 q2 q3 q4).mono ?_;rintro e w2 ⟨v2,fp',rfl,p1,p2,p3,p4⟩))
 go_ret
 exact ⟨v2,fp',rfl,p1,p2,p3,p4⟩
theorem taken_batch (T : Nat) (fp : List Nat) (N : Nat) (t : M.Board) (r : M.BRcv) (a : Option Addr) (m c : Nat) (bs : M.B) (w : World) (h : Boarded w T fp N t) (hg : Glob w) (hS : Sep fp glb) (ht : t.taker = .batch r) (hby : Bytes w a bs) (hbl : bs.length = m) (hnil : a = none → c = 0) (haw : Away a fp) (hk : TakenOk t bs) :
  Calls Tryz.prog 50 #[.pointer (some ⟨T,0,none⟩),.slice a m c] w (DPost w T fp N (t.taken bs)) := by
 obtain ⟨S,vl,tv,tf,vr,n,G,hn,rfl,hb⟩ := h
 have htk := hb.tak
 rw [ht] at htk
 obtain ⟨X,R,vb,vp,vd,f0,rfl,rfl,hrc⟩ := htk
 have hte : t.taken bs = M.Board.loaded { t with taker := .batch (r.put bs).2 } (r.put bs).1 := by unfold M.Board.taken;rw [ht]
 unfold TakenOk at hk
 rw [ht] at hk
 obtain ⟨k1,k2,k3⟩ := hk
 have c5 : w.cell? ⟨T,5,none⟩ = some (.iface 291 (.pointer (some ⟨X,0,none⟩))) := cell_at hb.str rfl
 have hm := fun w => m291_Put X w
 have HP := bput_any X R vb vp vd f0 r a m c bs w hrc hg (hS.sub (fun b hb => mem_tf hb) (fun b h => h)) hby hbl hnil (fun ad e hx => haw ad e (mem_tf hx)) k1
 have HL := fun w1 v R' vb' vp' vd' f0' (q1 : Out w w1 v (r.put bs).1) (q2 : BAt w1 X R' vb' vp' vd' f0' (r.put bs).2) (q3 : Ev w w1 (bfp X R vb vp vd) (bfp X R' vb' vp' vd')) (q4 : ∀ g,v.ownBlock = some g → g ∉ bfp X R' vb' vp' vd') =>
  let e := hb.turn (tk := .batch (r.put bs).2) ⟨X,R',vb',vp',vd',f0',rfl,rfl,q2⟩ q3
  loaded_any T w _ _ N { t with taker := .batch (r.put bs).2 } v (r.put bs).1 w1 ⟨S,vl,_,_,vr,n,_,hn,rfl,e.1⟩ (by simp) q1 k2 e.2 (turn_fresh hb q1 q4) k3
 have q0 := fun (w : World) (x : Value) => neq81_in w 291 x
 rw [hte]
 clear hb hrc hn ht k1 k2 k3 hte hg hS hby hbl hnil haw
 go_enter Tryz.func50,Tryz.ntmps50
 go_wp2_with (first
  | (go_at_call 243;refine (HP).mono ?_;rintro e w1 ⟨v,R',vb',vp',vd',f0',rfl,q1,q2,q3,q4⟩)
  | (go_at_call 75;refine (HL _ v R' vb' vp' vd' f0' q1 q2 q3 q4).mono ?_;rintro e w2 ⟨v2,fp',rfl,p1,p2,p3,p4⟩))
 go_ret
 exact ⟨v2,fp',rfl,p1,p2,p3,p4⟩
theorem tick_none (T : Nat) (fp : List Nat) (N : Nat) (t : M.Board) (w : World) (h : Boarded w T fp N t) (ht : t.taker = .none) :
  Calls Tryz.prog 51 #[.pointer (some ⟨T,0,none⟩)] w (DPost w T fp N t.tick) := by
 obtain ⟨S,vl,tv,tf,vr,n,G,hn,rfl,hb⟩ := h
 have htk := hb.tak
 rw [ht] at htk
 obtain ⟨rfl,rfl⟩ := htk
 have hte : t.tick = ([],t) := by unfold M.Board.tick;rw [ht]
 have c5 : w.cell? ⟨T,5,none⟩ = some .nilIface := cell_at hb.str rfl
 have q0 := fun (w : World) => eql81_nn w
 have H := LH (AI hb hn)
 rw [hte]
 clear hb hn ht hte
 go_enter Tryz.func51,Tryz.ntmps51
 go_wp2_with fail
 go_ret
 exact ⟨_,_,rfl,Out.nil _ _,⟨S,vl,_,_,vr,n,G,H.out.2,rfl,H.out.1⟩,⟨Only.refl _ _,Grow.refl _ _⟩,fun g e => by simp [Value.ownBlock] at e⟩
theorem btick_board (T : Nat) (fp : List Nat) (N : Nat) (t : M.Board) (w : World) (h : Boarded w T fp N t) (hg : Glob w) (hS : Sep fp glb) (hk : TickOk t) :
  Calls Tryz.prog 51 #[.pointer (some ⟨T,0,none⟩)] w (DPost w T fp N t.tick) := by
 cases ht : t.taker with
 | none => exact tick_none T fp N t w h ht
 | one r => exact tick_one T fp N t r w h ht hk
 | batch r => exact tick_batch T fp N t r w h hg hS ht hk
theorem isT (t : M.Board) : t.isTaking = false ↔ t.taker = .none := by
 unfold M.Board.isTaking
 cases t.taker <;> simp
theorem Brd.of_only {w w' : World} {T S n : Nat} {vl tv vr : Value} {tf ks : List Nat} {t : M.Board} {G : Nat → Nat} (h : Brd w T S vl tv tf vr n t G) (ho : Only ks w w') (hs : Sep (dfp T S vl tf vr) ks) : Brd w' T S vl tv tf vr n t G :=
 ⟨ho.heap h.str (hs T (by simp [dfp])),h.sto' ho (hs S (by simp [dfp])),h.lin' ho (fun b hb => hs b (by simp [dfp,hb])),h.tak' ho (fun b hb => hs b (mem_tf hb)),h.rep' ho (fun b hb => hs b (by simp [dfp,hb])),h.gT,h.gS,h.gl,h.gt,h.gr,h.ll,h.ok⟩
theorem Boarded.of_only {w w' : World} {T N : Nat} {fp ks : List Nat} {t : M.Board} (h : Boarded w T fp N t) (ho : Only ks w w') (hs : Sep fp ks) : Boarded w' T fp N t := by
 obtain ⟨S,vl,tv,tf,vr,n,G,hn,rfl,hb⟩ := h
 exact ⟨S,vl,tv,tf,vr,n,G,hn,rfl,hb.of_only ho hs⟩
theorem Boarded.live {w : World} {T N : Nat} {fp : List Nat} {t : M.Board} (h : Boarded w T fp N t) : Live w fp := by
 obtain ⟨S,vl,tv,tf,vr,n,G,hn,rfl,hb⟩ := h
 exact hb.live
theorem Ev.fresh {w w1 w2 : World} {f f' ks : List Nat} (h : Ev w w1 f f') (ho : Only ks w1 w2) (hk : ∀ k,k ∈ ks → w.heap.size ≤ k) : Ev w w2 f f' :=
 ⟨⟨ho.os.trans h.only.os,ho.tape.trans h.only.tape,ho.output.trans h.only.output,Nat.le_trans h.only.size ho.size,fun k hk' hn => (ho.block k (Nat.lt_of_lt_of_le hk' h.only.size) (fun hm => by have := hk k hm;omega)).trans (h.only.block k hk' hn)⟩,h.grow⟩
theorem step_appAt {ops : Array Oper} {o : Oper} {a : Act} {w : World} {K : Act → World → Prop} {Q : Exit → Act → World → Prop} {E : Prop} (hg : o.guard = none) (s x : Operand) (hop : o.op = Op.call { callee := Callee.builtin Builtin.append,args := #[s,x],argTypes := #[22,22] }) (base : Nat) (v : Value) (n : Nat) (xs : List UInt8) (hs : a.eval s = v) (hown : w.ownsRow base 5 1 v n (xs.map byteV)) (ao : Option Addr) (m c : Nat) (bs : List UInt8) (hx : a.eval x = .slice ao m c) (hb : Bytes w ao bs) (hm : bs.length = m) (hn : ao = none → c = 0) (hl : n + m ≤ 140737488355328) (hbase : base ≤ w.heap.size) (hK : ∀ a' c' w',w'.ownsRow base 5 1 (.slice a' (n + m) c') (n + m) ((xs ++ bs).map byteV) → w.grownBy w' v.ownBlock → (∀ g',(Value.slice a' (n + m) c').ownBlock = some g' → v.ownBlock = some g' ∨ w.heap.size ≤ g') → K (a.put o.dst (.slice a' (n + m) c')) w') :
  if Region.wanted o (yielded ops a.tmps) = true then Oper.wp Tryz.prog o a w K Q else E := by
 have hw : Region.wanted o (yielded ops a.tmps) = true := by simp [Region.wanted,hg]
 rw [if_pos hw]
 obtain ⟨v',w',hrun,r1,r2,r3⟩ := run_appAt w base o.type v n xs hown ao m c bs hb hm hn hl hbase
 obtain ⟨a',c',rfl⟩ := own_slice r1
 unfold Oper.wp
 simp [execOp,hop,resolve,invoke,builtin,hs,hx,hrun,Result.andThen]
 exact hK _ _ w' r1 r2 r3
def PutsAt (w : World) (T : Nat) (fp : List Nat) (N : Nat) (t0 : M.Board) (bs : M.B) (i : Nat) (v : Value) (wr : World) : Prop :=
 ∃ t out fp',w.heap.size ≤ wr.heap.size ∧ wr.ownsRow w.heap.size 5 1 v out.length (out.map byteV) ∧ out.length ≤ 1000000 ∧ Boarded wr T fp' (N + i) t ∧ Ev w wr fp fp' ∧ (∀ g,v.ownBlock = some g → g ∉ fp') ∧ t0.puts [] bs = t.puts out (bs.drop i) ∧ PutsOk out t (bs.drop i)
theorem puts_any (T : Nat) (fp : List Nat) (N : Nat) (t0 : M.Board) (a : Option Addr) (m c : Nat) (bs : M.B) (w : World) (h : Boarded w T fp N t0) (hg : Glob w) (hS : Sep fp glb) (ht : t0.taker = .none) (hby : Bytes w a bs) (hbl : bs.length = m) (hmc : m ≤ c) (hnil : a = none → c = 0) (haw : Away a fp) (hlow : ∀ ad,a = some ad → bs ≠ [] → ad.block < w.heap.size) (hk : PutsOk [] t0 bs) (hN : N + m ≤ 1000000) :
  Calls Tryz.prog 50 #[.pointer (some ⟨T,0,none⟩),.slice a m c] w (DPost w T fp (N + m) (t0.puts [] bs)) := by
 have c5 : w.cell? ⟨T,5,none⟩ = some .nilIface := by
  obtain ⟨S,vl,tv,tf,vr,n,G,hn,rfl,hb⟩ := h
  have htk := hb.tak
  rw [ht] at htk
  obtain ⟨rfl,rfl⟩ := htk
  exact cell_at hb.str rfl
 have q0 := fun (w : World) => neq81_nn w
 have q1 := fun (w : World) (t : TypeId) (x : Value) => neq81_in w t x
 have H := LH (AI h (AI hg (AI hS (AI hby (AI hbl (AI haw (AI hk (AI hN hlow))))))))
 clear h hg hS hby hbl haw hk hN hlow ht
 go_enter Tryz.func50,Tryz.ntmps50
 go_upto_region 5 with fail
 clear c5
 go_loopw [5,23] (fun s5 s23 wr => ∃ i : Nat,s23 = .int .i64 i ∧ i ≤ m ∧ PutsAt w T fp N t0 bs i s5 wr) (fun _ s23 _ => m - (intOf s23).toNat)
 case atStart => exact ⟨0,rfl,Nat.zero_le _,t0,[],fp,Nat.le_refl _,World.ownsRow_nil _ _ _ _,by simp,H.out.1,⟨Only.refl _ _,Grow.refl _ _⟩,fun g e => by simp [Value.ownBlock] at e,rfl,H.out.2.2.2.2.2.2.1⟩
 case round =>
  obtain ⟨i,rfl,him,t,out,fp',r1,r2,r3,r4,r5,r6,r7,r8⟩ := hrel
  obtain ⟨va,vc,rfl⟩ := own_slice r2
  by_cases hlt : i < m
  ·have hib : i < bs.length := by rw [H.out.2.2.2.2.1];exact hlt
   have hdrop : bs.drop i = bs[i] :: bs.drop (i + 1) := List.drop_eq_getElem_cons hib
   obtain ⟨x,hx⟩ : ∃ x,x = bs[i] := ⟨_,rfl⟩
   rw [← hx] at hdrop
   rw [hdrop] at r7 r8
   have k1 : ((i : Int) < (m : Int)) := by omega
   have k2 : (0 : Int) ≤ (i : Int) := by omega
   have k6 : m ≤ 1000000 := by have := H.out.2.2.2.2.2.2.2.1;omega
   have k7 : i ≤ 1000000 := by omega
   have hbw : Bytes wr a bs := H.out.2.2.2.1.of_only r5.only (.inr H.out.2.2.2.2.2.1)
   obtain ⟨B,o,rfl,hcell⟩ := hbw.at i hib
   have hcb : bs.getD i 0 = x := by rw [hx];simp [List.getD,hib]
   rw [hcb] at hcell
   have hglr : Glob wr := H.out.2.1.of_only r5.only H.out.2.2.1
   have hSr : Sep fp' glb := H.out.2.2.1.ev r5 H.out.2.1
   obtain ⟨S,vl,tv,tf,vr,n,G,hn,hfp,hb⟩ := r4
   have hc5 : wr.cell? ⟨T,5,none⟩ = some tv := cell_at hb.str rfl
   have htk := hb.tak
   have hbrd : Boarded wr T fp' (N + i) t := ⟨S,vl,tv,tf,vr,n,G,hn,hfp,hb⟩
   cases htt : t.taker with
   | none =>
    rw [htt] at htk
    obtain ⟨rfl,rfl⟩ := htk
    have hit : t.isTaking = false := (isT t).2 htt
    unfold PutsOk at r8
    rw [hit] at r8
    obtain ⟨s1,s2,s3⟩ := r8
    have hpe : t.puts out (x :: bs.drop (i + 1)) = (t.put1 x).2.puts (out ++ (t.put1 x).1) (bs.drop (i + 1)) := by
     conv => lhs;unfold M.Board.puts
     rw [hit];rfl
    have HP := put1_any T fp' (N + i) t x wr hbrd (by have := H.out.2.2.2.2.2.2.2.1;omega) hglr hSr htt s1
    have HX := LH (AI r1 (AI r2 (AI r3 (AI r5 (AI r6 (AI r7 (AI s2 (AI s3 (AI hpe hdrop)))))))))
    clear r1 r2 r3 r5 r6 r7 s1 s2 s3 hpe hdrop hb hbrd hn hfp hglr hSr hbw hx hcb hib hit htt
    go_upto_region 9 with fail
    clear hc5 hcell
    go_wp2_with (first
     | (go_at_call 76;refine (HP).mono ?_;rintro e w1 ⟨v1,ro,fp2,rfl,⟨a1,c1,rfl,z1,z2,z3,z4,z5⟩,p2,p3,p4⟩;have HQ := LH (AI z1 (AI z2 (AI z3 (AI z4 (AI z5 (AI p2 (AI p3 p4)))))));have hown1 : w1.ownsRow w.heap.size 5 1 (.slice va out.length vc) out.length (out.map byteV) := ownsRow_only HX.out.2.1 p4.only HX.out.2.2.2.2.1;clear z1 z2 z3 z4 z5 p2 p3 p4)
     | (at_builtin;refine wpList_appAt _ rfl (.tmp 47) (.tmp 50) rfl w.heap.size (.slice va out.length vc) out.length out rfl hown1 a1 (t.put1 x).1.length c1 (t.put1 x).1 rfl HQ.out.1 rfl HQ.out.2.2.2.1 _ rfl (out.length + (t.put1 x).1.length) rfl (by have := HX.out.2.2.2.2.2.2.1;simp at this;omega) (Nat.le_trans HX.out.1 HQ.out.2.2.2.2.2.2.2.only.size) ?_;intro a' c' w2 y1 y2 y3;have HY := LH (AI y1 (AI y2 y3));clear y1 y2 y3))
    have hfpv : ∀ g,(Value.slice va out.length vc).ownBlock = some g → g ∉ fp2 := fun g e hm => by
     rcases HQ.out.2.2.2.2.2.2.2.grow g hm with h' | h'
     ·exact HX.out.2.2.2.2.1 g e h'
     ·have := (World.ownsRow.lt HX.out.2.1 g e).2;omega
    have hlen : (out ++ (t.put1 x).1).length = out.length + (t.put1 x).1.length := by simp
    refine ⟨⟨i + 1,by simp,hlt,(t.put1 x).2,out ++ (t.put1 x).1,fp2,?_,?_,HX.out.2.2.2.2.2.2.1,?_,?_,?_,?_,HX.out.2.2.2.2.2.2.2.1⟩,by simp [intOf];omega⟩
    ·exact Nat.le_trans HX.out.1 (Nat.le_trans HQ.out.2.2.2.2.2.2.2.only.size HY.out.2.1.size)
    ·rw [hlen];exact HY.out.1
    ·exact HQ.out.2.2.2.2.2.2.1.of_only (only_grown HY.out.2.1) (fun b hb hx => hfpv b (mem_ownL.1 hx) hb)
    ·exact (HX.out.2.2.2.1.trans HQ.out.2.2.2.2.2.2.2).fresh (only_grown HY.out.2.1) (fun k hk => (World.ownsRow.lt HX.out.2.1 k (mem_ownL.1 hk)).1)
    ·intro g e hm
     rcases HY.out.2.2 g e with h' | h'
     ·exact hfpv g h' hm
     ·have := HQ.out.2.2.2.2.2.2.1.live g hm;omega
    ·rw [HX.out.2.2.2.2.2.1,HX.out.2.2.2.2.2.2.2.2.1]
   | one r =>
    rw [htt] at htk
    obtain ⟨R,vb,vd,rfl,rfl,hrc⟩ := htk
    have hit : t.isTaking = true := by unfold M.Board.isTaking;rw [htt]
    unfold PutsOk at r8
    rw [hit] at r8
    obtain ⟨s1,s2⟩ := r8
    unfold TakenOk at s1
    rw [htt] at s1
    obtain ⟨k3,k4,k5⟩ := s1
    have hpe : t.puts out (x :: bs.drop (i + 1)) = (out ++ (t.taken (x :: bs.drop (i + 1))).1,(t.taken (x :: bs.drop (i + 1))).2) := by
     conv => lhs;unfold M.Board.puts
     rw [hit];rfl
    have hte : t.taken (x :: bs.drop (i + 1)) = M.Board.loaded { t with taker := .one (r.put (x :: bs.drop (i + 1))).2 } (r.put (x :: bs.drop (i + 1))).1 := by unfold M.Board.taken;rw [htt]
    rw [← hdrop] at k3 k4 k5 hpe hte s2
    rw [hdrop.symm] at r7
    obtain ⟨a2,ha2⟩ : ∃ a2,a2 = (if c = i then some (⟨B,o,none⟩ : Addr) else (some (⟨B,o,none⟩ : Addr)).map (·.add (i * 1))) := ⟨_,rfl⟩
    have hsl := fun w => run_tail Tryz.prog w 22 (some ⟨B,o,none⟩) m c i Tryz.elem22 1 Tryz.size5 him .i64
    have hby2 := hbw.tail i c (by omega) (by rw [H.out.2.2.2.2.1];exact hmc)
    have haw2 := away_tail H.out.2.2.2.2.2.1 i c
    rw [← ha2] at hsl hby2 haw2
    have hnil2 : a2 = none → c - i = 0 := by
     intro e
     rw [ha2] at e
     split at e <;> simp at e
    have hm2 := fun w => m293_Put R w
    have hlow2 : ∀ ad,a2 = some ad → ad.block = B := by
     intro ad e
     rw [ha2] at e
     split at e
     ·simp at e;rw [← e]
     ·simp at e;rw [← e,add_block]
    have hBlow : B < w.heap.size := H.out.2.2.2.2.2.2.2.2 _ rfl (by intro e;rw [e] at hib;simp at hib)
    have hBfp : B ∉ fp' := fun hm => by
     rcases r5.grow B hm with h' | h'
     ·exact H.out.2.2.2.2.2.1 _ rfl h'
     ·omega
    have hSrr := hSr
    rw [hfp] at hBfp hSrr
    have hd0 : Only [] wr wr.drew := (Only.refl [] wr).drew
    have hbd : Brd wr.drew T S vl _ _ vr n t G := hb.of_none hd0
    have HP := rput_ok R vb vd r a2 (m - i) (c - i) (bs.drop i) wr.drew (hrc.of_none hd0) (hby2.of_only hd0 (.inr (fun ad e => by simp))) (by rw [List.length_drop,H.out.2.2.2.2.1]) hnil2 (fun ad e hx => hBfp (by rw [← hlow2 ad e];exact mem_tf hx)) k3
    have HL := fun w1 v vb' vd' (q1 : Out wr.drew w1 v (r.put (bs.drop i)).1) (q2 : Rcved w1 R vb' vd' (r.put (bs.drop i)).2) (q3 : Ev wr.drew w1 (rfp R vb vd) (rfp R vb' vd')) (q4 : ∀ g,v.ownBlock = some g → g ∉ rfp R vb' vd') =>
     let e := hbd.turn (tk := .one (r.put (bs.drop i)).2) ⟨R,vb',vd',rfl,rfl,q2⟩ q3
     loaded_any T wr.drew _ _ (N + i) { t with taker := .one (r.put (bs.drop i)).2 } v (r.put (bs.drop i)).1 w1 ⟨S,vl,_,_,vr,n,_,hn,rfl,e.1⟩ (by simp) q1 k4 e.2 (turn_fresh hbd q1 q4) k5
    rw [← hte] at HL
    rw [hfp] at r5 r6
    have HX := LH (AI r1 (AI r2 (AI r3 (AI r5 (AI r6 (AI r7 (AI s2 hpe)))))))
    clear hSrr r1 r2 r3 r5 r6 r7 s2 hpe hdrop hb hbd hbrd hn hfp hglr hSr hbw hx hcb hib hit htt hrc k3 k4 k5 hte ha2 hby2 haw2 hnil2 hlow2 hBlow hBfp hd0
    go_upto_region 8 with fail
    go_region_law (first
     | (go_simp;go_at_call 246;refine (HP).mono ?_;rintro e w1 ⟨v,vb',vd',rfl,p1,p2,p3,p4⟩)
     | (go_simp;go_at_call 75;refine (HL _ v vb' vd' p1 p2 p3 p4).mono ?_;rintro e w2 ⟨v2,fp2,rfl,g1,g2,g3,g4⟩;obtain ⟨a1,c1,rfl,z1,z2,z3,z4,z5,z6⟩ := g1.read;have hown2 : w2.ownsRow w.heap.size 5 1 (.slice va out.length vc) out.length (out.map byteV) := ownsRow_only (HX.out.2.1.drew) g3.only HX.out.2.2.2.2.1)
     | (refine step_appAt rfl (.tmp 33) (.tmp 45) rfl w.heap.size (.slice va out.length vc) out.length out (by rfl) hown2 a1 _ c1 _ (by rfl) z1 rfl z3 (by have h1 := HX.out.2.2.2.2.2.2.1;rw [List.length_append] at h1;omega) (Nat.le_trans HX.out.1 g3.only.size) ?_;intro a' c' w3 y1 y2 y3))
    all_goals go_wp2_with fail
    all_goals go_ret
    all_goals (
     rw [HX.out.2.2.2.2.2.1,HX.out.2.2.2.2.2.2.2]
     have hvn : ∀ g,(Value.slice va out.length vc).ownBlock = some g → g ∉ fp2 := fun g e hm => by
      rcases g3.grow g hm with h' | h'
      ·exact HX.out.2.2.2.2.1 g e h'
      ·have h1 := (World.ownsRow.lt HX.out.2.1 g e).2
       simp at h'
       omega
     have evd : Ev w wr.drew fp (dfp T S vl (rfp R vb vd) vr) := HX.out.2.2.2.1.drew
     refine ⟨_,fp2,rfl,?_,(g2.mono (by omega)).of_only (only_grown y2) (fun b hb hx => hvn b (mem_ownL.1 hx) hb),(evd.trans g3).fresh (only_grown y2) (fun k hk => (World.ownsRow.lt HX.out.2.1 k (mem_ownL.1 hk)).1),fun g e hm => ?_⟩
     ·unfold Out;rw [List.length_append];exact y1
     ·rcases y3 g e with h' | h'
      ·exact hvn g h' hm
      ·have := g2.live g hm;omega)
   | batch r =>
    rw [htt] at htk
    obtain ⟨X,R,vb,vp,vd,f0,rfl,rfl,hrc⟩ := htk
    have hit : t.isTaking = true := by unfold M.Board.isTaking;rw [htt]
    unfold PutsOk at r8
    rw [hit] at r8
    obtain ⟨s1,s2⟩ := r8
    unfold TakenOk at s1
    rw [htt] at s1
    obtain ⟨k3,k4,k5⟩ := s1
    have hpe : t.puts out (x :: bs.drop (i + 1)) = (out ++ (t.taken (x :: bs.drop (i + 1))).1,(t.taken (x :: bs.drop (i + 1))).2) := by
     conv => lhs;unfold M.Board.puts
     rw [hit];rfl
    have hte : t.taken (x :: bs.drop (i + 1)) = M.Board.loaded { t with taker := .batch (r.put (x :: bs.drop (i + 1))).2 } (r.put (x :: bs.drop (i + 1))).1 := by unfold M.Board.taken;rw [htt]
    rw [← hdrop] at k3 k4 k5 hpe hte s2
    rw [hdrop.symm] at r7
    obtain ⟨a2,ha2⟩ : ∃ a2,a2 = (if c = i then some (⟨B,o,none⟩ : Addr) else (some (⟨B,o,none⟩ : Addr)).map (·.add (i * 1))) := ⟨_,rfl⟩
    have hsl := fun w => run_tail Tryz.prog w 22 (some ⟨B,o,none⟩) m c i Tryz.elem22 1 Tryz.size5 him .i64
    have hby2 := hbw.tail i c (by omega) (by rw [H.out.2.2.2.2.1];exact hmc)
    have haw2 := away_tail H.out.2.2.2.2.2.1 i c
    rw [← ha2] at hsl hby2 haw2
    have hnil2 : a2 = none → c - i = 0 := by
     intro e
     rw [ha2] at e
     split at e <;> simp at e
    have hm2 := fun w => m291_Put X w
    have hlow2 : ∀ ad,a2 = some ad → ad.block = B := by
     intro ad e
     rw [ha2] at e
     split at e
     ·simp at e;rw [← e]
     ·simp at e;rw [← e,add_block]
    have hBlow : B < w.heap.size := H.out.2.2.2.2.2.2.2.2 _ rfl (by intro e;rw [e] at hib;simp at hib)
    have hBfp : B ∉ fp' := fun hm => by
     rcases r5.grow B hm with h' | h'
     ·exact H.out.2.2.2.2.2.1 _ rfl h'
     ·omega
    have hSrr := hSr
    rw [hfp] at hBfp hSrr
    have hd0 : Only [] wr wr.drew := (Only.refl [] wr).drew
    have hbd : Brd wr.drew T S vl _ _ vr n t G := hb.of_none hd0
    have HP := bput_any X R vb vp vd f0 r a2 (m - i) (c - i) (bs.drop i) wr.drew (hrc.of_none hd0) (hglr.of_none hd0) (hSrr.sub (fun b hb => mem_tf hb) (fun b h => h)) (hby2.of_only hd0 (.inr (fun ad e => by simp))) (by rw [List.length_drop,H.out.2.2.2.2.1]) hnil2 (fun ad e hx => hBfp (by rw [← hlow2 ad e];exact mem_tf hx)) k3
    have HL := fun w1 v R' vb' vp' vd' f0' (q1 : Out wr.drew w1 v (r.put (bs.drop i)).1) (q2 : BAt w1 X R' vb' vp' vd' f0' (r.put (bs.drop i)).2) (q3 : Ev wr.drew w1 (bfp X R vb vp vd) (bfp X R' vb' vp' vd')) (q4 : ∀ g,v.ownBlock = some g → g ∉ bfp X R' vb' vp' vd') =>
     let e := hbd.turn (tk := .batch (r.put (bs.drop i)).2) ⟨X,R',vb',vp',vd',f0',rfl,rfl,q2⟩ q3
     loaded_any T wr.drew _ _ (N + i) { t with taker := .batch (r.put (bs.drop i)).2 } v (r.put (bs.drop i)).1 w1 ⟨S,vl,_,_,vr,n,_,hn,rfl,e.1⟩ (by simp) q1 k4 e.2 (turn_fresh hbd q1 q4) k5
    rw [← hte] at HL
    rw [hfp] at r5 r6
    have HX := LH (AI r1 (AI r2 (AI r3 (AI r5 (AI r6 (AI r7 (AI s2 hpe)))))))
    clear hSrr r1 r2 r3 r5 r6 r7 s2 hpe hdrop hb hbd hbrd hn hfp hglr hSr hbw hx hcb hib hit htt hrc k3 k4 k5 hte ha2 hby2 haw2 hnil2 hlow2 hBlow hBfp hd0
    go_upto_region 8 with fail
    go_region_law (first
     | (go_simp;go_at_call 243;refine (HP).mono ?_;rintro e w1 ⟨v,R',vb',vp',vd',f0',rfl,p1,p2,p3,p4⟩)
     | (go_simp;go_at_call 75;refine (HL _ v R' vb' vp' vd' f0' p1 p2 p3 p4).mono ?_;rintro e w2 ⟨v2,fp2,rfl,g1,g2,g3,g4⟩;obtain ⟨a1,c1,rfl,z1,z2,z3,z4,z5,z6⟩ := g1.read;have hown2 : w2.ownsRow w.heap.size 5 1 (.slice va out.length vc) out.length (out.map byteV) := ownsRow_only (HX.out.2.1.drew) g3.only HX.out.2.2.2.2.1)
     | (refine step_appAt rfl (.tmp 33) (.tmp 45) rfl w.heap.size (.slice va out.length vc) out.length out (by rfl) hown2 a1 _ c1 _ (by rfl) z1 rfl z3 (by have h1 := HX.out.2.2.2.2.2.2.1;rw [List.length_append] at h1;omega) (Nat.le_trans HX.out.1 g3.only.size) ?_;intro a' c' w3 y1 y2 y3))
    all_goals go_wp2_with fail
    all_goals go_ret
    all_goals (
     rw [HX.out.2.2.2.2.2.1,HX.out.2.2.2.2.2.2.2]
     have hvn : ∀ g,(Value.slice va out.length vc).ownBlock = some g → g ∉ fp2 := fun g e hm => by
      rcases g3.grow g hm with h' | h'
      ·exact HX.out.2.2.2.2.1 g e h'
      ·have h1 := (World.ownsRow.lt HX.out.2.1 g e).2
       simp at h'
       omega
     have evd : Ev w wr.drew fp (dfp T S vl (bfp X R vb vp vd) vr) := HX.out.2.2.2.1.drew
     refine ⟨_,fp2,rfl,?_,(g2.mono (by omega)).of_only (only_grown y2) (fun b hb hx => hvn b (mem_ownL.1 hx) hb),(evd.trans g3).fresh (only_grown y2) (fun k hk => (World.ownsRow.lt HX.out.2.1 k (mem_ownL.1 hk)).1),fun g e hm => ?_⟩
     ·unfold Out;rw [List.length_append];exact y1
     ·rcases y3 g e with h' | h'
      ·exact hvn g h' hm
      ·have := g2.live g hm;omega)
  ·obtain rfl : i = m := by omega
   have hd : bs.drop i = [] := List.drop_eq_nil_of_le (by rw [H.out.2.2.2.2.1];exact Nat.le_refl _)
   rw [hd] at r7
   have hpe : t.puts out [] = (out,t) := rfl
   have HX := LH (AI r2 (AI r4 (AI r5 (AI r6 (r7.trans hpe)))))
   have kl : ¬ ((i : Int) < (i : Int)) := by omega
   clear r1 r2 r3 r4 r5 r6 r7 r8 hd hpe
   go_wp2_with fail
   go_ret
   rw [HX.out.2.2.2.2]
   exact ⟨_,_,rfl,HX.out.1,HX.out.2.1,HX.out.2.2.1,HX.out.2.2.2.1⟩
def BoardOk (t : M.Board) (bs : M.B) : Prop := if t.isTaking then TakenOk t bs else PutsOk [] t bs
theorem DPost.mono {w0 w' : World} {T N N' : Nat} {fp : List Nat} {r : M.B × M.Board} {x : Ending} (h : DPost w0 T fp N r x w') (hN : N ≤ N') : DPost w0 T fp N' r x w' := by
 obtain ⟨v,fp',h1,h2,h3,h4,h5⟩ := h
 exact ⟨v,fp',h1,h2,h3.mono hN,h4,h5⟩
theorem bput_board (T : Nat) (fp : List Nat) (N : Nat) (t : M.Board) (a : Option Addr) (m c : Nat) (bs : M.B) (w : World) (h : Boarded w T fp N t) (hg : Glob w) (hS : Sep fp glb) (hby : Bytes w a bs) (hbl : bs.length = m) (hmc : m ≤ c) (hnil : a = none → c = 0) (haw : Away a fp) (hlow : ∀ ad,a = some ad → bs ≠ [] → ad.block < w.heap.size) (hk : BoardOk t bs) (hN : N + m ≤ 1000000) :
  Calls Tryz.prog 50 #[.pointer (some ⟨T,0,none⟩),.slice a m c] w (DPost w T fp (N + m) (t.put bs)) := by
 unfold BoardOk at hk
 unfold M.Board.put
 cases ht : t.taker with
 | none =>
  have hi := (isT t).2 ht
  rw [hi] at hk ⊢
  exact puts_any T fp N t a m c bs w h hg hS ht hby hbl hmc hnil haw hlow hk hN
 | one r =>
  have hi : t.isTaking = true := by unfold M.Board.isTaking;rw [ht]
  rw [hi] at hk ⊢
  exact (taken_one T fp N t r a m c bs w h ht hby hbl hnil haw hk).mono fun _ _ q => q.mono (by omega)
 | batch r =>
  have hi : t.isTaking = true := by unfold M.Board.isTaking;rw [ht]
  rw [hi] at hk ⊢
  exact (taken_batch T fp N t r a m c bs w h hg hS ht hby hbl hnil haw hk).mono fun _ _ q => q.mono (by omega)
def board0 (c : M.Cfg) : M.Board := ⟨c,true,[],.none,0,fun _ => 0⟩
def isZ : Value → Bool
 | .int .u8 z => z == 0
 | _ => false
theorem isZ_eq {v : Value} (h : isZ v = true) : v = .int .u8 0 := by
 unfold isZ at h
 split at h
 ·simp at h;rw [h]
 ·simp at h
theorem zero121_size : Tryz.zeroCells121.size = 16384 := by kernel_rfl
theorem zero121_all : Tryz.zeroCells121.toList.all isZ = true := by kernel_rfl
theorem zero121_at (k : Nat) (hk : k < 16384) : Tryz.zeroCells121[k]? = some (.int .u8 0) := by
 have hk' : k < Tryz.zeroCells121.size := by rw [zero121_size];exact hk
 rw [Array.getElem?_eq_getElem hk']
 have h := List.all_eq_true.1 zero121_all (Tryz.zeroCells121[k]) (Array.getElem_mem_toList hk')
 rw [isZ_eq h]
theorem bof_any (c : M.Cfg) (w : World) (h : CfgOk c) :
  Calls Tryz.prog 24 #[.agg #[.int .i64 c.tries,.int .i64 c.wait]] w fun e w' => ∃ T fp,e = .returned (.pointer (some ⟨T,0,none⟩)) ∧ Boarded w' T fp 0 (board0 c) ∧ (∀ b,b ∈ fp → w.heap.size ≤ b) ∧ T ∈ fp ∧ Only [] w w' := by
 go_enter Tryz.func24,Tryz.ntmps24
 go_wp2_with fail
 go_ret
 obtain ⟨w1,hw1⟩ : ∃ w1,w1 = w.alloc (.cells #[.int .i64 c.tries,.int .i64 c.wait] 31) := ⟨_,rfl⟩
 obtain ⟨w2,hw2⟩ : ∃ w2,w2 = w1.alloc (.cells Tryz.zeroCells121 121) := ⟨_,rfl⟩
 have s1 : w1.heap.size = w.heap.size + 1 := by rw [hw1];simp
 have s2 : w2.heap.size = w.heap.size + 1 + 1 := by rw [hw2];simp [s1]
 have hS := heap_alloc_new w1 (.cells Tryz.zeroCells121 121)
 rw [s1,← hw2] at hS
 have hT := heap_alloc_new w2 (.cells (brdA (board0 c) (w.heap.size + 1) (.slice none 0 0) .nilIface (.slice none 0 0)) 84)
 rw [s2] at hT
 have o12 : Only [] w w2 := by rw [hw2,hw1];exact (((Only.refl [] w).alloc _).alloc _)
 have o3 : Only [] w (w2.alloc (.cells (brdA (board0 c) (w.heap.size + 1) (.slice none 0 0) .nilIface (.slice none 0 0)) 84)) := o12.alloc _
 rw [← hw1,← hw2]
 refine ⟨_,_,rfl,⟨w.heap.size + 1,.slice none 0 0,.nilIface,[],.slice none 0 0,0,fun b => if b = w.heap.size + 1 then 1 else 0,Nat.le_refl _,rfl,⟨hT,?_,RowB.nil _,⟨rfl,rfl⟩,⟨[],World.ownsRow_nil _ _ _ _⟩,by simp,by simp,by intro b hb;simp [ownL,Value.ownBlock] at hb,by intro b hb;simp at hb,by intro b hb;simp [ownL,Value.ownBlock] at hb,by simp [board0],h⟩⟩,?_,by simp [dfp],o3⟩
 ·refine ⟨Tryz.zeroCells121,((Only.refl [] w2).alloc _).heap hS (by simp),zero121_size,fun k hk => zero121_at k hk⟩
 ·intro b hb
  simp [dfp,ownL,Value.ownBlock] at hb
  omega
end Go.Proofs.YtplaamfoeaaaiaaGreatDoor
