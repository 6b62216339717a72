/- A part of the proofs of the laws of lifelinetop (TopNever, TopLost, TopRoom): contracts of functions that these laws reach. No condition of its own. -/
import Derived.Test.YtplaamfoeaaaiaaGreatDoorK02
import Derived.Test.YtplaamfoeaaaiaaGreatDoorK06
import Derived.StillTailTactics
set_option maxRecDepth 100000
set_option maxHeartbeats 8000000
set_option linter.unusedVariables false
namespace Go.Proofs.YtplaamfoeaaaiaaGreatDoor
open Go.RowKit
theorem u8_xor (a b : UInt8) : bits .xor .u8 (a.toNat : Int) (b.toNat : Int) = ((a ^^^ b).toNat : Int) := by
 have ha := a.toNat_lt
 have hb := b.toNat_lt
 have h : a.toNat ^^^ b.toNat < 2 ^ 8 := Nat.xor_lt_two_pow (by omega) (by omega)
 unfold bits
 have e1 : IntKind.u8.bits = 8 := rfl
 simp only [ofInt_nat,BitVec.toNat_xor,BitVec.toNat_ofNat,e1]
 rw [Nat.mod_eq_of_lt (by omega : a.toNat < 2 ^ 8),Nat.mod_eq_of_lt (by omega : b.toNat < 2 ^ 8),UInt8.toNat_xor]
 rw [IntKind.wrap_u8];omega
def Passing (w0 : World) (vm0 : Value) (P : Nat) (aa : Option Addr) (ca : Nat) (x : M.Wire) (out : List UInt8) (wr : World) : Prop :=
 ∃ a cp vo,Marked w0.heap.size (w0.heap.size + 1) P 0 (w0.heap.size + 2) (.slice aa x.acts.length ca) (.int .i64 x.n) (.slice a x.marks cp) vo x.marks out wr ∧ Wired wr P 0 aa ca (.slice a x.marks cp) x ∧
  Only (P :: ownL vm0) w0 wr ∧ (∀ g,(Value.slice a x.marks cp).ownBlock = some g → vm0.ownBlock = some g ∨ w0.heap.size ≤ g) ∧ (∀ ad,aa = some ad → x.acts ≠ [] → ad.block < w0.heap.size)
def plainA (x : M.Wire) : Prop := ∀ y,y ∈ x.acts → y.insert = false
theorem act_plain {x : M.Wire} (h : plainA x) : x.act.insert = false := by
 unfold M.Wire.act
 rw [List.getD_eq_getElem?_getD]
 cases hk : x.acts[x.n]? with
 | none => rfl
 | some y => exact h y (List.mem_of_getElem? hk)
theorem pass1_drop {x : M.Wire} (h : plainA x) (hd : x.act.drop = true) (out : List UInt8) (c : UInt8) : M.Wire.pass1 (out,x) c = (out,{ x with n := x.n + 1 }) := by
 simp [M.Wire.pass1,act_plain h,hd]
theorem pass1_keep {x : M.Wire} (h : plainA x) (hd : x.act.drop = false) (out : List UInt8) (c : UInt8) : M.Wire.pass1 (out,x) c = (out ++ [c ^^^ x.act.turn],{ x with n := x.n + 1,marks := x.marks + 1 }) := by
 simp [M.Wire.pass1,act_plain h,hd]
theorem pass_facts (x : M.Wire) (bs : List UInt8) (h : plainA x) : (x.pass bs).2.acts = x.acts ∧ (x.pass bs).2.n = x.n + bs.length ∧ (x.pass bs).2.marks ≤ x.marks + bs.length ∧ (x.pass bs).1.length ≤ bs.length := by
 have main : ∀ (bs : List UInt8) (p : List UInt8 × M.Wire),plainA p.2 → (bs.foldl M.Wire.pass1 p).2.acts = p.2.acts ∧ (bs.foldl M.Wire.pass1 p).2.n = p.2.n + bs.length ∧ (bs.foldl M.Wire.pass1 p).2.marks ≤ p.2.marks + bs.length ∧ (bs.foldl M.Wire.pass1 p).1.length ≤ p.1.length + bs.length := by
  intro bs
  induction bs with
  | nil => intro p _;simp
  | cons c r ih =>
   intro p hp
   rw [List.foldl_cons]
   obtain ⟨out,y⟩ := p
   cases hd : y.act.drop with
   | true =>
    rw [pass1_drop hp hd]
    have := ih (out,{ y with n := y.n + 1 }) hp
    refine ⟨this.1,?_,?_,?_⟩
    ·rw [this.2.1];simp;omega
    ·have := this.2.2.1;simp at this ⊢;omega
    ·have := this.2.2.2;simp at this ⊢;omega
   | false =>
    rw [pass1_keep hp hd]
    have := ih (out ++ [c ^^^ y.act.turn],{ y with n := y.n + 1,marks := y.marks + 1 }) hp
    refine ⟨this.1,?_,?_,?_⟩
    ·rw [this.2.1];simp;omega
    ·have := this.2.2.1;simp at this ⊢;omega
    ·have := this.2.2.2;simp at this ⊢;omega
 have := main bs ([],x) h
 simpa [M.Wire.pass] using this
theorem pass_step (x : M.Wire) (bs : List UInt8) (k : Nat) (hk : k < bs.length) : x.pass (bs.take (k + 1)) = M.Wire.pass1 (x.pass (bs.take k)) (bs.getD k 0) := by
 unfold M.Wire.pass
 rw [take_snoc bs k hk,List.foldl_append]
 rfl
theorem wired_next {w : World} {P base : Nat} {aa : Option Addr} {ca : Nat} {vm : Value} {x : M.Wire} (h : Wired w P base aa ca vm x) (hn : x.n + 1 ≤ 1099511627776) : Wired (w.setCell ⟨P,1,none⟩ (.int .i64 (x.n + 1 : Nat))) P base aa ca vm { x with n := x.n + 1 } := by
 obtain ⟨xs,hm⟩ := h.marks
 have o := only_set w P 1 (.int .i64 (x.n + 1 : Nat))
 refine ⟨hs_same h.str rfl,fun k y hk => ?_,⟨xs,ownsRow_only hm o (fun g e hg => ?_)⟩,h.bp,h.sep,hn,h.mle,h.ale⟩
 ·obtain ⟨g,e,g1,g2,g3,y0,y1,y2,y3⟩ := h.acts k y hk
  exact ⟨g,e,g1,g2,g3,o.cell y0 (by simpa using g2),o.cell y1 (by simpa using g2),o.cell y2 (by simpa using g2),o.cell y3 (by simpa using g2)⟩
 ·simp at hg;subst hg;exact h.sep e
theorem marked_next {X O P bm bo : Nat} {c0 c1 vm vo : Value} {K : Nat} {out : List UInt8} {w : World} (h : Marked X O P bm bo c0 c1 vm vo K out w) (u : Value) : Marked X O P bm bo c0 u vm vo K out (w.setCell ⟨P,1,none⟩ u) := by
 obtain ⟨xs,hm⟩ := h.hm
 have o := only_set w P 1 u
 exact ⟨o.heap h.hX (by simpa using h.nXP),o.heap h.hO (by simpa using h.nOP),hs_same h.hP rfl,⟨xs,ownsRow_only hm o (fun g e => by simpa using (h.nm g e).2.2.1)⟩,ownsRow_only h.ho o (fun g e => by simpa using (h.no g e).2.2),h.nXO,h.nXP,h.nOP,h.nm,h.no⟩
theorem wired_mark {w w' : World} {P : Nat} {aa : Option Addr} {ca X O bo K cp cp' : Nat} {a a' : Option Addr} {vo vo' : Value} {out' : List UInt8} {x : M.Wire} (h : Wired w P 0 aa ca (.slice a x.marks cp) x) (hx : x.marks + 1 ≤ 1099511627776) (hlt : ∀ ad,aa = some ad → x.acts ≠ [] → ad.block < K) (hOK : K ≤ O) (hvo : ∀ g,vo.ownBlock = some g → K ≤ g) (hm : Marked X O P 0 bo (.slice aa x.acts.length ca) (.int .i64 x.n) (.slice a' (x.marks + 1) cp') vo' (x.marks + 1) out' w') (ho : Only (O :: P :: ownL (.slice a x.marks cp) ++ ownL vo) w w') (hf : ∀ g,(Value.slice a' (x.marks + 1) cp').ownBlock = some g → (Value.slice a x.marks cp).ownBlock = some g ∨ w.heap.size ≤ g) :
  Wired w' P 0 aa ca (.slice a' (x.marks + 1) cp') { x with marks := x.marks + 1 } := by
 refine ⟨hm.hP,fun k y hk => ?_,hm.hm,Nat.zero_le _,fun e => (hm.nm P e).2.2.1 rfl,h.nle,hx,h.ale⟩
 obtain ⟨g,e,g1,g2,g3,y0,y1,y2,y3⟩ := h.acts k y hk
 have hg := hlt _ e (by intro e';simp only at hk;rw [e'] at hk;simp at hk)
 have hn : g ∉ O :: P :: ownL (.slice a x.marks cp) ++ ownL vo := by
  intro hb
  simp only [List.cons_append,List.mem_cons,List.mem_append] at hb
  rcases hb with hb | hb | hb | hb
  ·simp at hg;omega
  ·exact g2 hb
  ·exact g3 (by simpa [ownL] using hb)
  ·have := hvo g (by simpa [ownL] using hb)
   simp at hg
   omega
 refine ⟨g,e,g1,g2,fun e' => ?_,ho.cell y0 hn,ho.cell y1 hn,ho.cell y2 hn,ho.cell y3 hn⟩
 have hgw := World.block_lt_of_cell? w _ y0
 rcases hf g e' with h' | h'
 ·exact g3 h'
 ·simp at hgw;omega
theorem Wired.of_none {w w' : World} {P base : Nat} {aa : Option Addr} {ca : Nat} {vm : Value} {x : M.Wire} (h : Wired w P base aa ca vm x) (o : Only [] w w') : Wired w' P base aa ca vm x := by
 obtain ⟨xs,hm⟩ := h.marks
 refine ⟨o.heap h.str (by simp),fun k y hk => ?_,⟨xs,ownsRow_only hm o (fun g e => by simp)⟩,h.bp,h.sep,h.nle,h.mle,h.ale⟩
 obtain ⟨g,e,g1,g2,g3,y0,y1,y2,y3⟩ := h.acts k y hk
 exact ⟨g,e,g1,g2,g3,o.cell y0 (by simp),o.cell y1 (by simp),o.cell y2 (by simp),o.cell y3 (by simp)⟩
theorem Passing.of_none {w0 : World} {vm0 : Value} {P : Nat} {aa : Option Addr} {ca : Nat} {x : M.Wire} {out : List UInt8} {wr w' : World} (h : Passing w0 vm0 P aa ca x out wr) (o : Only [] wr w') : Passing w0 vm0 P aa ca x out w' := by
 obtain ⟨a,cp,vo,h1,h2,h3,h4,h5⟩ := h
 exact ⟨a,cp,vo,h1.of_only o,h2.of_none o,h3.trans (o.weaken (by simp)),h4,h5⟩
theorem Passing.next {w0 : World} {vm0 : Value} {P : Nat} {aa : Option Addr} {ca : Nat} {x : M.Wire} {out : List UInt8} {wr : World} (h : Passing w0 vm0 P aa ca x out wr) (hn : x.n + 1 ≤ 1099511627776) : Passing w0 vm0 P aa ca { x with n := x.n + 1 } out (wr.setCell ⟨P,1,none⟩ (.int .i64 (x.n + 1 : Nat))) := by
 obtain ⟨a,cp,vo,h1,h2,h3,h4,h5⟩ := h
 exact ⟨a,cp,vo,marked_next h1 _,wired_next h2 hn,h3.setCell (by simp) _,h4,h5⟩
theorem act_plain_any (P base : Nat) (aa : Option Addr) (ca : Nat) (vm : Value) (x : M.Wire) (w : World) (h : Wired w P base aa ca vm x) (hp : plainA x) (d : Bool) (t : UInt8) (hd : x.act.drop = d) (ht : x.act.turn = t) :
  Calls Tryz.prog 74 #[.pointer (some ⟨P,0,none⟩)] w fun e w' => ∃ z : Nat,e = .returned (.agg #[.bool d,.int .u8 t.toNat,.bool false,.int .u8 z]) ∧ Only [] w w' := by
 refine (act_any P base aa ca vm x w h).mono ?_
 rintro e w' ⟨rfl,ho⟩
 refine ⟨x.act.byte.toNat,?_,ho⟩
 have := act_plain hp
 simp [actV,hd,ht,this]
theorem Wired.start {w : World} {P : Nat} {aa : Option Addr} {ca : Nat} {vm : Value} {x : M.Wire} (h : Wired w P 0 aa ca vm x) (hv : ∃ a cp,vm = .slice a x.marks cp) (haa : ∀ ad,aa = some ad → x.acts ≠ [] → ad.block < w.heap.size) :
  Passing w vm P aa ca x [] ((w.alloc (.cells #[.pointer (some ⟨P,0,none⟩)] 53)).alloc (.cells #[.slice none 0 0] 22)) := by
 obtain ⟨a,cp,rfl⟩ := hv
 have hP := heap_lt h.str
 have o : Only [] w ((w.alloc (.cells #[.pointer (some ⟨P,0,none⟩)] 53)).alloc (.cells #[.slice none 0 0] 22)) := ((Only.refl [] w).alloc _).alloc _
 obtain ⟨xs,hm⟩ := h.marks
 have hml := hm.lt
 have hs : (w.alloc (.cells #[.pointer (some ⟨P,0,none⟩)] 53)).heap.size = w.heap.size + 1 := by simp
 refine ⟨a,cp,.slice none 0 0,⟨?_,?_,o.heap h.str (by simp),⟨xs,ownsRow_only hm o (fun g e => by simp)⟩,World.ownsRow_nil _ _ _ _,by omega,by omega,by omega,fun g e => ?_,fun g e => by simp [Value.ownBlock] at e⟩,h.of_none o,o.weaken (by simp),fun g e => .inl e,haa⟩
 ·rw [Below.heap_alloc _ _ _ (by simp)];exact heap_alloc_new w _
 ·rw [← hs];exact heap_alloc_new _ _
 ·have := hml g e
  exact ⟨by omega,by omega,fun e' => h.sep (e' ▸ e),by simp [Value.ownBlock]⟩
theorem Passing.mark {w0 : World} {vm0 : Value} {P : Nat} {aa : Option Addr} {ca : Nat} {x : M.Wire} {out : List UInt8} {wr w' : World} {c : UInt8} {a a' : Option Addr} {cp cp' : Nat} {vo vo' : Value} (h1 : Marked w0.heap.size (w0.heap.size + 1) P 0 (w0.heap.size + 2) (.slice aa x.acts.length ca) (.int .i64 x.n) (.slice a x.marks cp) vo x.marks out wr) (h2 : Wired wr P 0 aa ca (.slice a x.marks cp) x) (h3 : Only (P :: ownL vm0) w0 wr) (h4 : ∀ g,(Value.slice a x.marks cp).ownBlock = some g → vm0.ownBlock = some g ∨ w0.heap.size ≤ g) (h5 : ∀ ad,aa = some ad → x.acts ≠ [] → ad.block < w0.heap.size) (hm : Marked w0.heap.size (w0.heap.size + 1) P 0 (w0.heap.size + 2) (.slice aa x.acts.length ca) (.int .i64 x.n) (.slice a' (x.marks + 1) cp') vo' (x.marks + 1) (out ++ [c]) w') (ho : Only ((w0.heap.size + 1) :: P :: ownL (.slice a x.marks cp) ++ ownL vo) wr w') (hf : ∀ g,(Value.slice a' (x.marks + 1) cp').ownBlock = some g → (Value.slice a x.marks cp).ownBlock = some g ∨ wr.heap.size ≤ g) (hx : x.marks + 1 ≤ 1099511627776) :
  Passing w0 vm0 P aa ca { x with marks := x.marks + 1 } (out ++ [c]) w' := by
 have hvo : ∀ g,vo.ownBlock = some g → w0.heap.size + 2 ≤ g := fun g e => (h1.ho.lt g e).1
 refine ⟨a',cp',vo',hm,wired_mark (K := w0.heap.size + 1) h2 hx (fun ad e e' => by have := h5 ad e e';omega) (Nat.le_refl _) (fun g e => by have := hvo g e;omega) hm ho hf,?_,fun g e => ?_,h5⟩
 ·refine ⟨ho.os.trans h3.os,ho.tape.trans h3.tape,ho.output.trans h3.output,Nat.le_trans h3.size ho.size,fun k hk hn => ?_⟩
  refine (ho.block k (Nat.lt_of_lt_of_le hk h3.size) fun hb => ?_).trans (h3.block k hk hn)
  simp only [List.cons_append,List.mem_cons,List.mem_append] at hb
  rcases hb with hb | hb | hb | hb
  ·omega
  ·exact hn (by simp [hb])
  ·rcases h4 k (by simpa [ownL] using hb) with h' | h'
   ·exact hn (by simp [ownL,h'])
   ·omega
  ·have := hvo k (by simpa [ownL] using hb);omega
 ·rcases hf g e with h' | h'
  ·exact h4 g h'
  ·right;exact Nat.le_trans h3.size h'
theorem pass_any (P : Nat) (aa : Option Addr) (ca : Nat) (a0 : Option Addr) (cp0 : Nat) (x0 : M.Wire) (ab : Option Addr) (bs : List UInt8) (n cb : Nat) (w : World) (h : Wired w P 0 aa ca (.slice a0 x0.marks cp0) x0) (hp : plainA x0) (haa : ∀ ad,aa = some ad → x0.acts ≠ [] → ad.block < w.heap.size) (hb : Bytes w ab bs) (hn : bs.length = n) (hab : Away ab (P :: ownL (.slice a0 x0.marks cp0)))  (h1 : x0.n + n ≤ 1099511627776) (h2 : x0.marks + n ≤ 1099511627776) :
  Calls Tryz.prog 47 #[.pointer (some ⟨P,0,none⟩),.slice ab n cb] w fun e w' => ∃ v a cp,e = .returned v ∧ Out w w' v (x0.pass bs).1 ∧ Wired w' P 0 aa ca (.slice a (x0.pass bs).2.marks cp) (x0.pass bs).2 ∧ Only (P :: ownL (.slice a0 x0.marks cp0)) w w' ∧ (∀ g,(Value.slice a (x0.pass bs).2.marks cp).ownBlock = some g → ((Value.slice a0 x0.marks cp0).ownBlock = some g ∨ w.heap.size ≤ g) ∧ v.ownBlock ≠ some g) ∧ v.ownBlock ≠ some P := by
 have hPl := heap_lt h.str
 have hml : ∀ g,(Value.slice a0 x0.marks cp0).ownBlock = some g → g < w.heap.size := fun g e => by obtain ⟨xs,hm⟩ := h.marks;exact (hm.lt g e).2
 have start := h.start ⟨_,_,rfl⟩ haa
 have HS := LH start
 have HB := LH (AI hb hab)
 have HN := LH hn
 have HP := LH hp
 clear start hb hab hn hp h
 go_enter Tryz.func47,Tryz.ntmps47
 go_wp2_with fail
 have hab1 : ∀ wr : World,Only (P :: ownL (.slice a0 x0.marks cp0)) w wr → Bytes wr ab bs := fun wr ho => HB.out.1.of_only ho (.inr HB.out.2)
 have HAB := LH hab1
 clear hab1
 have hN9 : n ≤ 1099511627776 := by omega
 go_loopw [13] (fun i wr => ∃ (k : Nat) (x : M.Wire) (out : List UInt8),k ≤ n ∧ i = .int .i64 k ∧ (out,x) = x0.pass (bs.take k) ∧ Passing w (.slice a0 x0.marks cp0) P aa ca x out wr) (fun i _ => n - (intOf i).toNat)
 case atStart => exact ⟨0,x0,[],Nat.zero_le _,rfl,rfl,HS.out⟩
 case round =>
  obtain ⟨k,x,out,hk,rfl,hox,hpas⟩ := hrel
  by_cases hlt : k < n
  ·obtain ⟨a,cp,vo,q1,q2,q3,q4,q5⟩ := hpas
   have hfx := pass_facts x0 (bs.take k) HP.out
   rw [← hox] at hfx
   simp only [List.length_take] at hfx
   have hkl : min k bs.length = k := by rw [HN.out];omega
   rw [hkl] at hfx
   have hpl : plainA x := fun y hy => HP.out y (by rw [← hfx.1];exact hy)
   have hnx := pass_step x0 bs k (by rw [HN.out];exact hlt)
   rw [← hox] at hnx
   have hxn : x.n + 1 ≤ 1099511627776 := by omega
   have hxm : x.marks + 1 ≤ 1099511627776 := by omega
   have hol : out.length < 1099511627776 := by omega
   obtain ⟨ob,oo,hba,hc⟩ := (HAB.out wr q3).at k (by rw [HN.out];exact hlt)
   subst hba
   obtain ⟨c,hcc⟩ : ∃ c,c = bs.getD k 0 := ⟨_,rfl⟩
   rw [← hcc] at hc hnx
   obtain ⟨d,hd⟩ : ∃ d,x.act.drop = d := ⟨_,rfl⟩
   obtain ⟨tu,htu⟩ : ∃ tu,x.act.turn = tu := ⟨_,rfl⟩
   have cX : wr.cell? ⟨w.heap.size,0,none⟩ = some (.pointer (some ⟨P,0,none⟩)) := cell_at q1.hX rfl
   have cN : wr.cell? ⟨P,1,none⟩ = some (.int .i64 x.n) := cell_at q1.hP rfl
   have fN : wr.frozen? ⟨P,1,none⟩ = false := free_at q1.hP
   have hXw : w.heap.size < wr.heap.size := heap_lt q1.hX
   have hPw : P < wr.heap.size := heap_lt q1.hP
   have hcall := fun w' (o : Only [] wr w') => act_plain_any P 0 aa ca _ x w' (q2.of_none o) hpl d tu hd htu
   have HC := LH (AI hcall hpl)
   have HQ := LH (AI q1 (AI q2 (AI q3 (AI q4 q5))))
   have HX := LH (AI hox (AI hnx (AI hd htu)))
   clear hcall q1 q2 q3 q4 q5 hox hnx hd htu hpl hfx hkl hcc
   cases d with
   | true =>
    go_wp2_with (first | (go_at_call 74;refine (HC.out.1 _ (Only.refl _ _)).mono ?_;rintro e w1 ⟨z,rfl,ho1⟩;have cX1 := ho1.cell cX (by simp);have cN1 := ho1.cell cN (by simp);have hX1 := heap_lt (ho1.heap HQ.out.1.hX (by simp));have hP1 := heap_lt (ho1.heap HQ.out.1.hP (by simp));have fN1 : w1.frozen? ⟨P,1,none⟩ = false := free_at (ho1.heap HQ.out.1.hP (by simp));have HO1 := LH ho1;clear ho1 cX cN fN hXw hPw))
    have hp1 : Passing w (.slice a0 x0.marks cp0) P aa ca x out w1 := Passing.of_none ⟨a,cp,vo,HQ.out⟩ HO1.out
    refine ⟨⟨k + 1,{ x with n := x.n + 1 },out,by omega,by go_num,?_,(hp1.next hxn).of_none ((Only.refl [] _).alloc _)⟩,by simp [intOf];omega⟩
    rw [HX.out.2.1,pass1_drop HC.out.2 HX.out.2.2.1]
   | false =>
    go_wp2_with (first | (go_at_call 74;refine (HC.out.1 _ (Only.refl _ _)).mono ?_;rintro e w1 ⟨z,rfl,ho1⟩;have cX1 := ho1.cell cX (by simp);have cN1 := ho1.cell cN (by simp);have hX1 := heap_lt (ho1.heap HQ.out.1.hX (by simp));have hP1 := heap_lt (ho1.heap HQ.out.1.hP (by simp));have fN1 : w1.frozen? ⟨P,1,none⟩ = false := free_at (ho1.heap HQ.out.1.hP (by simp));have HO1 := LH ho1;clear ho1 cX cN fN hXw hPw))
    obtain ⟨w2,hw2⟩ : ∃ w2,w2 = w1.alloc (.cells #[.bool false,.int .u8 tu.toNat,.bool false,.int .u8 z] 42) := ⟨_,rfl⟩
    have ho2 : Only [] wr w2 := by rw [hw2];exact HO1.out.alloc _
    have h2b : w2.heap[w1.heap.size]? = some (.cells #[.bool false,.int .u8 tu.toNat,.bool false,.int .u8 z] 42 (0,0)) := by rw [hw2];exact heap_alloc_new w1 _
    rw [← hw2]
    have t1 : w2.cell? ⟨w1.heap.size,1,none⟩ = some (.int .u8 tu.toNat) := cell_at h2b rfl
    have m2 := HQ.out.1.of_only ho2
    have cX2 : w2.cell? ⟨w.heap.size,0,none⟩ = some (.pointer (some ⟨P,0,none⟩)) := cell_at m2.hX rfl
    have cN2 : w2.cell? ⟨P,1,none⟩ = some (.int .i64 x.n) := cell_at m2.hP rfl
    obtain ⟨y,hy⟩ : ∃ y,y = c ^^^ tu := ⟨_,rfl⟩
    have hxr := u8_xor c tu
    rw [← hy] at hxr
    have HXR := LH hxr
    have HY := LH hy
    clear hxr hy
    have hO2 := heap_lt m2.hO
    have HO2 := LH (AI ho2 m2)
    have hsz2 := ho2.size
    have hszr := HQ.out.2.2.1.size
    clear hw2 ho2 h2b m2 cX1 cN1 hX1 hP1 fN1
    go_still_tail 13,(by kernel_rfl)
    change wpList _ _ _ _ _ w2.drew
    rw [HXR.out]
    go_wp2_with (first | (go_at_call 73;refine (mark_any w.heap.size (w.heap.size + 1) P 0 (w.heap.size + 2) _ _ a cp vo x.marks out y x.n _ w2.drew (HO2.out.2.of_only ((Only.refl [] w2).drew)) (by omega) hol (Nat.zero_le _) (by simp;omega)).mono ?_;rintro e w3 ⟨rfl,a',cp',vo',r1,r2,r3,r4⟩;have cX3 : w3.cell? ⟨w.heap.size,0,none⟩ = some (.pointer (some ⟨P,0,none⟩)) := cell_at r1.hX rfl;have cN3 : w3.cell? ⟨P,1,none⟩ = some (.int .i64 x.n) := cell_at r1.hP rfl;have fN3 : w3.frozen? ⟨P,1,none⟩ = false := free_at r1.hP;have HR := LH (AI r1 (AI r2 r3));clear r1 r2 r3 r4 cX2 cN2 t1))
    have hp3 : Passing w (.slice a0 x0.marks cp0) P aa ca { x with marks := x.marks + 1 } (out ++ [y]) w3 := by
     have oo2 : Only [] wr w2.drew := HO2.out.1.drew
     exact Passing.mark (HO2.out.2.of_only ((Only.refl [] w2).drew)) (HQ.out.2.1.of_none oo2) (HQ.out.2.2.1.trans (oo2.weaken (by simp))) HQ.out.2.2.2.1 HQ.out.2.2.2.2 HR.out.1 HR.out.2.1 HR.out.2.2 hxm
    refine ⟨⟨k + 1,{ x with n := x.n + 1,marks := x.marks + 1 },out ++ [y],by omega,by go_num,?_,hp3.next hxn⟩,by simp [intOf];omega⟩
    rw [HX.out.2.1,pass1_keep HC.out.2 HX.out.2.2.1,HX.out.2.2.2,HY.out]
  ·obtain rfl : k = n := by omega
   have ht : bs.take k = bs := by rw [List.take_of_length_le];rw [HN.out];exact Nat.le_refl _
   rw [ht] at hox
   obtain ⟨a,cp,vo,q1,q2,q3,q4,q5⟩ := hpas
   have cO : wr.cell? ⟨w.heap.size + 1,0,none⟩ = some vo := cell_at q1.hO rfl
   have HQ := LH (AI q1 (AI q2 (AI q3 (AI q4 q5))))
   have HX := LH hox
   obtain ⟨ao,co,hvo⟩ := own_slice q1.ho
   rw [hvo] at cO
   have HV := LH hvo
   clear q1 q2 q3 q4 q5 hox hvo ht
   go_wp2_with fail
   go_ret
   have e := HX.out
   rw [← e]
   refine ⟨_,a,cp,rfl,?_,HQ.out.2.1,HQ.out.2.2.1,fun g hg => ⟨HQ.out.2.2.2.1 g hg,?_⟩,?_⟩
   ·have := HQ.out.1.ho
    rw [HV.out] at this
    exact ownsRow_base this (by omega)
   ·have := (HQ.out.1.nm g hg).2.2.2
    rw [HV.out] at this
    exact this
   ·intro e'
    have e2 := (HQ.out.1.no P (by rw [HV.out];exact e')).2.2
    exact e2 rfl
def ActsIn (w : World) (a : Option Addr) (n c : Nat) (xs : List M.WAct) : Prop :=
 xs.length = n ∧ ((a = none ∧ n = 0 ∧ c = 0) ∨ ∃ g,a = some ⟨g,0,none⟩ ∧ 0 < n ∧ ∀ k y,xs[k]? = some y → w.cell? ⟨g,k * 4,none⟩ = some (.bool y.drop) ∧ w.cell? ⟨g,k * 4 + 1,none⟩ = some (byteV y.turn) ∧ w.cell? ⟨g,k * 4 + 2,none⟩ = some (.bool y.insert) ∧ w.cell? ⟨g,k * 4 + 3,none⟩ = some (byteV y.byte))
def actCells : List M.WAct → List Value
 | [] => []
 | x :: r => .bool x.drop :: byteV x.turn :: .bool x.insert :: byteV x.byte :: actCells r
theorem actCells_length (xs : List M.WAct) : (actCells xs).length = xs.length * 4 := by
 induction xs with
 | nil => rfl
 | cons x r ih => simp [actCells,ih];omega
theorem actCells_get (xs : List M.WAct) (k : Nat) (y : M.WAct) (h : xs[k]? = some y) : (actCells xs)[k * 4]? = some (.bool y.drop) ∧ (actCells xs)[k * 4 + 1]? = some (byteV y.turn) ∧ (actCells xs)[k * 4 + 2]? = some (.bool y.insert) ∧ (actCells xs)[k * 4 + 3]? = some (byteV y.byte) := by
 induction xs generalizing k with
 | nil => simp at h
 | cons x r ih =>
  cases k with
  | zero => simp at h;subst h;simp [actCells]
  | succ k =>
   have h' := ih k (by simpa using h)
   have e : (k + 1) * 4 = k * 4 + 1 + 1 + 1 + 1 := by omega
   rw [e]
   simpa [actCells] using h'
theorem actCells_one (xs : List M.WAct) : ∀ u ∈ actCells xs,u.oneCell' = true := by
 induction xs with
 | nil => intro u hu;simp [actCells] at hu
 | cons x r ih =>
  intro u hu
  simp only [actCells,List.mem_cons] at hu
  rcases hu with rfl | rfl | rfl | rfl | hu
  ·rfl
  ·rfl
  ·rfl
  ·rfl
  ·exact ih u hu
theorem actCells_at (xs : List M.WAct) (w : World) (g : Nat) (h : ∀ k y,xs[k]? = some y → w.cell? ⟨g,k * 4,none⟩ = some (.bool y.drop) ∧ w.cell? ⟨g,k * 4 + 1,none⟩ = some (byteV y.turn) ∧ w.cell? ⟨g,k * 4 + 2,none⟩ = some (.bool y.insert) ∧ w.cell? ⟨g,k * 4 + 3,none⟩ = some (byteV y.byte)) :
  ∀ j u,(actCells xs)[j]? = some u → w.cell? ((⟨g,0,none⟩ : Addr).add j) = some u := by
 intro j u hu
 rw [Addr.add_lit,Nat.zero_add]
 have hj : j < xs.length * 4 := by rw [← actCells_length];exact (List.getElem?_eq_some_iff.1 hu).1
 have hk : j / 4 < xs.length := by omega
 obtain ⟨y,hy⟩ : ∃ y,xs[j / 4]? = some y := ⟨_,List.getElem?_eq_getElem hk⟩
 obtain ⟨a0,a1,a2,a3⟩ := actCells_get xs (j / 4) y hy
 obtain ⟨b0,b1,b2,b3⟩ := h (j / 4) y hy
 have hm : j % 4 < 4 := Nat.mod_lt _ (by omega)
 have hd := Nat.div_add_mod j 4
 rcases (by omega : j % 4 = 0 ∨ j % 4 = 1 ∨ j % 4 = 2 ∨ j % 4 = 3) with e | e | e | e
 ·have ej : j = j / 4 * 4 := by omega
  rw [← ej] at a0 b0;rw [a0] at hu;cases hu;exact b0
 ·have ej : j = j / 4 * 4 + 1 := by omega
  rw [← ej] at a1 b1;rw [a1] at hu;cases hu;exact b1
 ·have ej : j = j / 4 * 4 + 2 := by omega
  rw [← ej] at a2 b2;rw [a2] at hu;cases hu;exact b2
 ·have ej : j = j / 4 * 4 + 3 := by omega
  rw [← ej] at a3 b3;rw [a3] at hu;cases hu;exact b3
theorem Tryz.info42 : (Tryz.prog.info? 42).map (fun i => (i.zero,i.size,i.bytes)) = some (some (.agg #[.bool false,.int .u8 0,.bool false,.int .u8 0]),4,4) := by kernel_rfl
theorem wof_any (a : Option Addr) (n c : Nat) (xs : List M.WAct) (w : World) (h : ActsIn w a n c xs) (hn : n ≤ 65536) :
  Calls Tryz.prog 25 #[.slice a n c] w fun e w' => ∃ P aa ca,e = .returned (.pointer (some ⟨P,0,none⟩)) ∧ w.heap.size ≤ P ∧ Wired w' P w.heap.size aa ca (.slice none 0 0) ⟨xs,0,0⟩ ∧ (∀ ad,aa = some ad → w.heap.size ≤ ad.block ∧ ad.block < P) ∧ Only [] w w' := by
 obtain ⟨hl,hcase⟩ := h
 have HL := LH hl
 rcases hcase with ⟨rfl,rfl,rfl⟩ | ⟨g,rfl,h0,hcell⟩
 ·have hxs : xs = [] := List.eq_nil_of_length_eq_zero hl
  subst hxs
  clear hl
  go_enter Tryz.func25,Tryz.ntmps25
  go_wp2_with fail
  go_ret
  refine ⟨w.heap.size,none,0,rfl,Nat.le_refl _,⟨heap_alloc_new w _,fun k y hk => by simp at hk,⟨[],World.ownsRow_nil _ _ _ _⟩,Nat.le_refl _,by simp [Value.ownBlock],by simp,by simp,by simp⟩,fun ad e => (by cases e),(Only.refl [] w).alloc _⟩
 ·obtain ⟨i4,g0,g1,g2,g3⟩ := info_parts Tryz.info42
  have HC := LH (actCells_at xs w g hcell)
  have HI := LH (AI g0 (AI g1 (AI g2 g3)))
  clear hl hcell g0 g1 g2 g3
  go_enter Tryz.func25,Tryz.ntmps25
  go_wp2_with (at_builtin;go_loud (refine wpList_append_lies _ rfl (.const (.slice none 0 0)) (.tmp 3) 40 rfl w.heap.size 42 i4 (.agg #[.bool false,.int .u8 0,.bool false,.int .u8 0]) 4 4 Tryz.underlying40 HI.out.1 HI.out.2.1 HI.out.2.2.1 HI.out.2.2.2 rfl (by omega) (.slice none 0 0) 0 [] rfl (World.ownsRow_nil _ _ _ _) ⟨g,0,none⟩ n c (actCells xs) rfl (by rw [actCells_length,HL.out]) HC.out (actCells_one xs) h0 (by unfold maxLen;omega) (by omega) (Nat.le_refl _) w.heap.size rfl ?_);intro gg cp w1 own1 grow1 at1 lt1)
  go_ret
  have o1 : Only [] w w1 := (only_grown grow1).weaken (by simp [Value.ownBlock])
  have hP : (w1.alloc (.cells #[.slice (some ⟨gg,0,none⟩) (0 + n) cp,.int .i64 0,.slice none 0 0] 110)).heap[w1.heap.size]? = some (.cells #[.slice (some ⟨gg,0,none⟩) (0 + n) cp,.int .i64 0,.slice none 0 0] 110 (0,0)) := heap_alloc_new w1 _
  have hgg := own1.lt gg rfl
  rw [Nat.zero_add] at hP own1
  have own2 := own1.alloc (.cells #[.slice (some ⟨gg,0,none⟩) n cp,.int .i64 0,.slice none 0 0] 110)
  refine ⟨w1.heap.size,some ⟨gg,0,none⟩,cp,rfl,o1.size,⟨by rw [show xs.length = n from HL.out];exact hP,fun k y hk => ?_,⟨[],World.ownsRow_nil _ _ _ _⟩,o1.size,by simp [Value.ownBlock],by simp,by simp,by show xs.length ≤ _;rw [HL.out];omega⟩,fun ad e => (by cases e;exact ⟨hgg.1,hgg.2⟩),o1.alloc _⟩
  have hkn : k < n := by rw [← HL.out];exact (List.getElem?_eq_some_iff.1 hk).1
  obtain ⟨a0,a1,a2,a3⟩ := actCells_get xs k y hk
  exact ⟨gg,rfl,hgg.1,by omega,by simp [Value.ownBlock],(own2.cellAt (k * 4) (by omega)).trans a0,(own2.cellAt (k * 4 + 1) (by omega)).trans a1,(own2.cellAt (k * 4 + 2) (by omega)).trans a2,(own2.cellAt (k * 4 + 3) (by omega)).trans a3⟩
end Go.Proofs.YtplaamfoeaaaiaaGreatDoor
