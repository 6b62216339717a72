/- A part of the proofs of the laws of lifelinetop (TopNever, TopLost, TopRoom): contracts of functions that these laws reach. No condition of its own. -/
import Derived.Test.YtplaamfoeaaaiaaGreatDoorK02
import Derived.Test.YtplaamfoeaaaiaaGreatDoorK03
import Derived.Test.YtplaamfoeaaaiaaGreatDoorK04
import Derived.Test.YtplaamfoeaaaiaaGreatDoorK05
import Derived.Deep.RegionHeld3
import Derived.Deep.AppendLies
set_option maxRecDepth 100000
set_option maxHeartbeats 8000000
set_option linter.unusedVariables false
namespace Go.Proofs.YtplaamfoeaaaiaaGreatDoor
open Go.RowKit
theorem drop_cons (q : List UInt8) (k : Nat) (h : k < q.length) : q.drop k = q.getD k 0 :: q.drop (k + 1) := by
 rw [List.drop_eq_getElem_cons h];simp [List.getD,h]
theorem take_snocT (q : List UInt8) (k : Nat) (h : k < q.length) : (q.take (k + 1)).map byteV = (q.take k).map byteV ++ [byteV (q.getD k 0)] := by
 rw [List.take_succ_eq_append_getElem h,List.map_append];simp [List.getD,h]
theorem next_w (a c : Nat) (ha : a < c) (hc : c ≤ 4096) : wrap64 ((a : Int) + 1) = (a : Int) + 1 := by
 unfold wrap64;omega
theorem next_i (a c : Nat) (ha : a < c) (hc : c ≤ 4096) : IntKind.i64.wrap ((a : Int) + 1) = (a : Int) + 1 := by
 rw [IntKind.wrap_i64];omega
theorem next_mod (a c x : Nat) (hx : x = (a + 1) % c) : ((a : Int) + 1).tmod (c : Int) = (x : Int) := by
 rw [Int.tmod_eq_emod_of_nonneg (by omega),hx]
 simp
theorem keep3 {w w1 : World} {row : Option Nat} {R S p : Nat} {a b c : Value} (hg : w.grownBy w1 row) (hR : R < w.heap.size) (hS : S < w.heap.size) (nR : row ≠ some R) (nS : row ≠ some S) (h0 : w.cell? ⟨S,0,none⟩ = some a) (h1 : w.cell? ⟨S,1,none⟩ = some b) (h2 : w.cell? ⟨R,p,none⟩ = some c) :
  w1.cell? ⟨S,0,none⟩ = some a ∧ w1.cell? ⟨S,1,none⟩ = some b ∧ w1.cell? ⟨R,p,none⟩ = some c :=
 ⟨(World.cell?_of_block (hg.block S hS (Ne.symm nS))).trans h0,(World.cell?_of_block (hg.block S hS (Ne.symm nS))).trans h1,(World.cell?_of_block (hg.block R hR (Ne.symm nR))).trans h2⟩
theorem take_any (R S cap at_ : Nat) (q : List UInt8) (lost : Int) (n : Int) (F : Nat) (w : World) (h : Ringed w R S cap at_ q lost) (hF : (F = 0 ∧ n ≤ 0) ∨ (n = F ∧ F ≤ q.length) ∨ (F = q.length ∧ (q.length : Int) < n)) :
  Calls Tryz.prog 68 #[.pointer (some ⟨S,0,none⟩),.int .i64 n] w fun e w' =>
   ∃ v,e = .returned v ∧ w'.ownsRow w.heap.size 5 1 v F ((q.take F).map byteV) ∧ Ringed w' R S cap ((at_ + F) % cap) (q.drop F) lost ∧ Only [R,S] w w' := by
 obtain ⟨i0,hi,hz0,hz1,hz2⟩ := info_parts Tryz.info5
 have HI := LH (AI hi (AI hz0 (AI hz1 hz2)))
 obtain ⟨hRw,hSw⟩ := h.lt
 have hql := h.len
 have hcl := h.capLe
 obtain ⟨M,hM⟩ : ∃ M : Int,(if (q.length : Int) < n then (q.length : Int) else n) = M := ⟨_,rfl⟩
 have hmx : (if 0 < M then M else 0) = (F : Int) := by
  rw [← hM];split <;> split <;> omega
 have hFq : F ≤ q.length := by omega
 clear hF
 have g2 : w.cell? ⟨S,2,none⟩ = some (.int .i64 q.length) := cell_at h.str rfl
 go_enter Tryz.func68,Tryz.ntmps68
 go_wp2
 clear hM hmx g2
 go_loopw [5,13] (fun v i wr => ∃ k : Nat,k ≤ F ∧ i = .int .i64 k ∧ wr.ownsRow w.heap.size 5 1 v k ((q.take k).map byteV) ∧ Ringed wr R S cap ((at_ + k) % cap) (q.drop k) lost ∧ Only [R,S] w wr) (fun _ i _ => F - (intOf i).toNat)
 case atStart => exact ⟨0,Nat.zero_le _,rfl,by simpa using World.ownsRow_nil w w.heap.size 5 1,by simpa [Nat.mod_eq_of_lt h.atLt] using h,Only.refl _ _⟩
 case round =>
  obtain ⟨k,hk,rfl,hown,hr,ho⟩ := hrel
  by_cases hlt : k < F
  ·obtain ⟨p,hp⟩ : ∃ p,p = (at_ + k) % cap := ⟨_,rfl⟩
   obtain ⟨x,hx⟩ : ∃ x,x = (p + 1) % cap := ⟨_,rfl⟩
   obtain ⟨l,hll⟩ : ∃ l,l = (q.drop (k + 1)).length := ⟨_,rfl⟩
   have hpk : (at_ + (k + 1)) % cap = x := by rw [hx,hp,Nat.mod_add_mod,Nat.add_assoc]
   have hlq : l < 4096 := by rw [hll];simp;omega
   rw [← hp,drop_cons q k (by omega)] at hr
   have hat := hr.atLt
   have hfst := hr.first
   have hstr := hr.str
   rw [List.length_cons,← hll] at hstr
   have hkb : k < 4096 := by omega
   have g0 : wr.cell? ⟨S,0,none⟩ = some (.slice (some ⟨R,0,none⟩) cap cap) := cell_at hstr rfl
   have g1 : wr.cell? ⟨S,1,none⟩ = some (.int .i64 p) := cell_at hstr rfl
   have HS := LH hstr
   have HR := LH hr
   have HX := LH hx
   have HL := LH hll
   have HP := LH hp
   have HK := LH hpk
   clear hstr hr hx hll hp hpk hz0 hz1 hz2 hi
   go_wp2
   obtain ⟨hi,hz0,hz1,hz2⟩ := HI.out
   have hrow : ∀ j,u5.ownBlock = some j → w.heap.size ≤ j := fun j hj => (hown.lt j hj).1
   have hnR : u5.ownBlock ≠ some R := fun e => by have := hrow R e;omega
   have hnS : u5.ownBlock ≠ some S := fun e => by have := hrow S e;omega
   have hwr : w.heap.size ≤ wr.heap.size := ho.size
   have hp0 : (0 : Int) ≤ (p : Int) := Int.natCast_nonneg _
   have hp1 : (p : Int) < (cap : Int) := by omega
   go_region_held3 (fun w' => w'.cell? ⟨S,0,none⟩ = some (.slice (some ⟨R,0,none⟩) cap cap) ∧ w'.cell? ⟨S,1,none⟩ = some (.int .i64 p) ∧ w'.cell? ⟨R,p,none⟩ = some (byteV (q.getD k 0))) (first
     | (go_split_ands;exact keep3 hgrow (by simp;omega) (by simp;omega) hnR hnS ‹_› ‹_› ‹_›)
     | go_keep)
    ((refine step_append_lies _ (by rfl) _ _ _ (by rfl) w.heap.size 5 i0 _ 1 1 Tryz.underlying22 hi hz0 hz1 hz2 rfl (by omega) u5 k _ (by rfl) ((hown.alloc _).drew) ⟨wr.heap.size,0,none⟩ 1 1 [byteV (q.getD k 0)] (by rfl) (by rfl) (World.news_of_block (cs := #[byteV (q.getD k 0)]) (t := 5) (fr := (0,0)) (heap_alloc_new wr _)) (by simp [Value.oneCell']) (by omega) (by unfold maxLen;omega) (by omega) (by simp;omega) (wr.heap.size + 1) (by simp) ?_;intro gg cp w1 hown' hgrow hat' hlt'))
   rw [List.getD_eq_getElem?_getD] at hown'
   have hr1 := ((HR.out.of_only ((Only.refl [] wr).alloc (.cells #[byteV (q[k]?.getD 0)] 5)) (by simp) (by simp)).drew).grown hgrow hnR hnS
   have ho1 : Only [R,S] w w1 := ((ho.alloc (.cells #[byteV (q[k]?.getD 0)] 5)).drew).grown hgrow (fun j hj => .inr (hrow j hj))
   have hown2 : w1.ownsRow w.heap.size 5 1 (.slice (some ⟨gg,0,none⟩) (k + 1) cp) (k + 1) ((q.take (k + 1)).map byteV) := by rw [take_snocT q k (by omega),List.getD_eq_getElem?_getD];exact hown'
   have ht := hr1.take
   have hstr := hr1.str
   rw [List.length_cons,← HL.out] at hstr
   rw [← HX.out,← HL.out] at ht
   have g0' : w1.cell? ⟨S,0,none⟩ = some (.slice (some ⟨R,0,none⟩) cap cap) := cell_at hstr rfl
   have g1' : w1.cell? ⟨S,1,none⟩ = some (.int .i64 p) := cell_at hstr rfl
   have g2' : w1.cell? ⟨S,2,none⟩ = some (.int .i64 (l + 1 : Nat)) := cell_at hstr rfl
   have f1' : w1.frozen? ⟨S,1,none⟩ = false := free_at hstr
   have f2' : w1.frozen? ⟨S,2,none⟩ = false := free_at hstr
   have HT := LH ht
   have HO := LH ho1
   have HW := LH hown2
   have hcz : ¬ cap = 0 := by omega
   have e1 := next_w p cap hat hcl
   have e2 := next_i p cap hat hcl
   have e3 := next_mod p cap x HX.out
   clear hr1 ht hstr ho1 hown' hown2 hgrow hrow hi hz0 hz1 hz2 g0 g1 hfst hnR hnS
   go_wp2
   go_still_tail 14,(by kernel_rfl)
   change wpList _ _ _ _ _ w1.drew
   clear e1 e2 e3 hcz
   go_wp2
   go_roundw
   case rel => exact ⟨k + 1,by omega,by go_num,(owns_set (owns_set HW.out hSw _) hSw _).drew,by rw [HK.out];exact HT.out.drew,((HO.out.setCell (by simp) _).setCell (by simp) _).drew⟩
   case measure => simp [intOf];omega
  ·obtain rfl : k = F := by omega
   have HR := LH hr
   have HO := LH ho
   have HW := LH hown
   clear hr ho hown
   go_wp2
   go_ret
   exact ⟨_,rfl,HW.out,HR.out,HO.out⟩
theorem Tryz.info163 : (Tryz.prog.info? 163).map (fun i => (i.zero,i.size,i.bytes)) = some (some (.agg #[.int .u8 0,.int .i64 0,.bool false]),3,24) := by kernel_rfl
structure Marked (X O P bm bo : Nat) (c0 c1 vm vo : Value) (K : Nat) (out : List UInt8) (w : World) : Prop where
 hX : w.heap[X]? = some (.cells #[.pointer (some ⟨P,0,none⟩)] 53 (0,0))
 hO : w.heap[O]? = some (.cells #[vo] 22 (0,0))
 hP : w.heap[P]? = some (.cells #[c0,c1,vm] 110 (0,0))
 hm : ∃ xs,w.ownsRow bm 163 3 vm K xs
 ho : w.ownsRow bo 5 1 vo out.length (out.map byteV)
 nXO : X ≠ O
 nXP : X ≠ P
 nOP : O ≠ P
 nm : ∀ g,vm.ownBlock = some g → g ≠ X ∧ g ≠ O ∧ g ≠ P ∧ vo.ownBlock ≠ some g
 no : ∀ g,vo.ownBlock = some g → g ≠ X ∧ g ≠ O ∧ g ≠ P
theorem Marked.of_only {X O P bm bo : Nat} {c0 c1 vm vo : Value} {K : Nat} {out : List UInt8} {w w' : World} (h : Marked X O P bm bo c0 c1 vm vo K out w) (ho : Only [] w w') : Marked X O P bm bo c0 c1 vm vo K out w' := by
 obtain ⟨xs,hm⟩ := h.hm
 exact ⟨ho.heap h.hX (by simp),ho.heap h.hO (by simp),ho.heap h.hP (by simp),⟨xs,ownsRow_only hm ho (by simp)⟩,ownsRow_only h.ho ho (by simp),h.nXO,h.nXP,h.nOP,h.nm,h.no⟩
theorem marked_mid {X O P bm bo : Nat} {c0 c1 vm vo : Value} {K : Nat} {out : List UInt8} {w w1 : World} {o : Obj} {g cp : Nat} {xs : List Value} (h : Marked X O P bm bo c0 c1 vm vo K out w) (hown : w1.ownsRow bm 163 3 (.slice (some ⟨g,0,none⟩) (K + 1) cp) (K + 1) xs) (hgrow : ((w.alloc o).drew).grownBy w1 vm.ownBlock) (hat : vm.ownBlock = some g ∨ g = w.heap.size + 1) :
  Marked X O P bm bo c0 c1 (.slice (some ⟨g,0,none⟩) (K + 1) cp) vo (K + 1) out (w1.setCell ⟨P,2,none⟩ (.slice (some ⟨g,0,none⟩) (K + 1) cp)) ∧
  Only (P :: ownL vm) w (w1.setCell ⟨P,2,none⟩ (.slice (some ⟨g,0,none⟩) (K + 1) cp)) := by
 have hX := heap_lt h.hX
 have hO := heap_lt h.hO
 have hP := heap_lt h.hP
 have hnm := h.nm
 have hno := h.no
 have hol := h.ho.lt
 have ho1 : Only (ownL vm) w w1 := ((((Only.refl (ownL vm) w).alloc o).drew).trans (only_grown hgrow))
 have no1 : ∀ b,b ∈ ownL vm → b ≠ X ∧ b ≠ O ∧ b ≠ P ∧ vo.ownBlock ≠ some b := fun b hb => hnm b (by simpa [ownL] using hb)
 have gne : g ≠ X ∧ g ≠ O ∧ g ≠ P ∧ vo.ownBlock ≠ some g := by
  rcases hat with e | e
  ·exact hnm g e
  ·refine ⟨by omega,by omega,by omega,fun e' => ?_⟩
   have := hol g e'
   omega
 have oset : Only [P] w1 (w1.setCell ⟨P,2,none⟩ (.slice (some ⟨g,0,none⟩) (K + 1) cp)) := only_set _ _ _ _
 refine ⟨⟨oset.heap (ho1.heap h.hX fun hb => (no1 X hb).1 rfl) (by simpa using h.nXP),oset.heap (ho1.heap h.hO fun hb => (no1 O hb).2.1 rfl) (by simpa using h.nOP),?_,⟨xs,ownsRow_only hown oset (fun g' e => ?_)⟩,ownsRow_only (ownsRow_only h.ho ho1 fun g' e hb => (no1 g' hb).2.2.2 e) oset (fun g' e => ?_),h.nXO,h.nXP,h.nOP,fun g' e => ?_,h.no⟩,?_⟩
 ·exact hs_same (ho1.heap h.hP fun hb => (no1 P hb).2.2.1 rfl) rfl
 ·simp [Value.ownBlock] at e;subst e;simpa using gne.2.2.1
 ·simpa using (hno g' e).2.2
 ·simp [Value.ownBlock] at e;subst e;exact gne
 ·exact (ho1.weaken (by intro x hx;simp [hx])).setCell (by simp) _
theorem marked_out {X O P bm bo : Nat} {c0 c1 vm vo v' : Value} {K N : Nat} {out : List UInt8} {x : UInt8} {w w1 : World} {o : Obj} (h : Marked X O P bm bo c0 c1 vm vo K out w) (hown : w1.ownsRow bo 5 1 v' N (out.map byteV ++ [byteV x])) (hN : N = out.length + 1) (hgrow : (w.alloc o).grownBy w1 vo.ownBlock) (hat : ∀ g,v'.ownBlock = some g → vo.ownBlock = some g ∨ w.heap.size + 1 ≤ g) :
  Marked X O P bm bo c0 c1 vm v' K (out ++ [x]) (w1.setCell ⟨O,0,none⟩ v') ∧ Only (O :: ownL vo) w (w1.setCell ⟨O,0,none⟩ v') := by
 have hX := heap_lt h.hX
 have hO := heap_lt h.hO
 have hP := heap_lt h.hP
 have hnm := h.nm
 have hno := h.no
 obtain ⟨xs,hm⟩ := h.hm
 have hml := hm.lt
 have ho1 : Only (ownL vo) w w1 := (((Only.refl (ownL vo) w).alloc o)).trans (only_grown hgrow)
 have no1 : ∀ b,b ∈ ownL vo → b ≠ X ∧ b ≠ O ∧ b ≠ P ∧ vm.ownBlock ≠ some b := fun b hb => by
  have hb' : vo.ownBlock = some b := by simpa [ownL] using hb
  exact ⟨(hno b hb').1,(hno b hb').2.1,(hno b hb').2.2,fun e => (hnm b e).2.2.2 hb'⟩
 have gne : ∀ g,v'.ownBlock = some g → g ≠ X ∧ g ≠ O ∧ g ≠ P ∧ vm.ownBlock ≠ some g := fun g hg => by
  rcases hat g hg with e | e
  ·exact no1 g (by simp [ownL,e])
  ·refine ⟨by omega,by omega,by omega,fun e' => ?_⟩
   have := hml g e'
   omega
 have oset : Only [O] w1 (w1.setCell ⟨O,0,none⟩ v') := only_set _ _ _ _
 refine ⟨⟨oset.heap (ho1.heap h.hX fun hb => (no1 X hb).1 rfl) (by simpa using h.nXO),?_,oset.heap (ho1.heap h.hP fun hb => (no1 P hb).2.2.1 rfl) (by simpa using h.nOP.symm),⟨xs,ownsRow_only (ownsRow_only hm ho1 fun g' e hb => (no1 g' hb).2.2.2 e) oset (fun g' e => ?_)⟩,?_,h.nXO,h.nXP,h.nOP,fun g' e => ⟨(hnm g' e).1,(hnm g' e).2.1,(hnm g' e).2.2.1,fun e' => (gne g' e').2.2.2 e⟩,fun g' e => ⟨(gne g' e).1,(gne g' e).2.1,(gne g' e).2.2.1⟩⟩,?_⟩
 ·exact hs_same (ho1.heap h.hO fun hb => (no1 O hb).2.1 rfl) rfl
 ·simpa using (hnm g' e).2.1
 ·have e2 : (out ++ [x]).length = N := by simp [hN]
  rw [e2,List.map_append]
  exact ownsRow_only hown oset (fun g' e => by simpa using (gne g' e).2.1)
 ·exact (ho1.weaken (by intro x hx;simp [hx])).setCell (by simp) _
theorem mark_any (X O P bm bo : Nat) (c0 c1 : Value) (a : Option Addr) (cp : Nat) (vo : Value) (K : Nat) (out : List UInt8) (x : UInt8) (f : Int) (o : Bool) (w : World) (h : Marked X O P bm bo c0 c1 (.slice a K cp) vo K out w) (hK : K < 1099511627776) (hl : out.length < 1099511627776) (hbm : bm ≤ w.heap.size) (hbo : bo ≤ w.heap.size) :
  Calls Tryz.prog 73 #[.agg #[byteV x,.int .i64 f,.bool o],.pointer (some ⟨X,0,none⟩),.pointer (some ⟨O,0,none⟩)] w fun e w' => e = .returned (.tuple #[]) ∧ ∃ a' cp' vo',Marked X O P bm bo c0 c1 (.slice a' (K + 1) cp') vo' (K + 1) (out ++ [x]) w' ∧
   Only (O :: P :: ownL (.slice a K cp) ++ ownL vo) w w' ∧ (∀ g,(Value.slice a' (K + 1) cp').ownBlock = some g → (Value.slice a K cp).ownBlock = some g ∨ w.heap.size ≤ g) ∧ (∀ g,vo'.ownBlock = some g → vo.ownBlock = some g ∨ w.heap.size ≤ g) := by
 obtain ⟨i0,hi,hz0,hz1,hz2⟩ := info_parts Tryz.info163
 have HI := LH (AI hi (AI hz0 (AI hz1 hz2)))
 have H := LH h
 clear h hi hz0 hz1 hz2
 go_enter Tryz.func73,Tryz.ntmps73
 go_upto_region 1 with fail
 obtain ⟨wa,hwa⟩ : ∃ wa,wa = w.alloc (.cells #[.int .u8 x.toNat,.int .i64 f,.bool o] 163) := ⟨_,rfl⟩
 have hoa : Only [] w wa := by rw [hwa];exact (Only.refl [] w).alloc _
 have hma := H.out.of_only hoa
 have hbx : wa.heap[w.heap.size]? = some (.cells #[.int .u8 x.toNat,.int .i64 f,.bool o] 163 (0,0)) := by rw [hwa];exact heap_alloc_new w _
 rw [← hwa]
 clear hwa
 go_cut [11] (fun _ wx => ∃ a' cp',Marked X O P bm bo c0 c1 (.slice a' (K + 1) cp') vo (K + 1) out wx ∧ Only (P :: ownL (.slice a K cp)) wa wx ∧ (∀ g,(Value.slice a' (K + 1) cp').ownBlock = some g → (Value.slice a K cp).ownBlock = some g ∨ w.heap.size ≤ g))
 case first =>
  obtain ⟨hi,hz0,hz1,hz2⟩ := HI.out
  obtain ⟨xs,hm⟩ := hma.hm
  have hXl := heap_lt hma.hX
  have hPl := heap_lt hma.hP
  have hvP : (Value.slice a K cp).ownBlock ≠ some P := fun e => (hma.nm P e).2.2.1 rfl
  have cX : wa.cell? ⟨X,0,none⟩ = some (.pointer (some ⟨P,0,none⟩)) := cell_at hma.hX rfl
  have c2 : wa.cell? ⟨P,2,none⟩ = some (.slice a K cp) := cell_at hma.hP rfl
  have f2 : wa.frozen? ⟨P,2,none⟩ = false := free_at hma.hP
  have b0 : wa.cell? ⟨w.heap.size,0,none⟩ = some (.int .u8 x.toNat) := cell_at hbx rfl
  have b1 : wa.cell? ⟨w.heap.size,1,none⟩ = some (.int .i64 f) := cell_at hbx rfl
  have b2 : wa.cell? ⟨w.heap.size,2,none⟩ = some (.bool o) := cell_at hbx rfl
  have hsz := hoa.size
  have hN : ∀ gg cp1 w1 ys,w1.ownsRow bm 163 3 (.slice (some ⟨gg,0,none⟩) (K + 1) cp1) (K + 1) ys → ((wa.alloc (.cells #[.int .u8 x.toNat,.int .i64 f,.bool o] 163)).drew).grownBy w1 (Value.slice a K cp).ownBlock → ((Value.slice a K cp).ownBlock = some gg ∨ gg = wa.heap.size + 1) →
    ∃ a' cp',Marked X O P bm bo c0 c1 (.slice a' (K + 1) cp') vo (K + 1) out (w1.setCell ⟨P,2,none⟩ (.slice (some ⟨gg,0,none⟩) (K + 1) cp1)) ∧ Only (P :: ownL (.slice a K cp)) wa (w1.setCell ⟨P,2,none⟩ (.slice (some ⟨gg,0,none⟩) (K + 1) cp1)) ∧ (∀ g,(Value.slice a' (K + 1) cp').ownBlock = some g → (Value.slice a K cp).ownBlock = some g ∨ w.heap.size ≤ g) := by
   intro gg cp1 w1 ys h1 h2 h3
   have hmm := marked_mid hma h1 h2 h3
   refine ⟨_,_,hmm.1,hmm.2,fun g e => ?_⟩
   simp [Value.ownBlock] at e
   subst e
   exact h3.imp id (fun e => by omega)
  have HN := LH hN
  have HM := LH hma
  clear hN hma hoa
  go_region_law (refine step_append_lies _ (by rfl) _ _ _ (by rfl) bm 163 i0 _ 3 24 Tryz.underlying108 hi hz0 hz1 hz2 rfl (by omega) (.slice a K cp) K _ (by rfl) ((hm.alloc _).drew) ⟨wa.heap.size,0,none⟩ 1 1 [.int .u8 x.toNat,.int .i64 f,.bool o] (by rfl) (by rfl) (World.news_of_block (cs := #[.int .u8 x.toNat,.int .i64 f,.bool o]) (t := 163) (fr := (0,0)) (heap_alloc_new wa _)) (by simp [Value.oneCell']) (by omega) (by unfold maxLen;omega) (by omega) (by simp;omega) (wa.heap.size + 1) (by simp) ?_;intro gg cp1 w1 hown1 hgrow hat hlt1;have cX' := far_cell hgrow hXl (fun e => (HM.out.nm X e).1 rfl) cX;have c2' := far_cell hgrow hPl hvP c2;have f2' := far_frozen hgrow hPl hvP f2)
  all_goals go_wp2_with fail
  all_goals go_meet
  all_goals exact HN.out _ _ _ _ hown1 hgrow hat
 case rest =>
  obtain ⟨a',cp',hM,hO1,hF⟩ := hcut
  obtain ⟨i5,h50,h51,h52,h53⟩ := info_parts Tryz.info5
  have hbm' : ∀ b,b ∈ P :: ownL (Value.slice a K cp) → b < w.heap.size := by
   intro b hb
   rcases List.mem_cons.1 hb with rfl | hb
   ·exact heap_lt H.out.hP
   ·obtain ⟨xs,hm⟩ := H.out.hm
    exact (hm.lt b (by simpa [ownL] using hb)).2
  have hsz := Nat.le_trans hoa.size hO1.size
  have cO : wc.cell? ⟨O,0,none⟩ = some vo := cell_at hM.hO rfl
  have b0 : wc.cell? ⟨w.heap.size,0,none⟩ = some (.int .u8 x.toNat) := cell_at (hO1.heap hbx fun hb => by have := hbm' _ hb;omega) rfl
  obtain ⟨ao,co,hvo⟩ := own_slice hM.ho
  have Hvo := LH hvo
  have HM := LH (AI hM (AI hO1 (AI hF hoa)))
  clear hM hO1 hF hoa hma hbx hvo
  have e0 : ∀ w2 : World,∀ v',(wc.alloc (.cells #[.int .u8 x.toNat] 5)).grownBy w2 vo.ownBlock → w2.ownsRow bo 5 1 v' (out.length + 1) (out.map byteV ++ [byteV x]) → (∀ g,v'.ownBlock = some g → vo.ownBlock = some g ∨ wc.heap.size + 1 ≤ g) →
    w2.cell? ⟨O,0,none⟩ = some vo ∧ w2.frozen? ⟨O,0,none⟩ = false := by
   intro w2 v' q1 q2 q3
   have ho1 : Only (ownL vo) wc w2 := ((Only.refl (ownL vo) wc).alloc _).trans (only_grown q1)
   have := ho1.heap HM.out.1.hO (fun hb => (HM.out.1.no O (by simpa [ownL] using hb)).2.1 rfl)
   exact ⟨cell_at this rfl,free_at this⟩
  have E0 := LH e0
  clear e0
  go_wp2_with (at_builtin;(refine wpList_push _ rfl (.tmp 14) (.tmp 17) 22 5 rfl i5 (.int .u8 0) 1 Tryz.underlying22 h50 h51 h52 h53 rfl bo vo out.length (out.map byteV) rfl (HM.out.1.ho.alloc _) wc.heap.size (byteV x) rfl (World.cell?_alloc_at _ _ _ _ rfl) rfl (by unfold maxLen;omega) (by omega) (by simp;omega) ?_;intro v' w2 q1 q2 q3;obtain ⟨a2,c2,rfl⟩ := own_slice q1;obtain ⟨q4,q5⟩ := E0.out w2 _ q2 q1 (fun g hg => (q3 g hg).imp id (by simp))))
  go_end0
  have hfin := marked_out HM.out.1 q1 rfl q2 (fun g hg => (q3 g hg).imp id (by simp))
  refine ⟨rfl,a',cp',_,hfin.1,?_,HM.out.2.2.1,fun g hg => (q3 g hg).imp id (fun h => by simp at h;omega)⟩
  have r1 : Only (O :: P :: ownL (.slice a K cp) ++ ownL vo) w wc := (HM.out.2.2.2.weaken (by simp)).trans (HM.out.2.1.weaken (by intro b hb;rcases List.mem_cons.1 hb with h | h <;> simp [h]))
  exact r1.trans (hfin.2.weaken (by intro b hb;rcases List.mem_cons.1 hb with h | h <;> simp [h]))
end Go.Proofs.YtplaamfoeaaaiaaGreatDoor
