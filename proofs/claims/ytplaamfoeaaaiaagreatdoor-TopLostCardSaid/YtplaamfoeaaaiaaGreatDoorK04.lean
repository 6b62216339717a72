/- A part of the proofs of the laws of lifelinetop (TopNever, TopLost, TopRoom): contracts of functions that these laws reach. No condition of its own. -/
import Derived.Test.YtplaamfoeaaaiaaGreatDoorK02
import Derived.Test.YtplaamfoeaaaiaaGreatDoorK03
import Derived.BigRegion
import Derived.BigQuiet
import Derived.Deep.QuietTactic
import Derived.StillTailTactics
import Derived.Lib.IfaceEq
import Derived.Lib.IfaceNeq
import Derived.WideLaws
set_option maxRecDepth 100000
set_option maxHeartbeats 8000000
set_option linter.unusedVariables false
namespace Go.Proofs.YtplaamfoeaaaiaaGreatDoor
open Go.RowKit
def actV (x : M.WAct) : Array Value := #[.bool x.drop,byteV x.turn,.bool x.insert,byteV x.byte]
structure Wired (w : World) (P base : Nat) (aa : Option Addr) (ca : Nat) (vm : Value) (x : M.Wire) : Prop where
 str : w.heap[P]? = some (.cells #[.slice aa x.acts.length ca,.int .i64 x.n,vm] 110 (0,0))
 acts : ∀ k y,x.acts[k]? = some y → ∃ g,aa = some ⟨g,0,none⟩ ∧ base ≤ g ∧ g ≠ P ∧ vm.ownBlock ≠ some g ∧ w.cell? ⟨g,k * 4,none⟩ = some (.bool y.drop) ∧ w.cell? ⟨g,k * 4 + 1,none⟩ = some (byteV y.turn) ∧ w.cell? ⟨g,k * 4 + 2,none⟩ = some (.bool y.insert) ∧ w.cell? ⟨g,k * 4 + 3,none⟩ = some (byteV y.byte)
 marks : ∃ xs,w.ownsRow base 163 3 vm x.marks xs
 bp : base ≤ P
 sep : vm.ownBlock ≠ some P
 nle : x.n ≤ 1099511627776
 mle : x.marks ≤ 1099511627776
 ale : x.acts.length ≤ 1099511627776
theorem four_set {w : World} {g : Nat} {x0 x1 x2 x3 : Value} {t : TypeId} (h : w.heap[g]? = some (.cells #[x0,x1,x2,x3] t (0,0))) (a b d e : Value) : ((((w.setCell ⟨g,0,none⟩ a).setCell ⟨g,1,none⟩ b).setCell ⟨g,2,none⟩ d).setCell ⟨g,3,none⟩ e).heap[g]? = some (.cells #[a,b,d,e] t (0,0)) :=
 heap_set_same (c := #[a,b,d,x3]) (i := 3) (v := e) (heap_set_same (c := #[a,b,x2,x3]) (i := 2) (v := d) (heap_set_same (c := #[a,x1,x2,x3]) (i := 1) (v := b) (heap_set_same (i := 0) (v := a) h)))
theorem size42 : (Tryz.prog.info? 42).map (·.size) = some 4 := by kernel_rfl
theorem act_any (P base : Nat) (aa : Option Addr) (ca : Nat) (vm : Value) (x : M.Wire) (w : World) (h : Wired w P base aa ca vm x) :
  Calls Tryz.prog 74 #[.pointer (some ⟨P,0,none⟩)] w fun e w' => e = .returned (.agg (actV x.act)) ∧ Only [] w w' := by
 have c0 : w.cell? ⟨P,0,none⟩ = some (.slice aa x.acts.length ca) := cell_at h.str rfl
 have c1 : w.cell? ⟨P,1,none⟩ = some (.int .i64 x.n) := cell_at h.str rfl
 have hP : P < w.heap.size := (Array.getElem?_eq_some_iff.1 h.str).1
 have hnle := h.nle
 have hale := h.ale
 by_cases hlt : x.n < x.acts.length
 ·obtain ⟨y,hy⟩ : ∃ y,x.acts[x.n]? = some y := ⟨_,List.getElem?_eq_getElem hlt⟩
  obtain ⟨g,rfl,_,_,_,y0,y1,y2,y3⟩ := h.acts x.n y hy
  have hg : g < w.heap.size := World.block_lt_of_cell? w _ y0
  have hact : x.act = y := by unfold M.Wire.act;simp [List.getD,hy]
  have H := LH hact
  clear h hy hact
  go_enter Tryz.func74,Tryz.ntmps74
  go_wp2_with fail
  go_quiet (fail)
  go_wp2_with fail
  obtain ⟨w2,hw2⟩ : ∃ w2,w2 = ((w.alloc (.cells #[.bool false,.int .u8 0,.bool false,.int .u8 0] 42)).drewN nq) := ⟨_,rfl⟩
  rw [← hw2]
  have old : ∀ ad v,w.cell? ad = some v → w2.cell? ad = some v := by
   intro ad v h
   rw [hw2]
   show (w.alloc _).cell? ad = _
   rw [World.cell?_of_block (w := w) (Below.heap_alloc _ _ _ (World.block_lt_of_cell? w _ h))];exact h
  have hh : w2.heap[w.heap.size]? = some (.cells #[.bool false,.int .u8 0,.bool false,.int .u8 0] 42 (0,0)) := by rw [hw2];exact heap_alloc_new w _
  have ho2 : Only [] w w2 := by rw [hw2];exact ((Only.refl [] w).alloc _).drewN _
  have c0' := old _ _ c0
  have c1' := old _ _ c1
  have y0' := old _ _ y0
  have y1' := old _ _ y1
  have y2' := old _ _ y2
  have y3' := old _ _ y3
  have d0 : w2.cell? ⟨w.heap.size,0,none⟩ = some (.bool false) := cell_at hh rfl
  have d1 : w2.cell? ⟨w.heap.size,1,none⟩ = some (.int .u8 0) := cell_at hh rfl
  have d2 : w2.cell? ⟨w.heap.size,2,none⟩ = some (.bool false) := cell_at hh rfl
  have d3 : w2.cell? ⟨w.heap.size,3,none⟩ = some (.int .u8 0) := cell_at hh rfl
  have ff : ∀ i,w2.frozen? ⟨w.heap.size,i,none⟩ = false := fun i => free_at hh
  have HH := LH (AI hh ho2)
  clear hw2 old c0 c1 y0 y1 y2 y3 hh ho2
  go_still_tail 10,(by kernel_rfl)
  go_wp2_with fail
  refine bodyPost_ret (results_cell_row (p := 2) (ty := 42) (cs := actV y) rfl _ _ w.heap.size 42 (fr := (0,0)) _ rfl (by show (World.setCell _ _ _).heap[w.heap.size]? = _;exact four_set HH.out.1 _ _ _ _) Tryz.underlying42 rfl size42) rfl ?_
  exact ⟨by rw [H.out],((((HH.out.2.setFresh (Nat.le_refl _) _).setFresh (Nat.le_refl _) _).setFresh (Nat.le_refl _) _).setFresh (Nat.le_refl _) _).drew⟩
 ·have hact : x.act = ⟨false,0,false,0⟩ := by unfold M.Wire.act;simp [List.getD,Nat.le_of_not_lt hlt]
  have H := LH hact
  clear h hact
  go_enter Tryz.func74,Tryz.ntmps74
  go_wp2_with fail
  go_quiet (fail)
  go_wp2_with fail
  have hh : ((w.alloc (.cells #[.bool false,.int .u8 0,.bool false,.int .u8 0] 42)).drewN nq).heap[w.heap.size]? = some (.cells #[.bool false,.int .u8 0,.bool false,.int .u8 0] 42 (0,0)) := heap_alloc_new w _
  have ho2 : Only [] w ((w.alloc (.cells #[.bool false,.int .u8 0,.bool false,.int .u8 0] 42)).drewN nq) := ((Only.refl [] w).alloc _).drewN _
  refine bodyPost_ret (results_cell_row (p := 2) (ty := 42) (cs := actV ⟨false,0,false,0⟩) rfl _ _ w.heap.size 42 (fr := (0,0)) _ rfl (four_set hh _ _ _ _) Tryz.underlying42 rfl size42) rfl ?_
  exact ⟨by rw [H.out],(((ho2.setFresh (Nat.le_refl _) _).setFresh (Nat.le_refl _) _).setFresh (Nat.le_refl _) _).setFresh (Nat.le_refl _) _⟩
structure Ringed (w : World) (R S cap at_ : Nat) (q : List UInt8) (lost : Int) : Prop where
 ne : R ≠ S
 capPos : 0 < cap
 capLe : cap ≤ 4096
 atLt : at_ < cap
 len : q.length ≤ cap
 str : w.heap[S]? = some (.cells #[.slice (some ⟨R,0,none⟩) cap cap,.int .i64 at_,.int .i64 q.length,.int .i64 lost] 126 (0,0))
 room : ∃ buf : Array Value,w.heap[R]? = some (.cells buf 5 (0,0)) ∧ buf.size = cap ∧ (∀ i,i < cap → ∃ x : UInt8,buf[i]? = some (byteV x)) ∧
  ∀ i,i < q.length → buf[(at_ + i) % cap]? = some (byteV (q.getD i 0))
theorem Ringed.of_only {w w' : World} {R S cap at_ : Nat} {q : List UInt8} {lost : Int} {bs : List Nat} (h : Ringed w R S cap at_ q lost) (ho : Only bs w w') (hR : R ∉ bs) (hS : S ∉ bs) : Ringed w' R S cap at_ q lost := by
 obtain ⟨buf,hb,rest⟩ := h.room
 refine ⟨h.ne,h.capPos,h.capLe,h.atLt,h.len,?_,buf,?_,rest⟩
 ·rw [ho.block S (Array.getElem?_eq_some_iff.1 h.str).1 hS];exact h.str
 ·rw [ho.block R (Array.getElem?_eq_some_iff.1 hb).1 hR];exact hb
theorem Ringed.drew {w : World} {R S cap at_ : Nat} {q : List UInt8} {lost : Int} (h : Ringed w R S cap at_ q lost) : Ringed w.drew R S cap at_ q lost :=
 h.of_only (Only.refl [] w).drew (by simp) (by simp)
theorem Ringed.lt {w : World} {R S cap at_ : Nat} {q : List UInt8} {lost : Int} (h : Ringed w R S cap at_ q lost) : R < w.heap.size ∧ S < w.heap.size := by
 obtain ⟨buf,hb,_⟩ := h.room
 exact ⟨(Array.getElem?_eq_some_iff.1 hb).1,(Array.getElem?_eq_some_iff.1 h.str).1⟩
theorem ringed_new (w : World) (cap : Nat) (h0 : 0 < cap) (h1 : cap ≤ 4096) :
  Ringed ((w.alloc (.cells (madeCells #[.int .u8 0] cap) 5)).alloc (.cells #[.slice (some ⟨w.heap.size,0,none⟩) cap cap,.int .i64 0,.int .i64 0,.int .i64 0] 126)) w.heap.size (w.heap.size + 1) cap 0 [] 0 := by
 refine ⟨by omega,h0,h1,h0,by simp,?_,madeCells #[.int .u8 0] cap,?_,size_madeCells _ _,?_,?_⟩
 ·show ((w.heap.push _).push _)[w.heap.size + 1]? = _
  rw [Array.getElem?_push,if_pos (by simp)];rfl
 ·show ((w.heap.push _).push _)[w.heap.size]? = _
  rw [Array.getElem?_push,if_neg (by simp),Array.getElem?_push,if_pos rfl]
 ·intro i hi
  refine ⟨0,?_⟩
  have := toList_madeCells_one (.int .u8 0) cap
  rw [← Array.getElem?_toList,this,List.getElem?_replicate,if_pos hi];rfl
 ·intro i hi;simp at hi
theorem mod_ne {a b c m : Nat} (h0 : a < m) (hb : b < m) (hc : c < m) (h : b ≠ c) : (a + b) % m ≠ (a + c) % m := by
 have e1 : (a + b) % m = if a + b < m then a + b else a + b - m := by
  split
  ·exact Nat.mod_eq_of_lt ‹_›
  ·rw [Nat.mod_eq_sub_mod (by omega),Nat.mod_eq_of_lt (by omega)]
 have e2 : (a + c) % m = if a + c < m then a + c else a + c - m := by
  split
  ·exact Nat.mod_eq_of_lt ‹_›
  ·rw [Nat.mod_eq_sub_mod (by omega),Nat.mod_eq_of_lt (by omega)]
 rw [e1,e2]
 split <;> split <;> omega
theorem Ringed.put {w : World} {R S cap at_ : Nat} {q : List UInt8} {lost : Int} (h : Ringed w R S cap at_ q lost) (hl : q.length < cap) (x : UInt8) :
  Ringed ((w.setCell ⟨R,(at_ + q.length) % cap,none⟩ (byteV x)).setCell ⟨S,2,none⟩ (.int .i64 ((q.length : Int) + 1))) R S cap at_ (q ++ [x]) lost := by
 obtain ⟨buf,hb,hsz,hall,hq⟩ := h.room
 have hpos := h.capPos
 have hat := h.atLt
 have hm : (at_ + q.length) % cap < buf.size := by rw [hsz];exact Nat.mod_lt _ hpos
 refine ⟨h.ne,h.capPos,h.capLe,h.atLt,by simp;omega,?_,buf.setIfInBounds ((at_ + q.length) % cap) (byteV x),?_,by simpa using hsz,?_,?_⟩
 ·have h1 : (w.setCell ⟨R,(at_ + q.length) % cap,none⟩ (byteV x)).heap[S]? = _ := (heap_set_other (Ne.symm h.ne)).trans h.str
  rw [heap_set_same h1]
  simp
 ·rw [heap_set_other h.ne,heap_set_same hb]
 ·intro i hi
  rw [Array.getElem?_setIfInBounds]
  split
  ·exact ⟨x,by first | rfl | rw [if_pos hm]⟩
  ·exact hall i hi
 ·intro i hi
  simp at hi
  rw [Array.getElem?_setIfInBounds]
  by_cases e : i = q.length
  ·subst e
   rw [if_pos rfl,if_pos hm]
   simp
  ·have hne := mod_ne (a := at_) (b := q.length) (c := i) hat hl (by omega) (fun e' => e e'.symm)
   rw [if_neg hne,hq i (by omega)]
   simp [List.getD,List.getElem?_append,show i < q.length by omega]
theorem Ringed.setLost {w : World} {R S cap at_ : Nat} {q : List UInt8} {lost : Int} (h : Ringed w R S cap at_ q lost) (l : Int) :
  Ringed (w.setCell ⟨S,3,none⟩ (.int .i64 l)) R S cap at_ q l := by
 obtain ⟨buf,hb,rest⟩ := h.room
 refine ⟨h.ne,h.capPos,h.capLe,h.atLt,h.len,?_,buf,?_,rest⟩
 ·rw [heap_set_same h.str];simp
 ·rw [heap_set_other h.ne];exact hb
theorem Ringed.take {w : World} {R S cap at_ : Nat} {x : UInt8} {q : List UInt8} {lost : Int} (h : Ringed w R S cap at_ (x :: q) lost) :
  Ringed ((w.setCell ⟨S,1,none⟩ (.int .i64 (((at_ + 1) % cap : Nat) : Int))).setCell ⟨S,2,none⟩ (.int .i64 (q.length : Int))) R S cap ((at_ + 1) % cap) q lost := by
 obtain ⟨buf,hb,hsz,hall,hq⟩ := h.room
 have hpos := h.capPos
 have hat := h.atLt
 refine ⟨h.ne,h.capPos,h.capLe,Nat.mod_lt _ hpos,by have := h.len;simp at this;omega,?_,buf,?_,hsz,hall,?_⟩
 ·rw [heap_set_same (heap_set_same h.str)];simp
 ·rw [heap_set_other h.ne,heap_set_other h.ne];exact hb
 ·intro i hi
  have := hq (i + 1) (by simp;omega)
  rw [Nat.mod_add_mod,Nat.add_assoc,Nat.add_comm 1 i]
  simpa using this
theorem Ringed.first {w : World} {R S cap at_ : Nat} {x : UInt8} {q : List UInt8} {lost : Int} (h : Ringed w R S cap at_ (x :: q) lost) : w.cell? ⟨R,at_,none⟩ = some (byteV x) := by
 obtain ⟨buf,hb,hsz,hall,hq⟩ := h.room
 have := hq 0 (by simp)
 rw [Nat.add_zero,Nat.mod_eq_of_lt h.atLt] at this
 exact cell_at hb (by simpa using this)
theorem Ringed.grown {w w' : World} {R S cap at_ : Nat} {q : List UInt8} {lost : Int} {row : Option Nat} (h : Ringed w R S cap at_ q lost) (hg : w.grownBy w' row) (hR : row ≠ some R) (hS : row ≠ some S) : Ringed w' R S cap at_ q lost := by
 obtain ⟨buf,hb,rest⟩ := h.room
 refine ⟨h.ne,h.capPos,h.capLe,h.atLt,h.len,?_,buf,?_,rest⟩
 ·rw [hg.block S (Array.getElem?_eq_some_iff.1 h.str).1 (Ne.symm hS)];exact h.str
 ·rw [hg.block R (Array.getElem?_eq_some_iff.1 hb).1 (Ne.symm hR)];exact hb
theorem owns_set {w : World} {base : Nat} {v : Value} {n : Nat} {xs : List Value} (h : w.ownsRow base 5 1 v n xs) {b i : Nat} (hb : b < base) (u : Value) : (w.setCell ⟨b,i,none⟩ u).ownsRow base 5 1 v n xs :=
 ownsRow_setCell_below h hb u
def capOf (n : Int) : Nat := if n ≤ 1 then 1 else if n ≤ 4096 then n.toNat else 4096
theorem capOf_bd (n : Int) : 0 < capOf n ∧ capOf n ≤ 4096 := by unfold capOf;split <;> (try split) <;> omega
theorem mk_run (w : World) (c : Nat) (C : Int) (hC : C = c) (h1 : c ≤ 4096) : (Instr.makeSlice 22 (.int .i64 C) (.int .i64 C)).run Tryz.prog w = .ok (.slice (some ⟨w.heap.size,0,none⟩) c c) (w.alloc (.cells (madeCells #[.int .u8 0] c) 5)) := by
 obtain ⟨i,hi,hz,hs,hb⟩ := info_parts Tryz.info5
 have hmk := run_make (P := Tryz.prog) w 22 5 i (.int .u8 0) Tryz.underlying22 hi hz .i64 .i64 c c (by omega) (by omega) (by rw [hb];omega) (by omega)
 rw [hs] at hmk
 simp only [Int.toNat_natCast,Nat.mul_one] at hmk
 rw [hC];exact hmk
theorem of_case (n : Int) (c : Nat) (h0 : 0 < c) (h1 : c ≤ 4096) (w : World) (hn : (c = 1 ∧ n ≤ 1) ∨ (n = c) ∨ (c = 4096 ∧ 4096 < n)) :
  Calls Tryz.prog 40 #[.int .i64 n] w fun e w' => e = .returned (.pointer (some ⟨w.heap.size + 1,0,none⟩)) ∧ Ringed w' w.heap.size (w.heap.size + 1) c 0 [] 0 ∧ Only [] w w' := by
 rcases hn with ⟨rfl,hn⟩ | rfl | ⟨rfl,hn⟩
 ·have hmk := mk_run w 1 1 rfl (by omega)
  go_enter Tryz.func40,Tryz.ntmps40
  go_wp2
  go_ret
  exact ⟨rfl,ringed_new w 1 (by omega) (by omega),((Only.refl _ _).alloc _).alloc _⟩
 ·by_cases c1 : (c : Int) = 1
  ·obtain rfl : c = 1 := by omega
   have hmk := mk_run w 1 1 rfl (by omega)
   go_enter Tryz.func40,Tryz.ntmps40
   go_wp2
   go_ret
   exact ⟨rfl,ringed_new w 1 (by omega) (by omega),((Only.refl _ _).alloc _).alloc _⟩
  ·have hmk := mk_run w c c rfl h1
   go_enter Tryz.func40,Tryz.ntmps40
   go_wp2
   go_ret
   exact ⟨rfl,ringed_new w c (by omega) (by omega),((Only.refl _ _).alloc _).alloc _⟩
 ·have hmk := mk_run w 4096 4096 rfl (by omega)
  go_enter Tryz.func40,Tryz.ntmps40
  go_wp2
  go_ret
  exact ⟨rfl,ringed_new w 4096 (by omega) (by omega),((Only.refl _ _).alloc _).alloc _⟩
theorem ringof_any (n : Int) (w : World) :
  Calls Tryz.prog 40 #[.int .i64 n] w fun e w' => e = .returned (.pointer (some ⟨w.heap.size + 1,0,none⟩)) ∧ Ringed w' w.heap.size (w.heap.size + 1) (capOf n) 0 [] 0 ∧ Only [] w w' := by
 have h := capOf_bd n
 refine of_case n (capOf n) h.1 h.2 w ?_
 unfold capOf
 split
 ·exact .inl ⟨rfl,‹_›⟩
 ·split
  ·exact .inr (.inl (by omega))
  ·exact .inr (.inr ⟨rfl,by omega⟩)
theorem lost_any (R S cap at_ : Nat) (q : List UInt8) (lost : Int) (w : World) (h : Ringed w R S cap at_ q lost) :
  Calls Tryz.prog 30 #[.pointer (some ⟨S,0,none⟩)] w fun e w' => e = .returned (.int .i64 lost) ∧ w = w' := by
 have h2 : w.cell? ⟨S,3,none⟩ = some (.int .i64 lost) := cell_at h.str rfl
 clear h
 go_enter Tryz.func30,Tryz.ntmps30
 go_wp2
 go_ret
 exact ⟨rfl,rfl⟩
theorem sum_w (a m c : Nat) (ha : a < c) (hm : m < c) (hc : c ≤ 4096) : wrap64 ((a : Int) + (m : Int)) = (a : Int) + m := by
 unfold wrap64;omega
theorem sum_i (a m c : Nat) (ha : a < c) (hm : m < c) (hc : c ≤ 4096) : IntKind.i64.wrap ((a : Int) + (m : Int)) = (a : Int) + m := by
 rw [IntKind.wrap_i64];omega
theorem sum_mod (a m c x : Nat) (hx : x = (a + m) % c) : ((a : Int) + (m : Int)).tmod (c : Int) = (x : Int) := by
 rw [Int.tmod_eq_emod_of_nonneg (by omega),hx]
 simp
theorem sub_w (n f : Nat) (h : f ≤ n) (h2 : n ≤ 9223372036854775807) : wrap64 ((n : Int) - f) = (n : Int) - f := by
 unfold wrap64;omega
theorem rput_some (R S cap at_ : Nat) (q : List UInt8) (lost : Int) (B off : Nat) (bs : List UInt8) (c G F : Nat) (w : World) (h : Ringed w R S cap at_ q lost) (hb : Bytes w (some ⟨B,off,none⟩) bs) (hR : B ≠ R) (hS : B ≠ S) (hc : bs.length ≤ c) (hm : c ≤ 9223372036854775807) (hG : (cap : Int) - (q.length : Int) = (G : Int)) (hF : F = min bs.length G) :
  Calls Tryz.prog 29 #[.pointer (some ⟨S,0,none⟩),.slice (some ⟨B,off,none⟩) bs.length c] w fun e w' =>
   e = .returned (.int .i64 F) ∧ Ringed w' R S cap at_ (q ++ bs.take F) (wrap64 (lost + ((bs.length : Int) - F))) ∧ Only [R,S] w w' := by
 have hql := h.len
 have hcl := h.capLe
 have hsl := run_head Tryz.prog w.drew 22 (some ⟨B,off,none⟩) bs.length c F Tryz.elem22 1 Tryz.size5 (by omega) .i64
 have g0 : w.cell? ⟨S,0,none⟩ = some (.slice (some ⟨R,0,none⟩) cap cap) := cell_at h.str rfl
 have g2 : w.cell? ⟨S,2,none⟩ = some (.int .i64 q.length) := cell_at h.str rfl
 have hmin : (if G < bs.length then (G : Int) else (bs.length : Int)) = (F : Int) := by split <;> omega
 have HF : Hid (F = min bs.length G) := hF
 clear hF
 go_enter Tryz.func29,Tryz.ntmps29
 go_wp2
 go_region
 go_wp2
 clear hsl hmin g0 g2
 go_loopw [25] (fun i wr => ∃ k : Nat,k ≤ F ∧ i = .int .i64 k ∧ Ringed wr R S cap at_ (q ++ bs.take k) lost ∧ Only [R,S] w wr) (fun i _ => F - (intOf i).toNat)
 case atStart => exact ⟨0,Nat.zero_le _,rfl,by simpa using h.drew,(Only.refl _ _).drew⟩
 case round =>
  obtain ⟨k,hk,rfl,hr,ho⟩ := hrel
  by_cases hlt : k < F
  ·obtain ⟨m,hmm⟩ : ∃ m,m = q.length + k := ⟨_,rfl⟩
   obtain ⟨x,hx⟩ : ∃ x,x = (at_ + m) % cap := ⟨_,rfl⟩
   have hlen : (q ++ bs.take k).length = m := by have hF := HF.out;simp;omega
   have hlt2 : m < cap := by have hF := HF.out;omega
   have hkb : k < 4096 := by have hF := HF.out;omega
   have hxc : x < cap := by rw [hx];exact Nat.mod_lt _ h.capPos
   have hbb : wr.cell? ⟨B,off + k,none⟩ = some (byteV (bs.getD k 0)) := by have h' := (hb.of_only ho (.inr (by intro ad e;cases e;simp [hR,hS]))).cell _ rfl k (by have hF := HF.out;omega);rw [Addr.add_lit] at h';exact h'
   have hp := hr.put (by omega) (bs.getD k 0)
   have hstr := hr.str
   have hat := hr.atLt
   obtain ⟨buf,hbuf,hbs,hall,_⟩ := hr.room
   obtain ⟨xo,hxo⟩ := hall x hxc
   rw [hlen,← hx] at hp
   rw [hlen] at hstr
   rw [List.append_assoc,← take_snoc bs k (by have hF := HF.out;omega)] at hp
   have HP := LH hp
   have g0 : wr.cell? ⟨S,0,none⟩ = some (.slice (some ⟨R,0,none⟩) cap cap) := cell_at hstr rfl
   have g1 : wr.cell? ⟨S,1,none⟩ = some (.int .i64 at_) := cell_at hstr rfl
   have g2 : wr.cell? ⟨S,2,none⟩ = some (.int .i64 m) := cell_at hstr rfl
   have gx : wr.cell? ⟨R,x,none⟩ = some (byteV xo) := cell_at hbuf hxo
   have f2 : wr.frozen? ⟨S,2,none⟩ = false := free_at hstr
   have fx : wr.frozen? ⟨R,x,none⟩ = false := free_at hbuf
   have e1 := sum_w at_ m cap hat hlt2 hcl
   have e2 := sum_i at_ m cap hat hlt2 hcl
   have e3 := sum_mod at_ m cap x hx
   have hne := hr.ne
   have hcz : ¬ cap = 0 := by have := hr.capPos;omega
   have Hx := LH hx
   have Hm := LH hmm
   have Hs := LH hbs
   clear hx hmm hp hlen hstr hbuf hall hbs hxo hr
   go_wp2
   go_still_tail 21,(by kernel_rfl)
   change wpList _ _ _ _ _ wr.drew
   clear e1 e2 e3 hcz
   go_wp2
   go_roundw
   case rel => exact ⟨k + 1,by omega,by go_num,by have h' := HP.out.drew;rw [List.getD_eq_getElem?_getD] at h';exact h',((ho.drew.setCell (by simp) _).setCell (by simp) _)⟩
   case measure => simp [intOf];omega
  ·obtain rfl : k = F := by omega
   have g3 : wr.cell? ⟨S,3,none⟩ = some (.int .i64 lost) := cell_at hr.str rfl
   have f3 : wr.frozen? ⟨S,3,none⟩ = false := free_at hr.str
   have hp := hr.setLost (wrap64 (lost + ((bs.length : Int) - k)))
   have HP := LH hp
   have HO := LH ho
   have hF := HF.out
   have e1 : wrap64 ((bs.length : Int) - (k : Int)) = (bs.length : Int) - k := sub_w _ _ (by omega) (by omega)
   clear hp hr ho hF
   go_wp2
   go_ret
   exact ⟨rfl,HP.out,HO.out.setCell (by simp) _⟩
theorem rput_nil (R S cap at_ : Nat) (q : List UInt8) (lost : Int) (a : Option Addr) (c G : Nat) (w : World) (h : Ringed w R S cap at_ q lost) (hG : (cap : Int) - (q.length : Int) = (G : Int)) (hl : wrap64 lost = lost) :
  Calls Tryz.prog 29 #[.pointer (some ⟨S,0,none⟩),.slice a 0 c] w fun e w' =>
   e = .returned (.int .i64 0) ∧ Ringed w' R S cap at_ q lost ∧ Only [R,S] w w' := by
 have hql := h.len
 have hcl := h.capLe
 have hsl := run_head Tryz.prog w.drew 22 a 0 c 0 Tryz.elem22 1 Tryz.size5 (by omega) .i64
 have g0 : w.cell? ⟨S,0,none⟩ = some (.slice (some ⟨R,0,none⟩) cap cap) := cell_at h.str rfl
 have g2 : w.cell? ⟨S,2,none⟩ = some (.int .i64 q.length) := cell_at h.str rfl
 have g3 : w.cell? ⟨S,3,none⟩ = some (.int .i64 lost) := cell_at h.str rfl
 have f3 : w.frozen? ⟨S,3,none⟩ = false := free_at h.str
 have hp := (h.setLost lost).drew
 have HP := LH hp
 clear hp
 go_enter Tryz.func29,Tryz.ntmps29
 go_wp2
 go_region
 go_wp2
 refine wp_loop_rounds 1 ?_
 rw [rounds_succ]
 go_wp2
 go_ret
 exact ⟨rfl,HP.out,((Only.refl _ _).setCell (by simp) _).drew⟩
theorem put_any (R S cap at_ : Nat) (q : List UInt8) (lost : Int) (a : Option Addr) (bs : List UInt8) (n c : Nat) (w : World) (h : Ringed w R S cap at_ q lost) (hl : wrap64 lost = lost) (hb : Bytes w a bs) (ha : bs = [] ∨ Away a [R,S]) (hn : bs.length = n) (hc : n ≤ c) (hm : c ≤ 9223372036854775807) :
  Calls Tryz.prog 29 #[.pointer (some ⟨S,0,none⟩),.slice a n c] w fun e w' =>
   e = .returned (.int .i64 (min n (cap - q.length) : Nat)) ∧ Ringed w' R S cap at_ (q ++ bs.take (min n (cap - q.length))) (wrap64 (lost + ((n : Int) - (min n (cap - q.length) : Nat)))) ∧ Only [R,S] w w' := by
 have hG : (cap : Int) - (q.length : Int) = ((cap - q.length : Nat) : Int) := by have := h.len;omega
 subst hn
 cases bs with
 | nil =>
  have := rput_nil R S cap at_ q lost a c _ w h hG hl
  simpa [hl] using this
 | cons x bs =>
  cases a with
  | none => cases hb.nil rfl
  | some ad =>
   obtain ⟨B,off,sp⟩ := ad
   have hsp := spot_of_cell (hb.cell _ rfl 0 (by simp))
   simp only [Addr.add,if_pos] at hsp
   subst hsp
   have hm2 := (ha.resolve_left (by simp)) _ rfl
   simp only [List.mem_cons,List.not_mem_nil,or_false,not_or] at hm2
   exact rput_some R S cap at_ q lost B off (x :: bs) c _ _ w h hb hm2.1 hm2.2 hc hm hG rfl
theorem wrap_in (x : Int) (h0 : 0 ≤ x) (h1 : x ≤ 9223372036854775807) : wrap64 x = x := by
 unfold wrap64;omega
theorem put_fit (R S cap at_ : Nat) (q : List UInt8) (lost : Int) (a : Option Addr) (bs : List UInt8) (n c : Nat) (w : World) (h : Ringed w R S cap at_ q lost) (hb : Bytes w a bs) (ha : bs = [] ∨ Away a [R,S]) (hn : bs.length = n) (hc : n ≤ c) (hm : c ≤ 9223372036854775807) (h0 : 0 ≤ lost) (h1 : lost + n ≤ 9223372036854775807) (F : Nat) (hF : F = min n (cap - q.length)) (q' : List UInt8) (hq : q' = q ++ bs.take F) (l' : Int) (hl' : l' = lost + ((n : Int) - F)) :
  Calls Tryz.prog 29 #[.pointer (some ⟨S,0,none⟩),.slice a n c] w fun e w' =>
   e = .returned (.int .i64 F) ∧ Ringed w' R S cap at_ q' l' ∧ Only [R,S] w w' := by
 have hw : wrap64 (lost + ((n : Int) - F)) = l' := by rw [hl'];exact wrap_in _ (by omega) (by omega)
 have := put_any R S cap at_ q lost a bs n c w h (wrap_in _ h0 (by omega)) hb ha hn hc hm
 rw [← hF,← hq,hw] at this
 exact this
def errV (e : Nat) : Value := if e = 0 then .nilIface else .iface 57 (.int .i64 e)
theorem errV_zero : errV 0 = .nilIface := rfl
theorem errV_pos {e : Nat} (h : 0 < e) : errV e = .iface 57 (.int .i64 e) := by unfold errV;rw [if_neg (by omega)]
theorem u46 : Tryz.prog.underlying 46 = some (.interface (Tryz.prog.methodsAt 46)) := by kernel_rfl
theorem u57 : Tryz.prog.underlying 57 = some (.int .i64) := by kernel_rfl
theorem c57 : (Tryz.prog.info? 57).map (·.comparable) = some true := by kernel_rfl
theorem eql_ii (w : World) (a b : Int) : (binOp .eql 46 (.iface 57 (.int .i64 a)) (.iface 57 (.int .i64 b))).run Tryz.prog w = .ok (.bool (a == b)) w := Lib.run_eql_iface_int w a b u46 c57 u57
theorem eql_ni (w : World) (t : TypeId) (x : Value) : (binOp .eql 46 .nilIface (.iface t x)).run Tryz.prog w = .ok (.bool false) w := by
 have h : ∀ d : Nat,(Op.equalIn (d + 1) 46 .nilIface (.iface t x)).run Tryz.prog w = .ok false w := fun d => by
  simp [Op.equalIn,run_underlying u46]
 simp only [binOp]
 simp [Op.equal,Op.maxDepth,h 9999]
theorem eql_in (w : World) (t : TypeId) (x : Value) : (binOp .eql 46 (.iface t x) .nilIface).run Tryz.prog w = .ok (.bool false) w := run_eql_held_nil w 46 t x u46
theorem neq_in (w : World) (t : TypeId) (x : Value) : (binOp .neq 46 (.iface t x) .nilIface).run Tryz.prog w = .ok (.bool true) w := run_neq_held_nil w 46 t x u46
theorem eql_nn (w : World) : (binOp .eql 46 .nilIface .nilIface).run Tryz.prog w = .ok (.bool true) w := run_eql_nil_nil w 46 u46
theorem neq_nn (w : World) : (binOp .neq 46 .nilIface .nilIface).run Tryz.prog w = .ok (.bool false) w := run_neq_nil_nil w 46 u46
theorem run_appAt (w : World) (base : Nat) (ty : TypeId) (v : Value) (n : Nat) (xs : List UInt8) (hown : w.ownsRow base 5 1 v n (xs.map byteV)) (a : Option Addr) (m c : Nat) (bs : List UInt8) (hb : Bytes w a bs) (hm : bs.length = m) (hn : a = none → c = 0) (hl : n + m ≤ 140737488355328) (hbase : base ≤ w.heap.size) :
  ∃ v' w',(Builtin.append_ #[22,22] ty #[v,.slice a m c]).run Tryz.prog w = .ok v' w' ∧ w'.ownsRow base 5 1 v' (n + m) ((xs ++ bs).map byteV) ∧ w.grownBy w' v.ownBlock ∧ (∀ g',v'.ownBlock = some g' → v.ownBlock = some g' ∨ w.heap.size ≤ g') := by
 obtain ⟨i0,hi,hz0,hz1,hz2⟩ := info_parts Tryz.info5
 cases a with
 | none =>
  obtain rfl := hn rfl
  obtain rfl := hb.nil rfl
  simp only [List.length_nil] at hm
  subst hm
  refine ⟨v,w,run_append_owned_none (P := Tryz.prog) w base 22 ty 5 i0 1 Tryz.underlying22 hi v n _ hown,?_,World.grownBy.refl _ _,fun g e => .inl e⟩
  simpa using hown
 | some ad =>
  obtain ⟨v',w',hr,h1,h2,_,h4⟩ := run_append_own_at (P := Tryz.prog) w base 22 ty 5 i0 (.int .u8 0) 1 1 Tryz.underlying22 hi hz0 hz1 hz2 rfl (by decide) v n _ hown ad m c (bs.map byteV) (by simp [hm]) (bytes_news hb) (byteV_one bs) (by unfold maxLen;omega) (by omega) hbase
  refine ⟨v',w',hr,by rw [List.map_append];exact h1,h2,fun g' e' => ?_⟩
  rcases h4 with r4 | r4
  ·left;rw [← r4];exact e'
  ·right;rw [r4] at e';cases e';exact Nat.le_refl _
theorem wpList_appAt (w : World) {ops : Array Oper} {rest : List Oper} {o : Oper} {a : Act} {Q : Exit → Act → World → Prop} (hg : o.guard = none) (s x : Operand) (hop : o.op = Op.call { callee := Callee.builtin Builtin.append,args := #[s,x],argTypes := #[22,22] }) (base : Nat) (v : Value) (n : Nat) (xs : List UInt8) (hs : a.eval s = v) (hown : w.ownsRow base 5 1 v n (xs.map byteV)) (ao : Option Addr) (m c : Nat) (bs : List UInt8) (hx : a.eval x = .slice ao m c) (hb : Bytes w ao bs) (hm : bs.length = m) (hn : ao = none → c = 0) (zs : List UInt8) (hz : xs ++ bs = zs) (N : Nat) (hN : n + m = N) (hl : N ≤ 140737488355328) (hbase : base ≤ w.heap.size) (hK : ∀ a' c' w',w'.ownsRow base 5 1 (.slice a' N c') N (zs.map byteV) → w.grownBy w' v.ownBlock → (∀ g',(Value.slice a' N c').ownBlock = some g' → v.ownBlock = some g' ∨ w.heap.size ≤ g') → wpList Tryz.prog ops Q rest (a.put o.dst (.slice a' N c')) w') :
  wpList Tryz.prog ops Q (o :: rest) a w := by
 subst hz
 subst hN
 refine wpList_plain hg fun K hK' => ?_
 obtain ⟨v',w',hrun,r1,r2,r3⟩ := run_appAt w base o.type v n xs hown ao m c bs hb hm hn hl hbase
 obtain ⟨a',c',rfl⟩ := own_slice r1
 unfold Oper.wp
 simp [execOp,hop,resolve,invoke,builtin,hs,hx,hrun,Result.andThen]
 exact hK' _ _ (hK _ _ w' r1 r2 r3)
abbrev RowB (w : World) (v : Value) (bs : List UInt8) : Prop := w.ownsRow 0 5 1 v bs.length (bs.map byteV)
theorem RowB.live {w : World} {v : Value} {bs : List UInt8} (h : RowB w v bs) : ∀ g,v.ownBlock = some g → g < w.heap.size := fun g e => (World.ownsRow.lt h g e).2
theorem RowB.slc {w : World} {v : Value} {bs : List UInt8} (h : RowB w v bs) : Slc w (ownL v) v bs := by
 obtain ⟨a,c,rfl⟩ := own_slice h
 obtain ⟨h1,h2,h3,h4,h5,h6⟩ := Bytes.of_owns h
 refine ⟨a,c,rfl,h1,h3,h6,h4,fun x e => ?_⟩
 subst e
 rcases h.2 with ⟨hv,_⟩ | ⟨g,cap,cur,hv,_⟩
 ·cases hv
 ·simp only [Value.slice.injEq] at hv
  obtain ⟨e,_,_⟩ := hv
  cases e
  simp [ownL,Value.ownBlock]
theorem RowB.nil (w : World) : RowB w (.slice none 0 0) [] := World.ownsRow_nil _ _ _ _
theorem Out.row {w w' : World} {v : Value} {bs : List UInt8} (h : Out w w' v bs) : RowB w' v bs := ownsRow_base h (Nat.zero_le _)
theorem mem_ownL {v : Value} {g : Nat} : g ∈ ownL v ↔ v.ownBlock = some g := by simp [ownL]
end Go.Proofs.YtplaamfoeaaaiaaGreatDoor
