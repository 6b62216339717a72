/- A part of the proofs of the laws of lifelinetop (TopNever, TopLost, TopRoom): contracts of functions that these laws reach. No condition of its own. -/
import Derived.Test.YtplaamfoeaaaiaaGreatDoorK01
import Derived.Test.YtplaamfoeaaaiaaGreatDoorRows
import Derived.WalkKit
import Derived.WalkSpells
import Derived.WalkLawsBesides
import Derived.Lib.Hide
import Derived.IntWalk
import Derived.OwnWalk
import Derived.BigQuiet
import Derived.Deep.QuietTactic
import Derived.Maps.AppendAt
import Derived.OrdersHeld
import Derived.KernelRfl
import Derived.StillTailTactics
set_option maxRecDepth 100000
set_option maxHeartbeats 8000000
set_option linter.unusedVariables false
namespace Go.Proofs.YtplaamfoeaaaiaaGreatDoor
open Go.RowKit
structure Only (bs : List Nat) (w w' : World) : Prop where
 os : w'.os = w.os
 tape : w'.tape = w.tape
 output : w'.output = w.output
 size : w.heap.size ≤ w'.heap.size
 block : ∀ k,k < w.heap.size → k ∉ bs → w'.heap[k]? = w.heap[k]?
theorem Only.refl (bs : List Nat) (w : World) : Only bs w w := ⟨rfl,rfl,rfl,Nat.le_refl _,fun _ _ _ => rfl⟩
theorem Only.trans {bs : List Nat} {a b c : World} (h : Only bs a b) (k : Only bs b c) : Only bs a c :=
 ⟨k.os.trans h.os,k.tape.trans h.tape,k.output.trans h.output,Nat.le_trans h.size k.size,
  fun i hi hn => (k.block i (Nat.lt_of_lt_of_le hi h.size) hn).trans (h.block i hi hn)⟩
theorem Only.weaken {bs cs : List Nat} {a b : World} (h : Only bs a b) (hs : ∀ x,x ∈ bs → x ∈ cs) : Only cs a b :=
 ⟨h.os,h.tape,h.output,h.size,fun i hi hn => h.block i hi fun hx => hn (hs i hx)⟩
theorem Only.drew {bs : List Nat} {a w : World} (h : Only bs a w) : Only bs a w.drew := ⟨h.os,h.tape,h.output,h.size,h.block⟩
theorem Only.alloc {bs : List Nat} {a w : World} (h : Only bs a w) (o : Obj) : Only bs a (w.alloc o) :=
 h.trans ⟨rfl,rfl,rfl,by simp,fun k hk _ => Below.heap_alloc _ _ _ hk⟩
theorem Only.setCell {bs : List Nat} {a w : World} (h : Only bs a w) {p : Addr} (hp : p.block ∈ bs) (u : Value) : Only bs a (w.setCell p u) :=
 h.trans ⟨rfl,rfl,rfl,by simp [World.setCell],fun k _ hn => Below.heap_setCell _ _ _ _ (fun e => hn (e ▸ hp))⟩
theorem cell_at {w : World} {b i : Nat} {c : Array Value} {t : TypeId} {fr : Nat × Nat} {v : Value} (h : w.heap[b]? = some (.cells c t fr)) (hv : c[i]? = some v) : w.cell? ⟨b,i,none⟩ = some v := by
 rw [cell_of_row w b i c t fr h];exact hv
theorem free_at {w : World} {b i : Nat} {c : Array Value} {t : TypeId} (h : w.heap[b]? = some (.cells c t (0,0))) : w.frozen? ⟨b,i,none⟩ = false := frozen_of_row w b i c t h
abbrev byteV (x : UInt8) : Value := .int .u8 (x.toNat : Int)
theorem heap_set_same {w : World} {b i : Nat} {c : Array Value} {t : TypeId} {v : Value} (h : w.heap[b]? = some (.cells c t (0,0))) : (w.setCell ⟨b,i,none⟩ v).heap[b]? = some (.cells (c.setIfInBounds i v) t (0,0)) := heap_setCell_same w b i c t v h
theorem heap_set_other {w : World} {b b' i : Nat} {v : Value} (h : b ≠ b') : (w.setCell ⟨b',i,none⟩ v).heap[b]? = w.heap[b]? := heap_setCell_other w ⟨b',i,none⟩ b v h
theorem Only.grown {bs : List Nat} {a w w' : World} {row : Option Nat} (h : Only bs a w) (hg : w.grownBy w' row) (hr : ∀ k,row = some k → k ∈ bs ∨ a.heap.size ≤ k) : Only bs a w' :=
 ⟨hg.os.trans h.os,hg.tape.trans h.tape,hg.output.trans h.output,Nat.le_trans h.size hg.size,
  fun k hk hn => (hg.block k (Nat.lt_of_lt_of_le hk h.size) (fun e => by
                                      rcases hr k e.symm with h' | h'
                                      ·exact hn h'
                                      ·omega)).trans (h.block k hk hn)⟩
theorem only_drewN (bs : List Nat) (w : World) (n : Nat) : Only bs w (w.drewN n) := ⟨rfl,rfl,rfl,Nat.le_refl _,fun _ _ _ => rfl⟩
theorem only_set (w : World) (g i : Nat) (v : Value) : Only [g] w (w.setCell ⟨g,i,none⟩ v) := (Only.refl [g] w).setCell (by simp) v
theorem ownsRow_only {w w' : World} {base e size : Nat} {v : Value} {n : Nat} {xs : List Value} {bs : List Nat} (h : w.ownsRow base e size v n xs) (ho : Only bs w w') (hv : ∀ g,v.ownBlock = some g → g ∉ bs) : w'.ownsRow base e size v n xs := by
 refine ⟨h.1,?_⟩
 rcases h.2 with hn | ⟨g,cap,cur,rfl,hb,hh,rest⟩
 ·exact .inl hn
 ·exact .inr ⟨g,cap,cur,rfl,hb,by rw [ho.block g (Array.getElem?_eq_some_iff.1 hh).1 (hv g rfl)];exact hh,rest⟩
theorem Only.drewN {bs : List Nat} {a w : World} (h : Only bs a w) (n : Nat) : Only bs a (w.drewN n) := h.trans (only_drewN bs w n)
theorem Tryz.info5 : (Tryz.prog.info? 5).map (fun i => (i.zero,i.size,i.bytes)) = some (some (.int .u8 0),1,1) := by kernel_rfl
structure Bytes (w : World) (a : Option Addr) (bs : List UInt8) : Prop where
 nil : a = none → bs = []
 cell : ∀ ad,a = some ad → ∀ i,i < bs.length → w.cell? (ad.add i) = some (byteV (bs.getD i 0))
def Away (a : Option Addr) (bs : List Nat) : Prop := ∀ ad,a = some ad → ad.block ∉ bs
theorem add_block (ad : Addr) (i : Nat) : (ad.add i).block = ad.block := by unfold Addr.add;split <;> rfl
theorem Bytes.of_only {w w' : World} {a : Option Addr} {bs : List UInt8} {ks : List Nat} (h : Bytes w a bs) (ho : Only ks w w') (ha : bs = [] ∨ Away a ks) : Bytes w' a bs := by
 refine ⟨h.nil,fun ad had i hi => ?_⟩
 have hc := h.cell ad had i hi
 have hlt := World.block_lt_of_cell? w _ hc
 rcases ha with rfl | ha
 ·simp at hi
 ·rw [World.cell?_of_block (w := w) (ho.block _ hlt (by rw [add_block];exact ha ad had))];exact hc
theorem Bytes.of_block {w : World} {b : Nat} {bs : List UInt8} {c : Array Value} {t : TypeId} {fr : Nat × Nat} (h : w.heap[b]? = some (.cells c t fr)) (hc : ∀ i,i < bs.length → c[i]? = some (byteV (bs.getD i 0))) : Bytes w (some ⟨b,0,none⟩) bs := by
 refine ⟨fun e => (by cases e),fun ad e i hi => ?_⟩
 cases e
 rw [Addr.add_lit,Nat.zero_add]
 exact cell_at h (hc i hi)
theorem spot_of_cell {w : World} {ad : Addr} {v : Value} (h : w.cell? ad = some v) : ad.spot = none := by
 cases hs : ad.spot with
 | none => rfl
 | some x => unfold World.cell? at h;split at h <;> simp [hs] at h
theorem Bytes.of_owns {w : World} {base : Nat} {a : Option Addr} {n c : Nat} {bs : List UInt8} (h : w.ownsRow base 5 1 (.slice a n c) n (bs.map byteV)) : Bytes w a bs ∧ bs.length = n ∧ n ≤ c ∧ (a = none → c = 0) ∧ (∀ ad,a = some ad → base ≤ ad.block) ∧ c ≤ maxLen := by
 have hl : bs.length = n := by have := h.1;simpa using this
 rcases h.2 with ⟨hv,hn⟩ | ⟨g,cap,cur,hv,hg,hh,hle,hm,hs,ht⟩
 ·simp only [Value.slice.injEq] at hv
  obtain ⟨rfl,rfl,rfl⟩ := hv
  have : bs = [] := List.eq_nil_of_length_eq_zero hl
  exact ⟨⟨fun _ => this,fun ad e => by cases e⟩,hl,Nat.le_refl _,fun _ => rfl,fun ad e => (by cases e),by simp [maxLen]⟩
 ·simp only [Value.slice.injEq] at hv
  obtain ⟨rfl,_,rfl⟩ := hv
  refine ⟨⟨fun e => (by cases e),fun ad e i hi => ?_⟩,hl,hle,fun e => (by cases e),fun ad e => (by cases e;exact hg),hm⟩
  cases e
  have hi' : i < n := by omega
  rw [Addr.add_lit,Nat.zero_add,cell_of_row w g i cur 5 (0,0) hh]
  have e2 : (cur.toList.take (n * 1))[i]? = (bs.map byteV)[i]? := by rw [ht]
  rw [List.getElem?_take,if_pos (by omega)] at e2
  rw [← Array.getElem?_toList,e2]
  simp [List.getD,hi]
theorem run_head (P : Program) (w : World) (t : TypeId) (a : Option Addr) (n c k : Nat) (ht : P.underlying t = some (.slice (P.elem t))) (s : Nat) (hs : ∀ w,(sizeOf (P.elem t)).run P w = .ok s w) (hk : k ≤ c) (kh : IntKind) : (Instr.slice t (.slice a n c) none (some (.int kh (k : Int))) none).run P w = .ok (.slice a k c) w := by
 rw [run_slice_h w t a n c ht kh k (by omega) (by omega),hs]
 simp only [Result.andThen,sliced,Int.toNat_natCast,Nat.zero_mul,Nat.sub_zero]
 congr 1
 cases a with
 | none => simp
 | some ad => simp [Addr.add]
theorem run_tail (P : Program) (w : World) (t : TypeId) (a : Option Addr) (n c k : Nat) (ht : P.underlying t = some (.slice (P.elem t))) (s : Nat) (hs : ∀ w,(sizeOf (P.elem t)).run P w = .ok s w) (hk : k ≤ n) (kh : IntKind) : (Instr.slice t (.slice a n c) (some (.int kh (k : Int))) none none).run P w = .ok (.slice (if c = k then a else a.map (·.add (k * s))) (n - k) (c - k)) w := by
 rw [run_slice_l w t a n c ht kh k (by omega) (by omega),hs]
 simp only [Result.andThen,sliced,Int.toNat_natCast]
theorem Bytes.tail {w : World} {a : Option Addr} {bs : List UInt8} (h : Bytes w a bs) (k c : Nat) (hk : k ≤ bs.length) (hc : bs.length ≤ c) : Bytes w (if c = k then a else a.map (·.add (k * 1))) (bs.drop k) := by
 split
 ·have : bs.drop k = [] := List.drop_eq_nil_of_le (by omega)
  rw [this]
  exact ⟨fun _ => rfl,fun ad e i hi => by simp at hi⟩
 ·refine ⟨fun e => ?_,fun ad e i hi => ?_⟩
  ·cases a with
   | none => rw [h.nil rfl];simp
   | some ad => simp at e
  ·cases a with
   | none => simp at e
   | some a0 =>
    simp only [Option.map_some,Option.some.injEq] at e
    subst e
    simp only [List.length_drop] at hi
    have hc' := h.cell a0 rfl (k + i) (by omega)
    have hadd : (a0.add (k * 1)).add i = a0.add (k + i) := by
     unfold Addr.add
     by_cases h1 : k = 0
     ·subst h1;simp
     ·by_cases h2 : i = 0
      ·subst h2;simp [h1]
      ·simp [h1,h2,Nat.add_assoc]
    rw [hadd,hc']
    simp [List.getD,List.getElem?_drop]
theorem Bytes.head {w : World} {a : Option Addr} {bs : List UInt8} (h : Bytes w a bs) (k : Nat) : Bytes w a (bs.take k) := by
 refine ⟨fun e => by rw [h.nil e];simp,fun ad e i hi => ?_⟩
 simp at hi
 rw [h.cell ad e i (by omega)]
 simp [List.getD,show i < k by omega]
theorem away_tail {a : Option Addr} {ks : List Nat} (h : Away a ks) (k c : Nat) : Away (if c = k then a else a.map (·.add (k * 1))) ks := by
 split
 ·exact h
 ·intro ad e
  cases a with
  | none => simp at e
  | some a0 =>
   simp only [Option.map_some,Option.some.injEq] at e
   subst e
   rw [add_block];exact h a0 rfl
theorem run_str (w : World) (a : Option Addr) (n c : Nat) (bs : List UInt8) (h : Bytes w a bs) (hn : bs.length = n) : (convert 22 9 (.slice a n c)).run Tryz.prog w = .ok (.string ⟨bs.toArray⟩) w := by
 cases a with
 | none =>
  have hb := h.nil rfl
  subst hb
  rw [run_convert_bytes_string w 22 9 5 none n c Tryz.underlying22 Tryz.underlying5 Tryz.underlying9]
  rfl
 | some ad =>
  subst hn
  refine run_convert_bytes_back w 22 9 5 ad c bs Tryz.underlying22 Tryz.underlying5 Tryz.underlying9 ?_
  intro j hj
  rw [h.cell ad rfl j hj]
  simp [List.getD,hj]
theorem Tryz.size5 (w : World) : (sizeOf (Tryz.prog.elem 22)).run Tryz.prog w = .ok 1 w := by
 have h : Tryz.prog.elem 22 = 5 := by kernel_rfl
 rw [h]
 obtain ⟨i,hi,_,hs,_⟩ := info_parts Tryz.info5
 simp [sizeOf,typeInfo,hi,hs]
theorem Tryz.elem22 : Tryz.prog.underlying 22 = some (.slice (Tryz.prog.elem 22)) := by kernel_rfl
theorem bytes_news {w : World} {ad : Addr} {bs : List UInt8} (h : Bytes w (some ad) bs) : ∀ j u,(bs.map byteV)[j]? = some u → w.cell? (ad.add j) = some u := by
 intro j u hu
 have hj : j < bs.length := by
  have := (List.getElem?_eq_some_iff.1 hu).1
  simpa using this
 rw [h.cell ad rfl j hj]
 rw [List.getElem?_map,List.getElem?_eq_getElem hj] at hu
 simp only [Option.map_some,Option.some.injEq] at hu
 rw [← hu]
 simp [List.getD,hj]
theorem byteV_one (bs : List UInt8) : ∀ u ∈ bs.map byteV,u.oneCell' = true := by
 intro u hu
 obtain ⟨_,_,rfl⟩ := List.mem_map.1 hu
 rfl
theorem run_app (w : World) (base : Nat) (ty : TypeId) (v : Value) (n : Nat) (xs : List UInt8) (hown : w.ownsRow base 5 1 v n (xs.map byteV)) (a : Option Addr) (m c : Nat) (bs : List UInt8) (hb : Bytes w a bs) (hm : bs.length = m) (hn : a = none → c = 0) (hl : n + m ≤ 140737488355328) (hbase : base ≤ w.heap.size) :
  ∃ v' w',(Builtin.append_ #[22,22] ty #[v,.slice a m c]).run Tryz.prog w = .ok v' w' ∧ w'.ownsRow base 5 1 v' (n + m) ((xs ++ bs).map byteV) ∧ w.grownBy w' v.ownBlock := by
 obtain ⟨i0,hi,hz0,hz1,hz2⟩ := info_parts Tryz.info5
 cases a with
 | none =>
  obtain rfl := hn rfl
  obtain rfl := hb.nil rfl
  simp only [List.length_nil] at hm
  subst hm
  refine ⟨v,w,run_append_owned_none (P := Tryz.prog) w base 22 ty 5 i0 1 Tryz.underlying22 hi v n _ hown,?_,World.grownBy.refl _ _⟩
  simpa using hown
 | some ad =>
  obtain ⟨v',w',hr,h1,h2,_⟩ := run_append_own (P := Tryz.prog) w base 22 ty 5 i0 (.int .u8 0) 1 1 Tryz.underlying22 hi hz0 hz1 hz2 rfl (by decide) v n _ hown ad m c (bs.map byteV) (by simp [hm]) (bytes_news hb) (byteV_one bs) (by unfold maxLen;omega) (by omega) hbase
  exact ⟨v',w',hr,by rw [List.map_append];exact h1,h2⟩
theorem wpList_app (w : World) {ops : Array Oper} {rest : List Oper} {o : Oper} {a : Act} {Q : Exit → Act → World → Prop} (hg : o.guard = none) (s x : Operand) (hop : o.op = Op.call { callee := Callee.builtin Builtin.append,args := #[s,x],argTypes := #[22,22] }) (base : Nat) (v : Value) (n : Nat) (xs : List UInt8) (hs : a.eval s = v) (hown : w.ownsRow base 5 1 v n (xs.map byteV)) (ao : Option Addr) (m c : Nat) (bs : List UInt8) (hx : a.eval x = .slice ao m c) (hb : Bytes w ao bs) (hm : bs.length = m) (hn : ao = none → c = 0) (zs : List UInt8) (hz : xs ++ bs = zs) (N : Nat) (hN : n + m = N) (hl : N ≤ 140737488355328) (hbase : base ≤ w.heap.size) (hK : ∀ v' w',w'.ownsRow base 5 1 v' N (zs.map byteV) → w.grownBy w' v.ownBlock → wpList Tryz.prog ops Q rest (a.put o.dst v') w') :
  wpList Tryz.prog ops Q (o :: rest) a w := by
 subst hz
 subst hN
 refine wpList_plain hg fun K hK' => ?_
 obtain ⟨v',w',hrun,r1,r2⟩ := run_app w base o.type v n xs hown ao m c bs hb hm hn hl hbase
 unfold Oper.wp
 simp [execOp,hop,resolve,invoke,builtin,hs,hx,hrun,Result.andThen]
 exact hK' _ _ (hK v' w' r1 r2)
theorem owns_some {w : World} {base : Nat} {v : Value} {n : Nat} {xs : List Value} (h : w.ownsRow base 5 1 v n xs) (hn : 0 < n) : ∃ g c,v = .slice (some ⟨g,0,none⟩) n c ∧ base ≤ g ∧ g < w.heap.size ∧ n ≤ c ∧ c ≤ maxLen := by
 rcases h.2 with ⟨_,h0⟩ | ⟨g,c,cur,hv,hg,hh,hle,hm,_⟩
 ·omega
 ·exact ⟨g,c,hv,hg,(Array.getElem?_eq_some_iff.1 hh).1,hle,hm⟩
theorem wpList_appS (w : World) {ops : Array Oper} {rest : List Oper} {o : Oper} {a : Act} {Q : Exit → Act → World → Prop} (hg : o.guard = none) (s x : Operand) (hop : o.op = Op.call { callee := Callee.builtin Builtin.append,args := #[s,x],argTypes := #[22,22] }) (base : Nat) (v : Value) (n : Nat) (xs : List UInt8) (hs : a.eval s = v) (hown : w.ownsRow base 5 1 v n (xs.map byteV)) (ao : Option Addr) (m c : Nat) (bs : List UInt8) (hx : a.eval x = .slice ao m c) (hb : Bytes w ao bs) (hm : bs.length = m) (hn : ao = none → c = 0) (zs : List UInt8) (hz : xs ++ bs = zs) (N : Nat) (hN : n + m = N) (hl : N ≤ 140737488355328) (hbase : base ≤ w.heap.size) (hpos : 0 < N) (hK : ∀ g cp w',w'.ownsRow base 5 1 (.slice (some ⟨g,0,none⟩) N cp) N (zs.map byteV) → w.grownBy w' v.ownBlock → base ≤ g → g < w'.heap.size → N ≤ cp → cp ≤ 9223372036854775807 → wpList Tryz.prog ops Q rest (a.put o.dst (.slice (some ⟨g,0,none⟩) N cp)) w') :
  wpList Tryz.prog ops Q (o :: rest) a w := by
 refine wpList_app w hg s x hop base v n xs hs hown ao m c bs hx hb hm hn zs hz N hN hl hbase ?_
 intro v' w' h1 h2
 obtain ⟨g,cp,rfl,e1,e2,e3,e4⟩ := owns_some h1 hpos
 exact hK g cp w' h1 h2 e1 e2 e3 (by simpa [maxLen] using e4)
theorem bytes1 (w : World) (x : UInt8) (a : Int) (hx : (x.toNat : Int) = a) : Bytes (w.alloc (.cells #[.int .u8 a] 5)) (some ⟨w.heap.size,0,none⟩) [x] := by
 subst hx
 exact Bytes.of_block (heap_alloc_new w _) (by
  intro i hi
  match i,hi with
  | 0,_ => rfl)
theorem Bytes.drew {w : World} {a : Option Addr} {bs : List UInt8} (h : Bytes w a bs) : Bytes w.drew a bs := ⟨h.nil,h.cell⟩
theorem wpList_push (w : World) {ops : Array Oper} {rest : List Oper} {o : Oper} {a : Act} {Q : Exit → Act → World → Prop} (hg : o.guard = none) (s x : Operand) (t e : TypeId) (hop : o.op = Op.call { callee := Callee.builtin Builtin.append,args := #[s,x],argTypes := #[t,t] }) (i : TypeInfo) (z : Value) (bytes : Nat) (ht : Tryz.prog.underlying t = some (.slice e)) (hi : Tryz.prog.info? e = some i) (hz : i.zero = some z) (hsz : i.size = 1) (hby : i.bytes = bytes) (hzs : z.cells.size = 1) (base : Nat) (v : Value) (n : Nat) (xs : List Value) (hs : a.eval s = v) (hown : w.ownsRow base e 1 v n xs) (g : Nat) (u : Value) (hx : a.eval x = .slice (some ⟨g,0,none⟩) 1 1) (hc : w.cell? ⟨g,0,none⟩ = some u) (h1 : u.oneCell' = true) (hn : n + 1 ≤ maxLen) (hl : (n + 1) * bytes ≤ 140737488355328) (hbase : base ≤ w.heap.size) (hK : ∀ v' w',w'.ownsRow base e 1 v' (n + 1) (xs ++ [u]) → w.grownBy w' v.ownBlock → (∀ g',v'.ownBlock = some g' → v.ownBlock = some g' ∨ w.heap.size ≤ g') → wpList Tryz.prog ops Q rest (a.put o.dst v') w') :
  wpList Tryz.prog ops Q (o :: rest) a w := by
 refine wpList_plain hg fun K hK' => ?_
 obtain ⟨v',w',hrun,r1,r2,_,r4⟩ := run_append_own_at (P := Tryz.prog) w base t o.type e i z 1 bytes ht hi hz hsz hby hzs (by decide) v n xs hown ⟨g,0,none⟩ 1 1 [u] rfl (by
  intro j u' hj
  match j,hj with
  | 0,hj =>
   simp at hj
   subst hj
   simpa [Addr.add] using hc) (by intro u' hu';simp at hu';subst hu';exact h1) hn hl hbase
 unfold Oper.wp
 simp [execOp,hop,resolve,invoke,builtin,hs,hx,hrun,Result.andThen]
 refine hK' _ _ (hK v' w' r1 r2 (fun g' e' => ?_))
 rcases r4 with r4 | r4
 ·left;rw [← r4];exact e'
 ·right;rw [r4] at e';cases e';exact Nat.le_refl _
theorem own_slice {w : World} {base e size : Nat} {v : Value} {n : Nat} {xs : List Value} (h : w.ownsRow base e size v n xs) : ∃ a c,v = .slice a n c := by
 rcases h.2 with ⟨hv,hn⟩ | ⟨g,cap,cur,hv,_⟩
 ·exact ⟨none,0,by rw [hv,hn]⟩
 ·exact ⟨_,_,hv⟩
theorem only_grown {w w' : World} {v : Value} (hg : w.grownBy w' v.ownBlock) : Only v.ownBlock.toList w w' :=
 ⟨hg.os,hg.tape,hg.output,hg.size,fun k hk hn => hg.block k hk (fun e => hn (by rw [← e];simp))⟩
theorem row_at {w : World} {base e n c : Nat} {a : Option Addr} {xs : List Value} (h : w.ownsRow base e 1 (.slice a n c) n xs) (j : Nat) (u : Value) (hu : xs[j]? = some u) :
  ∃ g,a = some ⟨g,0,none⟩ ∧ g < w.heap.size ∧ n ≤ c ∧ w.cell? ⟨g,j,none⟩ = some u := by
 have hj : j < n := by
  have h1 := (List.getElem?_eq_some_iff.1 hu).1
  have h2 := h.1
  omega
 rcases h.2 with ⟨_,h0⟩ | ⟨g,cap,cur,hv,hg,hh,hle,hm,_⟩
 ·omega
 ·simp only [Value.slice.injEq,true_and] at hv
  obtain ⟨rfl,rfl⟩ := hv
  exact ⟨g,rfl,(Array.getElem?_eq_some_iff.1 hh).1,hle,(h.cellAt j (by omega)).trans hu⟩
theorem wI {P : Program} {ops : Array Oper} {Q : Exit → Act → World → Prop} {md : Region.Mode} {S : World → Prop} (i : Nat) {oi : Oper} {v : Value} {fuel : Nat} {listed : Array Bool} {a : Act} {w : World} (h : wpAnyH P md ops Q S fuel (listed.setIfInBounds i true) (a.put oi.dst v) w) (hi : ops[i]? = some oi := by rfl) (hs : Region.noSelect ops = true := by kernel_rfl) (hf : Region.free md ops listed i = true := by kernel_rfl) (hr : (Region.ready md ops listed).contains i = true := by kernel_rfl) (hQ : ∀ c a w,Q (.panic c) (a.put oi.dst v) w → Q (.panic c) a w := by exact fun _ _ _ h => h) (hw : Region.wanted oi (yielded ops a.tmps) = true := by kernel_rfl) (hy : ∀ w,S w → (execOp a.eval oi).run P w = .ok (.value v) w := by (intro w hSw;(try dsimp only at hSw);go_simp);try with_reducible rfl) (hS : S w := by assumption) : wpAnyH P md ops Q S (fuel + 1) listed a w :=
 wpAnyH_take hi hs hf hr hQ (.inl ⟨hw,hy⟩) hS h
theorem wJ {P : Program} {ops : Array Oper} {Q : Exit → Act → World → Prop} {md : Region.Mode} {S : World → Prop} (i : Nat) {oi : Oper} {v : Value} {fuel : Nat} {listed : Array Bool} {a : Act} {w : World} (h : wpAnyH P md ops Q S fuel (listed.setIfInBounds i true) (a.put oi.dst v) w) (hi : ops[i]? = some oi := by rfl) (hs : Region.noSelect ops = true := by kernel_rfl) (hf : Region.free md ops listed i = true := by kernel_rfl) (hr : (Region.ready md ops listed).contains i = true := by kernel_rfl) (hQ : ∀ c a w,Q (.panic c) (a.put oi.dst v) w → Q (.panic c) a w := by exact fun _ _ _ h => h) (hw : Region.wanted oi (yielded ops a.tmps) = true := by rfl) (hy : ∀ w,S w → (execOp a.eval oi).run P w = .ok (.value v) w := by (intro w hSw;(try dsimp only at hSw);go_simp);try with_reducible rfl) (hS : S w := by assumption) : wpAnyH P md ops Q S (fuel + 1) listed a w :=
 wpAnyH_take hi hs hf hr hQ (.inl ⟨hw,hy⟩) hS h
theorem wK {P : Program} {ops : Array Oper} {Q : Exit → Act → World → Prop} {md : Region.Mode} {S : World → Prop} (i : Nat) {oi : Oper} {fuel : Nat} {listed : Array Bool} {a : Act} {w : World} (h : wpAnyH P md ops Q S fuel (listed.setIfInBounds i true) (a.put oi.dst undef) w) (hi : ops[i]? = some oi := by rfl) (hs : Region.noSelect ops = true := by kernel_rfl) (hf : Region.free md ops listed i = true := by kernel_rfl) (hr : (Region.ready md ops listed).contains i = true := by kernel_rfl) (hQ : ∀ c a w,Q (.panic c) (a.put oi.dst undef) w → Q (.panic c) a w := by exact fun _ _ _ h => h) (hw : Region.wanted oi (yielded ops a.tmps) = false := by kernel_rfl) (hS : S w := by assumption) : wpAnyH P md ops Q S (fuel + 1) listed a w :=
 wpAnyH_take hi hs hf hr hQ (.inr ⟨hw,rfl⟩) hS h
theorem gs {α : Type} : (∀ (l : List α) (i : Nat) (h : i < l.toArray.size),l.toArray[i] = l[i]'(by simpa using h)) ∧ (∀ (x : α) (l : List α) (h : 0 < (x :: l).length),(x :: l)[0] = x) ∧ (∀ (x : α) (l : List α) (i : Nat) (h : i + 1 < (x :: l).length),(x :: l)[i + 1] = l[i]'(by simpa using h)) ∧ (∀ (l : List α) (i : Nat) (x : α),l.toArray.setIfInBounds i x = (l.set i x).toArray) ∧ (∀ (a x : α) (l : List α),(x :: l).set 0 a = a :: l) ∧ (∀ (a x : α) (l : List α) (i : Nat),(x :: l).set (i + 1) a = x :: l.set i a) :=
 ⟨fun _ _ _ => rfl,fun _ _ _ => rfl,fun _ _ _ _ => rfl,fun _ _ _ => by simp,fun _ _ _ => rfl,fun _ _ _ _ => rfl⟩
theorem LH {p : Prop} (h : p) : Go.RowKit.Hid p := Lib.hid h
theorem FT {f : FuncId} {x y : Func} (h : Tryz.prog.funcs[f]? = some x) (e : x = y := by kernel_rfl) : Tryz.prog.funcs[f]? = some y := h.trans (congrArg some e)
theorem AI {a b : Prop} (x : a) (y : b) : a ∧ b := ⟨x,y⟩
theorem ofInt_nat (n a : Nat) : BitVec.ofInt n (a : Int) = BitVec.ofNat n a := BitVec.ofInt_natCast n a
theorem u16_and (a b : Nat) (ha : a < 65536) (hb : b < 65536) : bits .and .u16 (a : Int) (b : Int) = ((a &&& b : Nat) : Int) := by
 have h : a &&& b < 65536 := Nat.lt_of_le_of_lt Nat.and_le_left ha
 unfold bits
 have e1 : IntKind.u16.bits = 16 := rfl
 simp only [ofInt_nat,BitVec.toNat_and,BitVec.toNat_ofNat,e1]
 rw [Nat.mod_eq_of_lt (by omega : a < 2 ^ 16),Nat.mod_eq_of_lt (by omega : b < 2 ^ 16)]
 rw [IntKind.wrap_u16];omega
theorem u16_xor (a b : Nat) (ha : a < 65536) (hb : b < 65536) : bits .xor .u16 (a : Int) (b : Int) = ((a ^^^ b : Nat) : Int) := by
 have h : a ^^^ b < 2 ^ 16 := Nat.xor_lt_two_pow (by omega) (by omega)
 unfold bits
 have e1 : IntKind.u16.bits = 16 := rfl
 simp only [ofInt_nat,BitVec.toNat_xor,BitVec.toNat_ofNat,e1]
 rw [Nat.mod_eq_of_lt (by omega : a < 2 ^ 16),Nat.mod_eq_of_lt (by omega : b < 2 ^ 16)]
 rw [IntKind.wrap_u16];omega
theorem wrap_u16_nat (a : Nat) : IntKind.u16.wrap (a : Int) = ((a % 65536 : Nat) : Int) := by rw [IntKind.wrap_u16];omega
theorem step1_lt (y : Nat) : M.step1 y < 65536 := by
 unfold M.step1
 split
 ·omega
 ·exact Nat.xor_lt_two_pow (n := 16) (by omega) (by omega)
theorem stepN_lt (k y : Nat) (hy : y < 65536) : M.stepN k y < 65536 := by
 induction k generalizing y with
 | zero => exact hy
 | succ k ih => exact ih _ (step1_lt y)
theorem step_any (r : Nat) (hr : r < 65536) (w : World) : Calls Tryz.prog 238 #[.int .u16 r] w fun e w' => e = .returned (.int .u16 (M.step r)) ∧ w = w' := by
 go_enter Tryz.func238,Tryz.ntmps238
 go_wp2
 go_loop [0,4] (fun x i => ∃ (k y : Nat),k ≤ 8 ∧ i = .int .i64 k ∧ x = .int .u16 y ∧ y < 65536 ∧ M.stepN (8 - k) y = M.step r) (fun _ i => 8 - (intOf i).toNat)
 case atStart => exact ⟨0,r,by omega,rfl,rfl,hr,rfl⟩
 case round =>
  obtain ⟨k,y,hk,rfl,rfl,hy,hrel⟩ := hrel
  by_cases hlt : k < 8
  ·have hn : M.stepN (8 - k) y = M.stepN (8 - (k + 1)) (M.step1 y) := by
    rw [show 8 - k = (8 - (k + 1)) + 1 by omega];rfl
   have ha : bits .and .u16 (y : Int) 32768 = ((y &&& 32768 : Nat) : Int) := u16_and y 32768 hy (by omega)
   have hx : bits .xor .u16 (((y * 2) % 65536 : Nat) : Int) 4129 = ((((y * 2) % 65536) ^^^ 4129 : Nat) : Int) := u16_xor _ 4129 (by omega) (by omega)
   have hw : IntKind.u16.wrap ((y : Int) * 2) = (((y * 2) % 65536 : Nat) : Int) := by rw [← wrap_u16_nat];push_cast;rfl
   rw [hn] at hrel
   have HR := LH hrel
   have h1 := step1_lt y
   clear hrel hn
   by_cases ht : y &&& 32768 = 0
   ·have hs : M.step1 y = (y * 2) % 65536 := by unfold M.step1;rw [if_pos ht]
    have hb : (bits .and .u16 (y : Int) 32768 != 0) = false := by rw [ha,ht];rfl
    have HS := LH (AI hs hw)
    clear hs ha hx ht hw
    go_wp2
    refine ⟨⟨k + 1,_,by omega,by go_num,?_,h1,HR.out⟩,by simp [intOf];omega⟩
    rw [HS.out.1,HS.out.2]
   ·have hs : M.step1 y = ((y * 2) % 65536) ^^^ 4129 := by unfold M.step1;rw [if_neg ht]
    have hb : (bits .and .u16 (y : Int) 32768 != 0) = true := by rw [ha];simp;omega
    have HS := LH (AI hs (AI hw hx))
    clear hs ha hx ht hw
    go_wp2
    refine ⟨⟨k + 1,_,by omega,by go_num,?_,h1,HR.out⟩,by simp [intOf];omega⟩
    rw [HS.out.1,HS.out.2.1,HS.out.2.2]
  ·obtain rfl : k = 8 := by omega
   have HR := LH hrel
   clear hrel
   go_wp2
   go_ret
   exact ⟨by rw [← HR.out];rfl,rfl⟩
theorem Bytes.at {w : World} {a : Option Addr} {bs : List UInt8} (h : Bytes w a bs) (j : Nat) (hj : j < bs.length) : ∃ b o,a = some ⟨b,o,none⟩ ∧ w.cell? ⟨b,o + j,none⟩ = some (byteV (bs.getD j 0)) := by
 cases a with
 | none => rw [h.nil rfl] at hj;simp at hj
 | some ad =>
  have h1 := h.cell ad rfl 0 (by omega)
  have h0 := h.cell ad rfl j hj
  have hsp : ad.spot = none := by simpa [Addr.add] using spot_of_cell h1
  obtain ⟨b,o,sp⟩ := ad
  simp only at hsp
  subst hsp
  rw [Addr.add_lit] at h0
  exact ⟨b,o,rfl,h0⟩
theorem take_snoc (bs : List UInt8) (j : Nat) (h : j < bs.length) : bs.take (j + 1) = bs.take j ++ [bs.getD j 0] := by
 rw [List.take_succ_eq_append_getElem h];simp [List.getD,h]
theorem check_any (a : Option Addr) (bs : List UInt8) (n c : Nat) (w : World) (hb : Bytes w a bs) (hn : bs.length = n) (hN : n ≤ 9223372036854775807) :
  Calls Tryz.prog 236 #[.slice a n c] w fun e w' => e = .returned (byteV (M.checkS bs)) ∧ w = w' := by
 have HB := LH hb
 have HN := LH hn
 clear hb hn
 go_enter Tryz.func236,Tryz.ntmps236
 go_wp2
 go_loop [3,8] (fun x i => ∃ (k : Nat) (y : UInt8),k ≤ n ∧ i = .int .i64 k ∧ x = byteV y ∧ y = M.checkS (bs.take k)) (fun _ i => n - (intOf i).toNat)
 case atStart => exact ⟨0,0,Nat.zero_le _,rfl,rfl,rfl⟩
 case round =>
  obtain ⟨k,y,hk,rfl,rfl,hy⟩ := hrel
  by_cases hlt : k < n
  ·obtain ⟨b,o,rfl,hc⟩ := HB.out.at k (by rw [HN.out];exact hlt)
   obtain ⟨x,hx⟩ : ∃ x,x = bs.getD k 0 := ⟨_,rfl⟩
   rw [← hx] at hc
   have hnext : y + x = M.checkS (bs.take (k + 1)) := by
    rw [take_snoc bs k (by rw [HN.out];exact hlt),hy,hx]
    unfold M.checkS
    rw [List.foldl_append];rfl
   have hw : ((y.toNat : Int) + (x.toNat : Int)) % 256 = ((y + x).toNat : Int) := by
    rw [UInt8.toNat_add];omega
   have HX := LH (AI hnext hw)
   clear hy hx hnext hw
   go_wp2
   refine ⟨⟨k + 1,y + x,by omega,by go_num,?_,HX.out.1⟩,by simp [intOf];omega⟩
   rw [HX.out.2]
  ·obtain rfl : k = n := by omega
   rw [List.take_of_length_le (by rw [HN.out];exact Nat.le_refl _)] at hy
   have HY := LH hy
   clear hy
   go_wp2
   go_ret
   exact ⟨by rw [HY.out];rfl,rfl⟩
theorem crc_lt (bs : List UInt8) : M.crc bs < 65536 := by
 rcases List.eq_nil_or_concat bs with rfl | ⟨l,x,rfl⟩
 ·decide
 ·unfold M.crc
  rw [List.concat_eq_append,List.foldl_append]
  exact stepN_lt 7 _ (step1_lt _)
theorem crc_any (a : Option Addr) (bs : List UInt8) (n c : Nat) (w : World) (hb : Bytes w a bs) (hn : bs.length = n) (hN : n ≤ 9223372036854775807) :
  Calls Tryz.prog 237 #[.slice a n c] w fun e w' => e = .returned (.int .u16 (M.crc bs)) ∧ w = w' := by
 have HB := LH hb
 have HN := LH hn
 clear hb hn
 go_enter Tryz.func237,Tryz.ntmps237
 go_wp2
 go_loopw [3,8] (fun x i w' => ∃ (k y : Nat),k ≤ n ∧ i = .int .i64 k ∧ x = .int .u16 y ∧ y = M.crc (bs.take k) ∧ w = w') (fun _ i _ => n - (intOf i).toNat)
 case atStart => exact ⟨0,0,Nat.zero_le _,rfl,rfl,rfl,rfl⟩
 case round =>
  obtain ⟨k,y,hk,rfl,rfl,hy,rfl⟩ := hrel
  by_cases hlt : k < n
  ·obtain ⟨b,o,rfl,hc⟩ := HB.out.at k (by rw [HN.out];exact hlt)
   obtain ⟨x,hx⟩ : ∃ x,x = bs.getD k 0 := ⟨_,rfl⟩
   rw [← hx] at hc
   have hy2 : y < 65536 := by rw [hy];exact crc_lt _
   have hnext : M.step (y ^^^ (x.toNat * 256)) = M.crc (bs.take (k + 1)) := by
    rw [take_snoc bs k (by rw [HN.out];exact hlt),hy,hx]
    unfold M.crc
    rw [List.foldl_append];rfl
   have hx8 := x.toNat_lt
   have hxor : bits .xor .u16 (y : Int) ((x.toNat : Int) * 256) = ((y ^^^ (x.toNat * 256) : Nat) : Int) := by
    rw [show ((x.toNat : Int) * 256) = ((x.toNat * 256 : Nat) : Int) from (Int.natCast_mul _ _).symm];exact u16_xor y _ hy2 (by omega)
   have hlt2 : y ^^^ (x.toNat * 256) < 65536 := Nat.xor_lt_two_pow (n := 16) (by omega) (by omega)
   have HX := LH (AI hnext hxor)
   clear hy hx hnext hxor
   go_wp2_with fail
   rw [HX.out.2]
   refine (step_any _ hlt2 _).mono ?_
   rintro e w' ⟨rfl,rfl⟩
   go_wp2_with fail
   go_roundw
   case rel => exact ⟨k + 1,_,by omega,by go_num,rfl,HX.out.1,by first | trivial | rfl⟩
   case measure => simp [intOf];omega
  ·obtain rfl : k = n := by omega
   rw [List.take_of_length_le (by rw [HN.out];exact Nat.le_refl _)] at hy
   have HY := LH hy
   clear hy
   go_wp2
   go_ret
   exact ⟨by rw [HY.out];rfl,rfl⟩
theorem pr_lt (bs : List UInt8) : (M.pr bs).1 < 65521 ∧ (M.pr bs).2 < 65521 := by
 rcases List.eq_nil_or_concat bs with rfl | ⟨l,x,rfl⟩
 ·decide
 ·unfold M.pr
  rw [List.concat_eq_append,List.foldl_append]
  simp only [List.foldl_cons,List.foldl_nil,M.pr1]
  omega
theorem write_any (P : Nat) (a : Option Addr) (bs : List UInt8) (n c : Nat) (w : World) (hp : w.heap[P]? = some (.cells #[.int .u32 0,.int .u32 0] 106 (0,0))) (hb : Bytes w a bs) (ha : bs = [] ∨ Away a [P]) (hn : bs.length = n) (hN : n ≤ 9223372036854775807) :
  Calls Tryz.prog 36 #[.pointer (some ⟨P,0,none⟩),.slice a n c] w fun e w' => e = .returned (.tuple #[]) ∧ w'.heap[P]? = some (.cells #[.int .u32 (M.pr bs).1,.int .u32 (M.pr bs).2] 106 (0,0)) ∧ Only [P] w w' := by
 have HB := LH (AI hb ha)
 have HN := LH hn
 have HP := LH hp
 clear hb hn ha hp
 go_enter Tryz.func36,Tryz.ntmps36
 go_wp2
 go_loopw [8] (fun i w' => ∃ (k : Nat),k ≤ n ∧ i = .int .i64 k ∧ w'.heap[P]? = some (.cells #[.int .u32 (M.pr (bs.take k)).1,.int .u32 (M.pr (bs.take k)).2] 106 (0,0)) ∧ Only [P] w w') (fun i _ => n - (intOf i).toNat)
 case atStart => exact ⟨0,Nat.zero_le _,rfl,HP.out,Only.refl _ _⟩
 case round =>
  obtain ⟨k,hk,rfl,hp,ho⟩ := hrel
  by_cases hlt : k < n
  ·obtain ⟨b,o,hba,hc⟩ := (HB.out.1.of_only ho HB.out.2).at k (by rw [HN.out];exact hlt)
   subst hba
   obtain ⟨x,hx⟩ : ∃ x,x = bs.getD k 0 := ⟨_,rfl⟩
   rw [← hx] at hc
   have hx8 := x.toNat_lt
   have hl := pr_lt (bs.take k)
   have hnext : M.pr (bs.take (k + 1)) = M.pr1 (M.pr (bs.take k)) x := by
    rw [take_snoc bs k (by rw [HN.out];exact hlt),hx]
    unfold M.pr
    rw [List.foldl_append];rfl
   obtain ⟨p1,hp1⟩ : ∃ p,p = (M.pr (bs.take k)).1 := ⟨_,rfl⟩
   obtain ⟨p2,hp2⟩ : ∃ p,p = (M.pr (bs.take k)).2 := ⟨_,rfl⟩
   have hn1 : (M.pr (bs.take (k + 1))).1 = (p1 + x.toNat) % 65521 := by rw [hnext,hp1];rfl
   have hn2 : (M.pr (bs.take (k + 1))).2 = (p2 + (p1 + x.toNat) % 65521 + 1) % 65521 := by rw [hnext,hp1,hp2];rfl
   rw [← hp1,← hp2] at hp hl
   have c1 : wr.cell? ⟨P,0,none⟩ = some (.int .u32 p1) := cell_at hp rfl
   have c2 : wr.cell? ⟨P,1,none⟩ = some (.int .u32 p2) := cell_at hp rfl
   have f0 : ∀ i,wr.frozen? ⟨P,i,none⟩ = false := fun i => free_at hp
   have HX := LH (AI hn1 (AI hn2 (AI ho hp)))
   obtain ⟨hl1,hl2⟩ := hl
   clear hx hnext hn1 hn2 ho hp hp1 hp2
   go_wp2_with fail
   have q1 : ((p1 : Int) + (x.toNat : Int)) % 65521 = (((p1 + x.toNat) % 65521 : Nat) : Int) := by omega
   rw [q1]
   obtain ⟨r1,hr1⟩ : ∃ r,r = (p1 + x.toNat) % 65521 := ⟨_,rfl⟩
   rw [← hr1]
   have hr1l : r1 < 65521 := by omega
   obtain ⟨w2,hw2⟩ : ∃ w2,w2 = wr.setCell ⟨P,0,none⟩ (.int .u32 r1) := ⟨_,rfl⟩
   rw [← hw2]
   have hp2 : w2.heap[P]? = some (.cells #[.int .u32 r1,.int .u32 p2] 106 (0,0)) := by rw [hw2,heap_set_same HX.out.2.2.2];rfl
   have d1 : w2.cell? ⟨P,0,none⟩ = some (.int .u32 r1) := cell_at hp2 rfl
   have d2 : w2.cell? ⟨P,1,none⟩ = some (.int .u32 p2) := cell_at hp2 rfl
   have f2 : ∀ i,w2.frozen? ⟨P,i,none⟩ = false := fun i => free_at hp2
   have ho2 : Only [P] w w2 := by rw [hw2];exact HX.out.2.2.1.setCell (by simp) _
   have HY := LH (AI hr1 (AI hp2 ho2))
   clear q1 hr1 hw2 hp2 ho2 c1 c2 f0 hc hx8 hl1
   go_still_tail 14,(by kernel_rfl)
   change wpList _ _ _ _ _ w2.drew
   go_wp2
   go_roundw
   case rel =>
    refine ⟨k + 1,by omega,by go_num,?_,(HY.out.2.2.setCell (by simp) _).drew⟩
    show (w2.setCell _ _).heap[P]? = _
    rw [heap_set_same HY.out.2.1,HX.out.1,HX.out.2.1,← HY.out.1]
    have e : ((p2 : Int) + (r1 : Int) + 1) % 65521 = (((p2 + r1 + 1) % 65521 : Nat) : Int) := by omega
    rw [e];rfl
   case measure => simp [intOf];omega
  ·obtain rfl : k = n := by omega
   rw [List.take_of_length_le (by rw [HN.out];exact Nat.le_refl _)] at hp
   have HY := LH (AI hp ho)
   clear hp ho
   go_wp2
   go_end0
   exact ⟨rfl,HY.out⟩
theorem u32_or (a b : Nat) (ha : a < 65536) (hb : b < 65536) : bits .or .u32 ((a : Int) * 65536) (b : Int) = ((a * 65536 + b : Nat) : Int) := by
 have h : a * 65536 ||| b = a * 65536 + b := by
  have := Nat.two_pow_add_eq_or_of_lt (i := 16) (show b < 2 ^ 16 by omega) a
  rw [show (2 : Nat) ^ 16 = 65536 from rfl] at this
  rw [Nat.mul_comm,← this]
 have e0 : ((a : Int) * 65536) = ((a * 65536 : Nat) : Int) := (Int.natCast_mul _ _).symm
 unfold bits
 have e1 : IntKind.u32.bits = 32 := rfl
 simp only [e0,ofInt_nat,BitVec.toNat_or,BitVec.toNat_ofNat,e1]
 rw [Nat.mod_eq_of_lt (by omega : a * 65536 < 2 ^ 32),Nat.mod_eq_of_lt (by omega : b < 2 ^ 32),h]
 rw [IntKind.wrap_u32];omega
theorem sum_any (P p1 p2 : Nat) (w : World) (hp : w.heap[P]? = some (.cells #[.int .u32 p1,.int .u32 p2] 106 (0,0))) (h1 : p1 < 65521) (h2 : p2 < 65521) :
  Calls Tryz.prog 37 #[.pointer (some ⟨P,0,none⟩)] w fun e w' => e = .returned (.int .u32 (p2 * 65536 + p1 : Nat)) ∧ Only [] w w' := by
 have c1 : w.cell? ⟨P,0,none⟩ = some (.int .u32 p1) := cell_at hp rfl
 have c2 : w.cell? ⟨P,1,none⟩ = some (.int .u32 p2) := cell_at hp rfl
 have hor := u32_or p2 p1 (by omega) (by omega)
 clear hp
 have HO := LH hor
 clear hor
 go_enter Tryz.func37,Tryz.ntmps37
 go_wp2_with fail
 go_quiet (fail)
 go_wp2_with fail
 go_ret
 refine ⟨?_,(Only.refl [] w).drewN _⟩
 rw [← HO.out]
 rfl
theorem print_any (a : Option Addr) (bs : List UInt8) (n c : Nat) (w : World) (hb : Bytes w a bs) (ha : bs = [] ∨ ∀ ad,a = some ad → ad.block < w.heap.size) (hn : bs.length = n) (hN : n ≤ 9223372036854775807) :
  Calls Tryz.prog 18 #[.slice a n c] w fun e w' => e = .returned (.int .u32 (M.printOf bs)) ∧ Only [] w w' := by
 have HB := LH (AI hb ha)
 have HN := LH hn
 clear hb hn ha
 go_enter Tryz.func18,Tryz.ntmps18
 go_wp2_with fail
 refine (write_any w.heap.size a bs n c _ (heap_alloc_new w _) (HB.out.1.of_only ((Only.refl [] w).alloc _) (.inr (by intro ad e;simp))) ?_ HN.out hN).mono ?_
 ·rcases HB.out.2 with h | h
  ·exact .inl h
  ·exact .inr (by intro ad e;have := h ad e;simp;omega)
 rintro e w1 ⟨rfl,hp,ho⟩
 have HP := LH (AI hp ho)
 clear hp ho
 have hl := pr_lt bs
 go_wp2_with fail
 refine (sum_any _ _ _ _ HP.out.1 hl.1 hl.2).mono ?_
 rintro e w2 ⟨rfl,ho2⟩
 have HQ := LH ho2
 clear ho2
 go_wp2
 go_ret
 refine ⟨rfl,?_⟩
 have h1 := HP.out.2
 have h2 := HQ.out
 exact ⟨h2.os.trans h1.os,h2.tape.trans h1.tape,h2.output.trans h1.output,by have := h1.size;have := h2.size;simp at *;omega,fun k hk _ => by
  rw [h2.block k (by have := h1.size;simp at this;omega) (by simp),h1.block k (by simp;omega) (by simp;omega)]
  exact Below.heap_alloc _ _ _ hk⟩
end Go.Proofs.YtplaamfoeaaaiaaGreatDoor
