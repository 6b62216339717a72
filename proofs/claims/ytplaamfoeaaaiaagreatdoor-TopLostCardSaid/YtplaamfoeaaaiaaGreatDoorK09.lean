/- A part of the proofs of the laws of lifelinetop (TopNever, TopLost, TopRoom): contracts of functions that these laws reach. No condition of its own. -/
import Derived.Test.YtplaamfoeaaaiaaGreatDoorK02
import Derived.Test.YtplaamfoeaaaiaaGreatDoorK04
import Derived.Test.YtplaamfoeaaaiaaGreatDoorK05
import Derived.Deep.AppendLies
import Derived.Laws.CopyOwn
set_option maxRecDepth 100000
set_option maxHeartbeats 8000000
set_option linter.unusedVariables false
namespace Go.Proofs.YtplaamfoeaaaiaaGreatDoor
open Go.RowKit
theorem wpList_pushN (w : World) {ops : Array Oper} {rest : List Oper} {o : Oper} {a : Act} {Q : Exit → Act → World → Prop} (hg : o.guard = none) (s x : Operand) (t e : TypeId) (hop : o.op = Op.call { callee := Callee.builtin Builtin.append,args := #[s,x],argTypes := #[t,t] }) (i : TypeInfo) (z : Value) (size bytes : Nat) (ht : Tryz.prog.underlying t = some (.slice e)) (hi : Tryz.prog.info? e = some i) (hz : i.zero = some z) (hsz : i.size = size) (hby : i.bytes = bytes) (hzs : z.cells.size = size) (hs0 : 0 < size) (base : Nat) (v : Value) (n : Nat) (xs : List Value) (hs : a.eval s = v) (hown : w.ownsRow base e size v n xs) (g : Nat) (us : List Value) (hx : a.eval x = .slice (some ⟨g,0,none⟩) 1 1) (hl1 : us.length = 1 * size) (hc : ∀ j u,us[j]? = some u → w.cell? ((⟨g,0,none⟩ : Addr).add j) = some u) (h1 : ∀ u ∈ us,u.oneCell' = true) (hn : n + 1 ≤ maxLen) (hl : (n + 1) * bytes ≤ 140737488355328) (hbase : base ≤ w.heap.size) (hK : ∀ v' w',w'.ownsRow base e size v' (n + 1) (xs ++ us) → w.grownBy w' v.ownBlock → (∀ g',v'.ownBlock = some g' → v.ownBlock = some g' ∨ w.heap.size ≤ g') → wpList Tryz.prog ops Q rest (a.put o.dst v') w') :
  wpList Tryz.prog ops Q (o :: rest) a w := by
 refine wpList_plain hg fun K hK' => ?_
 obtain ⟨v',w',hrun,r1,r2,_,r4⟩ := run_append_own_at (P := Tryz.prog) w base t o.type e i z size bytes ht hi hz hsz hby hzs hs0 v n xs hown ⟨g,0,none⟩ 1 1 us hl1 hc h1 hn hl hbase
 unfold Oper.wp
 simp [execOp,hop,resolve,invoke,builtin,hs,hx,hrun,Result.andThen]
 refine hK' _ _ (hK v' w' r1 r2 (fun g' e' => ?_))
 rcases r4 with r4 | r4
 ·left;rw [← r4];exact e'
 ·right;rw [r4] at e';cases e';exact Nat.le_refl _
theorem Tryz.info234 : (Tryz.prog.info? 234).map (fun i => (i.zero,i.size,i.bytes)) = some (some (.agg #[.int .u8 0,.slice none 0 0]),2,32) := by kernel_rfl
structure BlkRow (w : World) (base : Nat) (ro : List Nat) (v : Value) (bs : List M.Blk) : Prop where
 own : ∃ us,w.ownsRow base 234 2 v bs.length us ∧ ∀ (j : Nat) b,bs[j]? = some b → ∃ u,us[j * 2]? = some (byteV b.number) ∧ us[j * 2 + 1]? = some u ∧ Slc w ro u b.data
 lo : ∀ b,b ∈ ro → base ≤ b ∧ b < w.heap.size
 sep : ∀ g,v.ownBlock = some g → g ∉ ro
theorem BlkRow.of_only {w w' : World} {base : Nat} {ro ks : List Nat} {v : Value} {bs : List M.Blk} (h : BlkRow w base ro v bs) (ho : Only ks w w') (hk : ∀ b,b ∈ ks → b < base) : BlkRow w' base ro v bs := by
 obtain ⟨us,h1,h2⟩ := h.own
 refine ⟨⟨us,ownsRow_only h1 ho (fun g e hg => by have := hk g hg;have := (h1.lt g e).1;omega),fun j p hj => ?_⟩,fun b hb => ⟨(h.lo b hb).1,Nat.lt_of_lt_of_le (h.lo b hb).2 ho.size⟩,h.sep⟩
 obtain ⟨u,q0,q1,q2⟩ := h2 j p hj
 exact ⟨u,q0,q1,q2.of_only ho (fun b hb hc => by have := hk b hc;have := (h.lo b hb).1;omega)⟩
theorem BlkRow.of_none {w w' : World} {base : Nat} {ro : List Nat} {v : Value} {bs : List M.Blk} (h : BlkRow w base ro v bs) (ho : Only [] w w') : BlkRow w' base ro v bs := h.of_only ho (by simp)
theorem BlkRow.blks {w : World} {base : Nat} {ro : List Nat} {v : Value} {bs : List M.Blk} (h : BlkRow w base ro v bs) : ∃ a c,v = .slice a bs.length c ∧ Blks w (ownL v ++ ro) a bs ∧ bs.length ≤ c := by
 obtain ⟨us,h1,h2⟩ := h.own
 obtain ⟨a,c,rfl⟩ := own_slice h1
 refine ⟨a,c,rfl,fun k b hk => ?_,?_⟩
 ·obtain ⟨u,q0,q1,q2⟩ := h2 k b hk
  have hkl : k < bs.length := (List.getElem?_eq_some_iff.1 hk).1
  rcases h1.2 with ⟨hv,h0⟩ | ⟨g,cap,cur,hv,hg,hh,hle,hm,_⟩
  ·omega
  ·simp only [Value.slice.injEq,true_and] at hv
   obtain ⟨rfl,rfl⟩ := hv
   exact ⟨g,u,rfl,by simp [ownL,Value.ownBlock],(h1.cellAt (k * 2) (by omega)).trans q0,(h1.cellAt (k * 2 + 1) (by omega)).trans q1,q2.more (by intro b hb;simp [hb])⟩
 ·rcases h1.2 with ⟨hv,h0⟩ | ⟨g,cap,cur,hv,hg,hh,hle,hm,_⟩
  ·omega
  ·simp only [Value.slice.injEq] at hv;omega
theorem BlkRow.push {w w1 : World} {base B1 n : Nat} {ro : List Nat} {v v' u : Value} {bs : List M.Blk} {b : M.Blk} {K : Only (ownL v) w w1} (h : BlkRow w base ro v bs) (hu : RowB w u b.data) (hlo : ∀ g,u.ownBlock = some g → B1 ≤ g) (hv : ∀ g,v.ownBlock = some g → g < B1) (hb : base ≤ B1) (hat : ∀ g,v'.ownBlock = some g → v.ownBlock = some g ∨ w.heap.size ≤ g) (us0 : List Value) (hown : w1.ownsRow base 234 2 v' n (us0 ++ [byteV b.number,u])) (hn : n = bs.length + 1) (hus0 : w.ownsRow base 234 2 v bs.length us0) (hus1 : ∀ (j : Nat) q,bs[j]? = some q → ∃ u,us0[j * 2]? = some (byteV q.number) ∧ us0[j * 2 + 1]? = some u ∧ Slc w ro u q.data) :
  BlkRow w1 base (ro ++ ownL u) v' (bs ++ [b]) := by
 subst hn
 have hul := hu.live
 refine ⟨⟨us0 ++ [byteV b.number,u],by simpa using hown,fun j q hj => ?_⟩,fun b' hb' => ?_,fun g e hg' => ?_⟩
 ·have hl : us0.length = bs.length * 2 := hus0.1
  rcases Nat.lt_trichotomy j bs.length with hlt | heq | hgt
  ·rw [List.getElem?_append_left hlt] at hj
   obtain ⟨x,q0,q1,q2⟩ := hus1 j q hj
   refine ⟨x,by rw [List.getElem?_append_left (by omega)];exact q0,by rw [List.getElem?_append_left (by omega)];exact q1,(q2.of_only K (fun b hb hc => h.sep b (mem_ownL.1 hc) hb)).more (by intro b hb;simp [hb])⟩
  ·subst heq
   simp at hj
   subst hj
   refine ⟨u,by rw [List.getElem?_append_right (by omega)];simp [hl],by rw [List.getElem?_append_right (by omega)];simp [hl],(hu.slc.of_only K (fun b hb hc => ?_)).more (by intro b hb;simp [hb])⟩
   have h1 := hlo b (mem_ownL.1 hb)
   have h2 := hv b (mem_ownL.1 hc)
   omega
  ·rw [List.getElem?_eq_none (by simp;omega)] at hj;cases hj
 ·rcases List.mem_append.1 hb' with h' | h'
  ·exact ⟨(h.lo b' h').1,Nat.lt_of_lt_of_le (h.lo b' h').2 K.size⟩
  ·exact ⟨Nat.le_trans hb (hlo b' (mem_ownL.1 h')),Nat.lt_of_lt_of_le (hul b' (mem_ownL.1 h')) K.size⟩
 ·rcases List.mem_append.1 hg' with h' | h'
  ·rcases hat g e with h2 | h2
   ·exact h.sep g h2 h'
   ·have := (h.lo g h').2;omega
  ·have h3 := hlo g (mem_ownL.1 h')
   rcases hat g e with h2 | h2
   ·have := hv g h2;omega
   ·have := hul g (mem_ownL.1 h');omega
theorem numberF_length (k : Nat) (ps : List (List UInt8)) : (M.numberF k ps).length = ps.length := by
 induction ps generalizing k with
 | nil => rfl
 | cons p r ih => simp [M.numberF,ih]
theorem numberF_get (k : Nat) (ps : List (List UInt8)) (j : Nat) : (M.numberF k ps)[j]? = (ps[j]?).map fun p => ⟨UInt8.ofNat (k + j + 1),p⟩ := by
 induction ps generalizing k j with
 | nil => simp [M.numberF]
 | cons p r ih =>
  cases j with
  | zero => simp [M.numberF]
  | succ j =>
   simp only [M.numberF,List.getElem?_cons_succ]
   rw [ih]
   have : k + 1 + j + 1 = k + (j + 1) + 1 := by omega
   rw [this]
theorem number_snoc (ps : List (List UInt8)) (k : Nat) (p : List UInt8) (h : ps[k]? = some p) : (M.number ps).take (k + 1) = (M.number ps).take k ++ [⟨UInt8.ofNat (k + 1),p⟩] := by
 have hk : k < (M.number ps).length := by unfold M.number;rw [numberF_length];exact (List.getElem?_eq_some_iff.1 h).1
 rw [List.take_succ_eq_append_getElem hk]
 congr 2
 have := numberF_get 0 ps k
 rw [h] at this
 simp only [Option.map_some,Nat.zero_add] at this
 rw [List.getElem?_eq_some_iff] at this
 exact this.2
theorem numb_any (a : Option Addr) (n c : Nat) (ro : List Nat) (ps : List (List UInt8)) (w : World) (h : Slcs w ro a ps) (hn : ps.length = n) (hro : Live w ro) (hN : n ≤ 65536) (hp : ∀ p,p ∈ ps → p.length ≤ 1024) :
  Calls Tryz.prog 92 #[.slice a n c] w fun e w' => ∃ v ro',e = .returned v ∧ BlkRow w' w.heap.size ro' v (M.number ps) ∧ Only [] w w' := by
 have HS := LH (AI h (AI hn (AI hro hp)))
 clear h hn hro hp
 go_enter Tryz.func92,Tryz.ntmps92
 go_wp2_with fail
 go_loopw [3,8] (fun s3 s8 wr => ∃ (k : Nat) (ro' : List Nat),k ≤ n ∧ s8 = .int .i64 k ∧ BlkRow wr w.heap.size ro' s3 ((M.number ps).take k) ∧ Only [] w wr) (fun _ s8 _ => n - (intOf s8).toNat)
 case atStart =>
  exact ⟨0,[],Nat.zero_le _,rfl,⟨⟨[],World.ownsRow_nil _ _ _ _,fun j p hj => by simp at hj⟩,fun b hb => by simp at hb,fun g e => by simp [Value.ownBlock] at e⟩,Only.refl _ _⟩
 case round =>
  obtain ⟨k,ro',hk,rfl,hrow,ho⟩ := hrel
  have hnl : (M.number ps).length = n := by unfold M.number;rw [numberF_length];exact HS.out.2.1
  by_cases hlt : k < n
  ·obtain ⟨p,hpk⟩ : ∃ p,ps[k]? = some p := ⟨_,List.getElem?_eq_getElem (by rw [HS.out.2.1];exact hlt)⟩
   obtain ⟨g,u,rfl,hg,cu,hsl⟩ := HS.out.1 k p hpk
   obtain ⟨au,cu',rfl,b1,b2,b3,b4,b5⟩ := hsl
   have hgl : g < w.heap.size := HS.out.2.2.1 g hg
   have cuw := ho.cell cu (by simp)
   have hpl := HS.out.2.2.2 p (List.mem_of_getElem? hpk)
   have hbw : Bytes wr au p := b1.of_only ho (.inr (by intro ad e;simp))
   have hsn := number_snoc ps k p hpk
   have hwr := ho.size
   obtain ⟨us0,hus0,hus1⟩ := hrow.own
   have hlk : ((M.number ps).take k).length = k := by simp;omega
   rw [hlk] at hus0
   obtain ⟨i2,g0,g1,g2,g3⟩ := info_parts Tryz.info234
   have HI := LH (AI g0 (AI g1 (AI g2 g3)))
   have HX := LH (AI hrow (AI ho (AI hbw (AI b4 (AI hsn (AI hus0 (AI hus1 hlk)))))))
   clear hrow ho hbw b1 b4 b5 hsn hus0 hus1 hlk g0 g1 g2 g3 hpk hnl cu
   go_wp2_with (first
    | (at_builtin;refine wpList_appAt _ rfl (.const (.slice none 0 0)) (.tmp 17) rfl wr.heap.size (.slice none 0 0) 0 [] rfl (World.ownsRow_nil _ _ _ _) au p.length cu' p rfl HX.out.2.2.1 rfl HX.out.2.2.2.1 p rfl p.length (Nat.zero_add _) (by omega) (Nat.le_refl _) ?_;intro a' c' w1 q1 q2 q3;have ho1 : Only [] wr w1 := (only_grown q2).weaken (by simp [Value.ownBlock]);have H1 := LH (AI q1 ho1);clear q1 q2 q3 ho1)
    | (at_builtin;go_loud (refine wpList_pushN _ rfl (.tmp 13) (.tmp 20) 207 234 rfl i2 (.agg #[.int .u8 0,.slice none 0 0]) 2 32 Tryz.underlying207 HI.out.1 HI.out.2.1 HI.out.2.2.1 HI.out.2.2.2 rfl (by omega) w.heap.size u3 k us0 rfl ((ownsRow_only HX.out.2.2.2.2.2.1 H1.out.2 (by simp)).alloc _) w1.heap.size [.int .u8 (((k : Int) + 1) % 256),.slice a' p.length c'] rfl rfl (World.news_of_block (cs := #[.int .u8 (((k : Int) + 1) % 256),.slice a' p.length c']) (t := 234) (fr := (0,0)) (heap_alloc_new w1 _)) (by simp [Value.oneCell']) (by unfold maxLen;omega) (by omega) (by have := H1.out.2.size;simp;omega) ?_);intro v' w3 q1 q2 q3))
   have K3 : Only (ownL u3) w1 w3 := ((Only.refl _ w1).alloc _).trans (only_grown q2)
   have o3 : Only [] w w3 := ((HX.out.2.1.trans H1.out.2).alloc _).grown q2 (fun b hb => .inr ((HX.out.2.2.2.2.2.1.lt b hb).1))
   have hnum : (((k : Int) + 1) % 256) = ((UInt8.ofNat (k + 1)).toNat : Int) := by rw [UInt8.toNat_ofNat'];omega
   rw [hnum] at q1
   have hr1 : BlkRow w1 w.heap.size ro' u3 ((M.number ps).take k) := HX.out.1.of_none H1.out.2
   obtain ⟨us1,hu1,hu2⟩ := hr1.own
   have hus1w : ∀ (j : Nat) q,((M.number ps).take k)[j]? = some q → ∃ u,us0[j * 2]? = some (byteV q.number) ∧ us0[j * 2 + 1]? = some u ∧ Slc w1 ro' u q.data := fun j q hj => by
    obtain ⟨u,x0,x1,x2⟩ := HX.out.2.2.2.2.2.2.1 j q hj
    exact ⟨u,x0,x1,x2.of_only H1.out.2 (fun b _ => by simp)⟩
   have hrb : RowB w1 (.slice a' p.length c') p := ownsRow_base H1.out.1 (Nat.zero_le _)
   have hp3 := BlkRow.push (K := K3) (B1 := wr.heap.size) (n := k + 1) (b := ⟨UInt8.ofNat (k + 1),p⟩) hr1 hrb (fun g e => (H1.out.1.lt g e).1) (fun g e => (HX.out.2.2.2.2.2.1.lt g e).2) hwr (fun g e => (q3 g e).imp id (by intro h;simp at h;omega)) us0 q1 (by rw [HX.out.2.2.2.2.2.2.2]) (by rw [HX.out.2.2.2.2.2.2.2];exact ownsRow_only HX.out.2.2.2.2.2.1 H1.out.2 (by simp)) hus1w
   rw [← HX.out.2.2.2.2.1] at hp3
   exact ⟨⟨k + 1,_,by omega,by go_num,hp3,o3⟩,by simp [intOf];omega⟩
  ·obtain rfl : k = n := by omega
   have ht : (M.number ps).take k = M.number ps := by rw [List.take_of_length_le (by omega)]
   rw [ht] at hrow
   have HX := LH (AI hrow ho)
   clear hrow ho hnl ht
   go_wp2_with fail
   go_ret
   exact ⟨_,ro',rfl,HX.out⟩
def Stored (w : World) (T : Nat) (f : Nat → UInt8) : Prop :=
 ∃ arr : Array Value,w.heap[T]? = some (.cells arr 121 (0,0)) ∧ arr.size = 16384 ∧ ∀ k,k < 16384 → arr[k]? = some (byteV (f k))
theorem Stored.of_only {w w' : World} {T : Nat} {f : Nat → UInt8} {ks : List Nat} (h : Stored w T f) (ho : Only ks w w') (hT : T ∉ ks) : Stored w' T f := by
 obtain ⟨arr,h1,h2,h3⟩ := h
 exact ⟨arr,ho.heap h1 hT,h2,h3⟩
theorem Stored.lt {w : World} {T : Nat} {f : Nat → UInt8} (h : Stored w T f) : T < w.heap.size := by
 obtain ⟨arr,h1,_⟩ := h
 exact heap_lt h1
def rd (f : Nat → UInt8) (addr n : Nat) : List UInt8 := (List.range n).map fun k => f (addr + k)
theorem rd_length (f : Nat → UInt8) (addr n : Nat) : (rd f addr n).length = n := by simp [rd]
theorem Stored.bytes {w : World} {T : Nat} {f : Nat → UInt8} (h : Stored w T f) (addr n : Nat) (hf : addr + n ≤ 16384) : Bytes w (some ⟨T,addr,none⟩) (rd f addr n) := by
 obtain ⟨arr,h1,h2,h3⟩ := h
 refine ⟨fun e => (by cases e),fun ad e i hi => ?_⟩
 cases e
 rw [rd_length] at hi
 rw [Addr.add_lit,cell_of_row w T _ _ _ _ h1,h3 (addr + i) (by omega)]
 simp [rd,List.getD,hi]
def wr (f : Nat → UInt8) (addr : Nat) (d : List UInt8) : Nat → UInt8 := fun k => if addr ≤ k ∧ k < addr + d.length then d.getD (k - addr) 0 else f k
theorem fits_any (addr n : Nat) (h1 : addr ≤ 16384) (h2 : n ≤ 16384 - addr) (w : World) : Calls Tryz.prog 52 #[.int .i64 addr,.int .i64 n] w fun e w' => e = .returned (.bool true) ∧ w = w' := by
 have k1 : ((addr : Int) ≤ 16384) := by omega
 have k2 : ((n : Int) ≤ 16384 - (addr : Int)) := by omega
 have k3 : (0 : Int) ≤ (addr : Int) := by omega
 have k4 : (0 : Int) ≤ (n : Int) := by omega
 have d1 : decide ((addr : Int) ≥ 0) = true := by simp
 have d2 : decide ((n : Int) ≥ 0) = true := by simp
 have d3 : decide ((addr : Int) ≤ 16384) = true := by simpa using k1
 have d4 : decide ((n : Int) ≤ 16384 - (addr : Int)) = true := by simpa using k2
 go_enter Tryz.func52,Tryz.ntmps52
 go_wp2
 go_ret
 exact ⟨rfl,rfl⟩
theorem read_any (T : Nat) (f : Nat → UInt8) (addr n : Nat) (w : World) (h : Stored w T f) (h1 : addr < 16384) (h2 : n ≤ 16384 - addr) :
  Calls Tryz.prog 28 #[.pointer (some ⟨T,0,none⟩),.int .i64 addr,.int .i64 n] w fun e w' => ∃ v,e = .returned (.tuple #[v,.bool true]) ∧ Out w w' v (rd f addr n) ∧ Only [] w w' := by
 have HB := LH (h.bytes addr n (by omega))
 obtain ⟨N,hN⟩ : ∃ N,N = addr + n := ⟨_,rfl⟩
 have hNi : (addr : Int) + (n : Int) = (N : Int) := by omega
 have hw1 : wrap64 (N : Int) = (N : Int) := by unfold wrap64;omega
 have hw2 : IntKind.i64.wrap (N : Int) = (N : Int) := by rw [IntKind.wrap_i64];omega
 have k1 : (addr : Int) ≤ (N : Int) := by omega
 have k2 : (N : Int) ≤ 16384 := by omega
 have k3 : (0 : Int) ≤ (addr : Int) := by omega
 have k4 : ¬ 16384 = addr := by omega
 have hlen : N - addr = n := by omega
 have HN := LH hN
 have HL := LH hlen
 clear h hN hlen
 go_enter Tryz.func28,Tryz.ntmps28
 go_wp2_with (first
  | (go_at_call 52;refine (fits_any addr n (by omega) h2 _).mono ?_;rintro e w' ⟨rfl,rfl⟩)
  | (at_builtin;go_loud (refine wpList_appAt _ rfl (.const (.slice none 0 0)) (.tmp 19) rfl w.heap.size (.slice none 0 0) 0 [] rfl (World.ownsRow_nil _ _ _ _) (some ⟨T,addr,none⟩) (N - addr) (16384 - addr) (rd f addr n) rfl HB.out (by rw [rd_length,HL.out]) (by intro e;cases e) (rd f addr n) rfl n (by rw [HL.out,Nat.zero_add]) (by omega) (Nat.le_refl _) ?_);intro a' c' w1 q1 q2 q3))
 go_ret2
 refine ⟨_,rfl,?_,(only_grown q2).weaken (by simp [Value.ownBlock])⟩
 unfold Out
 rw [rd_length]
 exact q1
theorem sprint_any (T : Nat) (f : Nat → UInt8) (addr n : Nat) (w : World) (h : Stored w T f) (h1 : addr < 16384) (h2 : n ≤ 16384 - addr) :
  Calls Tryz.prog 120 #[.pointer (some ⟨T,0,none⟩),.int .i64 addr,.int .i64 n] w fun e w' => e = .returned (.tuple #[.int .u32 (M.printOf (rd f addr n)),.bool true]) ∧ Only [] w w' := by
 have HB := LH (AI (h.bytes addr n (by omega)) h.lt)
 obtain ⟨N,hN⟩ : ∃ N,N = addr + n := ⟨_,rfl⟩
 have hNi : (addr : Int) + (n : Int) = (N : Int) := by omega
 have hw1 : wrap64 (N : Int) = (N : Int) := by unfold wrap64;omega
 have hw2 : IntKind.i64.wrap (N : Int) = (N : Int) := by rw [IntKind.wrap_i64];omega
 have k1 : (addr : Int) ≤ (N : Int) := by omega
 have k2 : (N : Int) ≤ 16384 := by omega
 have k3 : (0 : Int) ≤ (addr : Int) := by omega
 have k4 : ¬ 16384 = addr := by omega
 have hlen : N - addr = n := by omega
 have HN := LH hN
 have HL := LH hlen
 clear h hN hlen
 go_enter Tryz.func120,Tryz.ntmps120
 go_wp2_with (first
  | (go_at_call 52;refine (fits_any addr n (by omega) h2 _).mono ?_;rintro e w' ⟨rfl,rfl⟩)
  | (go_at_call 18;refine (print_any (some ⟨T,addr,none⟩) (rd f addr n) (N - addr) (16384 - addr) _ HB.out.1 (.inr (by intro ad e;cases e;exact HB.out.2)) (by rw [rd_length,HL.out]) (by omega)).mono ?_;rintro e w1 ⟨rfl,ho1⟩))
 go_ret2
 exact ⟨rfl,ho1⟩
theorem write_store (T : Nat) (f : Nat → UInt8) (addr : Nat) (a : Option Addr) (n c : Nat) (d : List UInt8) (w : World) (h : Stored w T f) (h1 : addr < 16384) (h2 : n ≤ 16384 - addr) (h0 : 0 < n) (hb : Bytes w a d) (hn : d.length = n) :
  Calls Tryz.prog 100 #[.pointer (some ⟨T,0,none⟩),.int .i64 addr,.slice a n c] w fun e w' => e = .returned (.bool true) ∧ Stored w' T (wr f addr d) ∧ Only [T] w w' := by
 obtain ⟨B,o,rfl,_⟩ := hb.at 0 (by omega)
 obtain ⟨arr,q1,q2,q3⟩ := h
 have HB := LH (AI hb (AI hn (AI q1 (AI q2 q3))))
 have k1 : (addr : Int) ≤ 16384 := by omega
 have k3 : (0 : Int) ≤ (addr : Int) := by omega
 have k4 : ¬ 16384 = addr := by omega
 have hmin : Nat.min n (16384 - addr) = n := Nat.min_eq_left h2
 have HM := LH hmin
 clear hb hn q1 q2 q3 hmin
 go_enter Tryz.func100,Tryz.ntmps100
 go_wp2_with (first
  | (go_at_call 52;refine (fits_any addr n (by omega) h2 _).mono ?_;rintro e w' ⟨rfl,rfl⟩)
  | (refine wpList_copy_own rfl (.tmp 16) (.tmp 17) 22 22 rfl 5 Tryz.underlying22 (by kernel_rfl) T addr (16384 - addr) (16384 - addr) ⟨B,o,none⟩ n c rfl rfl arr 121 HB.out.2.2.1 (d.map byteV) (by rw [HM.out];simp [HB.out.2.1]) (bytes_news HB.out.1) (by simp [HB.out.2.1,HB.out.2.2.2.1];omega) (byteV_one d) ?_))
 go_ret
 have hs : (arr.toList.take addr ++ (d.map byteV ++ arr.toList.drop (addr + d.length))).toArray.size = 16384 := by simp [HB.out.2.1,HB.out.2.2.2.1];omega
 refine ⟨rfl,⟨_,setRow_heap w T arr _ 121 (0,0) HB.out.2.2.1,hs,fun k hk => ?_⟩,⟨rfl,rfl,rfl,by simp [World.setRow],fun k hk hn => setRow_other w T k _ (by simpa using hn)⟩⟩
 have hl : arr.toList.length = 16384 := by simp [HB.out.2.2.2.1]
 have hd : (d.map byteV).length = n := by simp [HB.out.2.1]
 have hta : (arr.toList.take addr).length = addr := by rw [List.length_take,hl];omega
 simp only [List.getElem?_toArray]
 unfold wr
 by_cases c1 : k < addr
 ·rw [if_neg (by omega),List.getElem?_append_left (by rw [hta];exact c1),List.getElem?_take,if_pos c1]
  rw [Array.getElem?_toList]
  exact HB.out.2.2.2.2 k hk
 ·rw [List.getElem?_append_right (by rw [hta];omega),hta]
  by_cases c2 : k < addr + n
  ·rw [if_pos (by rw [HB.out.2.1];omega),List.getElem?_append_left (by rw [hd];omega),List.getElem?_map]
   have : k - addr < d.length := by rw [HB.out.2.1];omega
   simp [List.getD,this]
  ·rw [if_neg (by rw [HB.out.2.1];omega),List.getElem?_append_right (by rw [hd];omega),List.getElem?_drop,hd]
   have e : addr + d.length + (k - addr - n) = k := by rw [HB.out.2.1];omega
   rw [e,Array.getElem?_toList]
   exact HB.out.2.2.2.2 k hk
end Go.Proofs.YtplaamfoeaaaiaaGreatDoor
