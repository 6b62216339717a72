/- A part of the proofs of the laws of lifelinetop (TopNever, TopLost, TopRoom): contracts of functions that these laws reach. No condition of its own. -/
import Derived.Test.YtplaamfoeaaaiaaGreatDoorK02
import Derived.Test.YtplaamfoeaaaiaaGreatDoorK12
import Derived.Deep.OwnRows
set_option maxRecDepth 100000
set_option maxHeartbeats 8000000
set_option linter.unusedVariables false
namespace Go.Proofs.YtplaamfoeaaaiaaGreatDoor
open Go.RowKit
def pickQ (x0 x1 x2 x3 : Int) (q : Nat) : Int := if q = 0 then x0 else if q = 1 then x1 else if q = 2 then x2 else x3
theorem has_case (x0 x1 x2 x3 : Int) (n q : Nat) (hn : n < 256) (hq0 : n / 64 = q) (w : World) :
  Calls Tryz.prog 129 #[.agg #[.int .u64 x0,.int .u64 x1,.int .u64 x2,.int .u64 x3],.int .u8 n] w fun e w' => e = .returned (.bool (bits BinOp.and IntKind.u64 (pickQ x0 x1 x2 x3 q / 2 ^ (n % 64)) 1 == 1)) ∧ Only [] w w' := by
 have hq : q < 4 := by omega
 have e1 : ((n : Int) / 64 % 256) = q := by omega
 clear hq0 hn
 match q,hq with
 | 0,_ =>
  go_enter Tryz.func129,Tryz.ntmps129
  go_wp2_with fail
  go_ret
  exact ⟨rfl,(Only.refl [] w).alloc _⟩
 | 1,_ =>
  go_enter Tryz.func129,Tryz.ntmps129
  go_wp2_with fail
  go_ret
  exact ⟨rfl,(Only.refl [] w).alloc _⟩
 | 2,_ =>
  go_enter Tryz.func129,Tryz.ntmps129
  go_wp2_with fail
  go_ret
  exact ⟨rfl,(Only.refl [] w).alloc _⟩
 | 3,_ =>
  go_enter Tryz.func129,Tryz.ntmps129
  go_wp2_with fail
  go_ret
  exact ⟨rfl,(Only.refl [] w).alloc _⟩
theorem bit_pow : ∀ a b : Fin 64,(bits BinOp.and IntKind.u64 (((2 ^ a.val : Nat) : Int) / 2 ^ b.val) 1 == 1) = decide (a = b) := by decide +kernel
theorem bit_zero (r : Nat) : (bits BinOp.and IntKind.u64 (0 / 2 ^ r) 1 == 1) = false := by
 rw [Int.zero_ediv];decide
theorem has_any (b c : UInt8) (w : World) :
  Calls Tryz.prog 129 #[.agg #[bitV b 0,bitV b 1,bitV b 2,bitV b 3],byteV c] w fun e w' => e = .returned (.bool (b == c)) ∧ Only [] w w' := by
 have hc : c.toNat < 256 := c.toNat_lt
 have hb : b.toNat < 256 := b.toNat_lt
 refine (has_case _ _ _ _ c.toNat _ hc rfl w).mono ?_
 rintro e w' ⟨rfl,ho⟩
 refine ⟨?_,ho⟩
 have hp : pickQ (bitN b 0) (bitN b 1) (bitN b 2) (bitN b 3) (c.toNat / 64) = (bitN b (c.toNat / 64) : Int) := by
  have hq : c.toNat / 64 < 4 := by omega
  generalize c.toNat / 64 = q at hq
  match q,hq with
  | 0,_ => rfl
  | 1,_ => rfl
  | 2,_ => rfl
  | 3,_ => rfl
 rw [hp]
 unfold bitN
 congr 2
 by_cases h : b.toNat / 64 = c.toNat / 64
 ·rw [if_pos h,bit_pow ⟨b.toNat % 64,Nat.mod_lt _ (by omega)⟩ ⟨c.toNat % 64,Nat.mod_lt _ (by omega)⟩]
  rw [Bool.eq_iff_iff]
  simp only [decide_eq_true_eq,Fin.mk.injEq,beq_iff_eq]
  constructor
  ·intro h2;exact UInt8.toNat_inj.1 (by omega)
  ·intro h2;rw [h2]
 ·rw [if_neg h]
  rw [show ((0 : Nat) : Int) = 0 from rfl,bit_zero]
  symm
  rw [beq_eq_false_iff_ne]
  intro h2;exact h (by rw [h2])
structure TabAt (w : World) (ro : List Nat) (T gs gn gf gl cs cn cf cl : Nat) (l : List UInt8) : Prop where
 str : w.heap[T]? = some (.cells #[.slice (some ⟨gs,0,none⟩) l.length cs,.slice (some ⟨gn,0,none⟩) l.length cn,.slice (some ⟨gf,0,none⟩) l.length cf,.slice (some ⟨gl,0,none⟩) l.length cl,.bool false] 274 (0,0))
 inT : T ∈ ro ∧ gs ∈ ro ∧ gn ∈ ro ∧ gf ∈ ro ∧ gl ∈ ro
 sets : ∀ k b,l[k]? = some b → w.cell? ⟨gs,k * 4,none⟩ = some (bitV b 0) ∧ w.cell? ⟨gs,k * 4 + 1,none⟩ = some (bitV b 1) ∧ w.cell? ⟨gs,k * 4 + 2,none⟩ = some (bitV b 2) ∧ w.cell? ⟨gs,k * 4 + 3,none⟩ = some (bitV b 3)
 next : ∀ k,k < l.length → ∃ g c,g ∈ ro ∧ w.cell? ⟨gn,k,none⟩ = some (.slice (some ⟨g,0,none⟩) l.length c) ∧ ∀ i,i < l.length → w.cell? ⟨g,i,none⟩ = some (.bool (i == k + 1))
 first : ∀ k,k < l.length → w.cell? ⟨gf,k,none⟩ = some (.bool (k == 0))
 last : ∀ k,k < l.length → w.cell? ⟨gl,k,none⟩ = some (.bool (k + 1 == l.length))
 len : 0 < l.length ∧ l.length ≤ 64
theorem TabAt.of_only {w w' : World} {ro ks : List Nat} {T gs gn gf gl cs cn cf cl : Nat} {l : List UInt8} (h : TabAt w ro T gs gn gf gl cs cn cf cl l) (ho : Only ks w w') (hs : Sep ro ks) : TabAt w' ro T gs gn gf gl cs cn cf cl l := by
 obtain ⟨i1,i2,i3,i4,i5⟩ := h.inT
 refine ⟨ho.heap h.str (hs _ i1),h.inT,fun k b hk => ?_,fun k hk => ?_,fun k hk => ho.cell (h.first k hk) (hs _ i4),fun k hk => ho.cell (h.last k hk) (hs _ i5),h.len⟩
 ·obtain ⟨a,b,c,d⟩ := h.sets k b hk
  exact ⟨ho.cell a (hs _ i2),ho.cell b (hs _ i2),ho.cell c (hs _ i2),ho.cell d (hs _ i2)⟩
 ·obtain ⟨g,c,hg,h1,h2⟩ := h.next k hk
  exact ⟨g,c,hg,ho.cell h1 (hs _ i3),fun i hi => ho.cell (h2 i hi) (hs _ hg)⟩
theorem info4 : (Tryz.prog.info? 4).map (fun i => (i.zero,i.size,i.bytes)) = some (some (.bool false),1,1) := by kernel_rfl
theorem mk_bools (w : World) (n : Nat) (h : n ≤ 64) : (Instr.makeSlice 244 (.int .i64 n) (.int .i64 n)).run Tryz.prog w = .ok (.slice (some ⟨w.heap.size,0,none⟩) n n) (w.alloc (.cells (madeCells #[.bool false] n) 4)) := by
 obtain ⟨i,hi,hz,hs,hb⟩ := info_parts info4
 have hmk := run_make (P := Tryz.prog) w 244 4 i (.bool false) Tryz.underlying244 hi hz .i64 .i64 n n (by omega) (by omega) (by rw [hb];omega) (by omega)
 rw [hs] at hmk
 simp only [Int.toNat_natCast,Nat.mul_one] at hmk
 exact hmk
def stepIs (f : Nat → Bool) (k i : Nat) : Bool := k == 0 || (decide (k ≤ i) && f (k - 1))
theorem stepIs_zero (f : Nat → Bool) (k : Nat) : stepIs f k 0 = (k == 0) := by
 unfold stepIs
 rw [Bool.eq_iff_iff];simp
 intro h;simp [h]
theorem stepIs_succ (f : Nat → Bool) (k i : Nat) : stepIs f k (i + 1) = (stepIs f k i || (f i && (k == i + 1))) := by
 unfold stepIs
 rw [Bool.eq_iff_iff]
 simp only [Bool.or_eq_true,Bool.and_eq_true,beq_iff_eq,decide_eq_true_eq]
 constructor
 ·rintro (h | ⟨h1,h2⟩)
  ·exact .inl (.inl h)
  ·by_cases h3 : k = i + 1
   ·right;subst h3;exact ⟨by simpa using h2,rfl⟩
   ·left;right;exact ⟨by omega,h2⟩
 ·rintro ((h | ⟨h1,h2⟩) | ⟨h1,rfl⟩)
  ·exact .inl h
  ·exact .inr ⟨by omega,h2⟩
  ·exact .inr ⟨Nat.le_refl _,by simpa using h1⟩
def stepF (l : List UInt8) (f : Nat → Bool) (m : Nat) (c : UInt8) (k : Nat) : Bool := (l.getD k 0 == c) && stepIs f k m
theorem stepF_next (g : Nat → Bool) (j k : Nat) (h : j = k → g j = false) : (decide (j < k) && g j) = (decide (j < k + 1) && g j) := by
 by_cases e : j = k
 ·rw [h e];simp
 ·have e2 : (j < k) = (j < k + 1) := by rw [eq_iff_iff];omega
  simp [e2]
theorem tstep_any (ro : List Nat) (T gs gn gf gl cs cn cf cl : Nat) (l : List UInt8) (a : Option Addr) (m ca : Nat) (f : Nat → Bool) (c : UInt8) (w : World) (h : TabAt w ro T gs gn gf gl cs cn cf cl l) (hm : m ≤ l.length) (ha : ∀ i,i < m → ∃ g,a = some ⟨g,0,none⟩ ∧ w.cell? ⟨g,i,none⟩ = some (.bool (f i))) :
  Calls Tryz.prog 110 #[.pointer (some ⟨T,0,none⟩),.slice a m ca,byteV c,.bool true] w fun e w' => ∃ g,e = .returned (.slice (some ⟨g,0,none⟩) l.length l.length) ∧ w.heap.size ≤ g ∧ w'.rowIs g 4 l.length (fun k => .bool (stepF l f m c k)) ∧ Only [] w w' := by
 obtain ⟨n,hn⟩ : ∃ n,n = l.length := ⟨_,rfl⟩
 obtain ⟨hn0,hn1⟩ := h.len
 have c0 : w.cell? ⟨T,0,none⟩ = some (.slice (some ⟨gs,0,none⟩) n cs) := by rw [hn];exact cell_at h.str rfl
 have c1 : w.cell? ⟨T,1,none⟩ = some (.slice (some ⟨gn,0,none⟩) n cn) := by rw [hn];exact cell_at h.str rfl
 have c2 : w.cell? ⟨T,2,none⟩ = some (.slice (some ⟨gf,0,none⟩) n cf) := by rw [hn];exact cell_at h.str rfl
 have hmk := fun w => mk_bools w n (by omega)
 have hT := heap_lt h.str
 have H := LH (AI h (AI hn (AI ha (AI c1 c2))))
 have hn64 : n ≤ 64 := by omega
 have hmn : m ≤ n := by omega
 clear h hn ha hn0 hn1 hm c1 c2
 go_enter Tryz.func110,Tryz.ntmps110
 go_wp2_with fail
 obtain ⟨G,hG⟩ : ∃ G,G = w.heap.size := ⟨_,rfl⟩
 obtain ⟨wb,hwb⟩ : ∃ wb,wb = w.alloc (.cells (madeCells #[.bool false] n) 4) := ⟨_,rfl⟩
 have hrow : wb.rowIs G 4 n (fun _ => .bool false) := by rw [hwb,hG];exact World.rowIs_made w (.bool false) n 4
 have ob : Only [] w wb := by rw [hwb];exact (Only.refl [] w).alloc _
 have HB := LH (AI hrow (AI ob hG))
 rw [← hwb,← hG]
 have hGw : w.heap.size ≤ G := by omega
 clear hrow ob hwb hG c0
 go_loopw [25] (fun s25 wr => ∃ k : Nat,k ≤ n ∧ s25 = .int .i64 k ∧ wr.rowIs G 4 n (fun j => .bool (decide (j < k) && stepF l f m c j)) ∧ Only [] w wr) (fun s25 _ => n - (intOf s25).toNat)
 case atStart => exact ⟨0,Nat.zero_le _,rfl,HB.out.1.congr (fun i hi => by simp),HB.out.2.1⟩
 case round =>
  obtain ⟨k,hk,rfl,hrow,ho⟩ := hrel
  by_cases hlt : k < n
  ·have hkl : k < l.length := by rw [← H.out.2.1];exact hlt
   obtain ⟨b,hb⟩ : ∃ b,l[k]? = some b := ⟨_,List.getElem?_eq_getElem hkl⟩
   have hT := H.out.1.of_only ho (fun b _ => by simp)
   obtain ⟨s0,s1,s2,s3⟩ := hT.sets k b hb
   have HH := fun wx => has_any b c wx
   have c1 : wr.cell? ⟨T,1,none⟩ = some (.slice (some ⟨gn,0,none⟩) n cn) := ho.cell H.out.2.2.2.1 (by simp)
   have c2 : wr.cell? ⟨T,2,none⟩ = some (.slice (some ⟨gf,0,none⟩) n cf) := ho.cell H.out.2.2.2.2 (by simp)
   have k1 : (k : Int) < (n : Int) := by omega
   have k2 : (0 : Int) ≤ (k : Int) := by omega
   have hgs : gs < wr.heap.size := World.block_lt_of_cell? wr _ s0
   have hTr : T < wr.heap.size := World.block_lt_of_cell? wr _ c1
   have HR := LH (AI hrow (AI ho (AI hT hb)))
   clear hrow ho hT hb
   cases hbc : (b == c) with
   | false =>
    rw [hbc] at HH
    have HE := LH hbc
    clear hbc
    go_wp2_with (first | (go_at_call 129;refine (HH _).mono ?_;rintro e w2 ⟨rfl,ho2⟩;have o2 : Only [] wr w2 := Only.trans (by repeat (first | with_reducible exact Only.refl _ _ | refine Only.drew ?_ | refine Only.alloc ?_ _)) ho2;have HO2 := LH o2;clear ho2 o2))
    refine ⟨⟨k + 1,by omega,by go_num,(HR.out.1.of_block (HO2.out.block G (HR.out.1.lt) (by simp))).congr (fun j hj => ?_),HR.out.2.1.trans HO2.out⟩,by simp [intOf];omega⟩
    have hkF : stepF l f m c k = false := by unfold stepF;rw [List.getD_eq_getElem?_getD,HR.out.2.2.2];show ((b == c) && _) = false;rw [HE.out];rfl
    exact congrArg Value.bool (stepF_next _ _ _ (fun e => by rw [e,hkF]))
   | true =>
    rw [hbc] at HH
    have HE := LH hbc
    clear hbc
    have hfk := (HR.out.2.2.1).first k (by have := H.out.2.1;omega)
    have hgf : gf < wr.heap.size := World.block_lt_of_cell? wr _ hfk
    go_upto_region 7 with (first | (go_at_call 129;refine (HH _).mono ?_;rintro e w2 ⟨rfl,ho2⟩;have o2 : Only [] wr w2 := Only.trans (by repeat (first | with_reducible exact Only.refl _ _ | refine Only.drew ?_ | refine Only.alloc ?_ _)) ho2;have c12 := o2.cell c1 (by simp);have c22 := o2.cell c2 (by simp);have hf2 := o2.cell hfk (by simp);have hT2 := HR.out.2.2.1.of_only o2 (fun b _ => by simp);have HO2 := LH (AI o2 hT2);clear ho2 o2 hT2))
    go_wp2_with fail
    clear c1 c2 c22 hf2 hfk s0 s1 s2 s3 HH
    go_loopw [12,46] (fun s12 s46 wx => ∃ i : Nat,i ≤ m ∧ s46 = .int .i64 i ∧ s12 = .bool (stepIs f k i) ∧ w2 = wx) (fun _ s46 _ => m - (intOf s46).toNat)
    case atStart => exact ⟨0,Nat.zero_le _,rfl,by rw [stepIs_zero],rfl⟩
    case round =>
     obtain ⟨i,hi,rfl,rfl,rfl⟩ := hrel
     by_cases hlt2 : i < m
     ·have hs := stepIs_succ f k i
      obtain ⟨g,rfl,hg⟩ := H.out.2.2.1 i hlt2
      have hg2 := HO2.out.1.cell (HR.out.2.1.cell hg (by simp)) (by simp)
      obtain ⟨g',c',_,hn1,hn2⟩ := HO2.out.2.next i (by have := H.out.2.1;omega)
      have hn3 := hn2 k (by have := H.out.2.1;omega)
      have i1 : (i : Int) < (m : Int) := by omega
      have i2 : (0 : Int) ≤ (i : Int) := by omega
      have i3 : (i : Int) < (n : Int) := by omega
      rw [← H.out.2.1] at hn1
      clear hg hn2
      have HS := LH hs
      clear hs
      cases his : stepIs f k i with
      | true =>
       have HI := LH his
       clear his
       go_wp2_with fail
       exact ⟨⟨i + 1,by omega,by go_num,by rw [HS.out,HI.out];rfl,by first | trivial | rfl⟩,by simp [intOf];omega⟩
      | false =>
       have HI := LH his
       clear his
       cases hfi : f i with
       | false =>
        rw [hfi] at hg2
        have HF := LH hfi
        clear hfi
        go_wp2_with fail
        exact ⟨⟨i + 1,by omega,by go_num,by rw [HS.out,HI.out,HF.out];rfl,by first | trivial | rfl⟩,by simp [intOf];omega⟩
       | true =>
        rw [hfi] at hg2
        have HF := LH hfi
        clear hfi
        go_wp2_with fail
        exact ⟨⟨i + 1,by omega,by go_num,by rw [HS.out,HI.out,HF.out];simp,by first | trivial | rfl⟩,by simp [intOf];omega⟩
     ·obtain rfl : i = m := by omega
      have hG2 := HR.out.1.of_block (HO2.out.1.block G (HR.out.1.lt) (by simp))
      have hGk := hG2.cell hlt
      have fG := hG2.frozen k
      have HG := LH hG2
      clear hG2
      go_wp2_with fail
      have hrow9 := HG.out.set k (.bool (stepIs f k i))
      have ho9 : Only [] w (w2.setCell ⟨G,k,none⟩ (.bool (stepIs f k i))) := (HR.out.2.1.trans HO2.out.1).setFresh hGw _
      have hkT : stepF l f i c k = stepIs f k i := by unfold stepF;rw [List.getD_eq_getElem?_getD,HR.out.2.2.2];show ((b == c) && _) = _;rw [HE.out];rfl
      refine ⟨⟨k + 1,by omega,by go_num,hrow9.congr (fun j hj => ?_),ho9⟩,by simp [intOf];omega⟩
      by_cases e : j = k
      ·subst e;simp [hkT]
      ·rw [if_neg e]
       exact congrArg Value.bool (by
                      have e2 : (j < k) = (j < k + 1) := by rw [eq_iff_iff];omega
                      simp [e2])
  ·obtain rfl : k = n := by omega
   have HR := LH (AI hrow ho)
   clear hrow ho
   go_wp2_with fail
   go_ret
   refine ⟨G,by rw [H.out.2.1];rfl,hGw,?_,HR.out.2⟩
   have hq := HR.out.1.congr (g := fun j => .bool (stepF l f m c j)) (fun j hj => by simp [hj])
   rw [← H.out.2.1]
   exact hq
theorem tempty_any (ro : List Nat) (T gs gn gf gl cs cn cf cl : Nat) (l : List UInt8) (w : World) (h : TabAt w ro T gs gn gf gl cs cn cf cl l) :
  Calls Tryz.prog 106 #[.pointer (some ⟨T,0,none⟩)] w fun e w' => e = .returned (.bool false) ∧ w = w' := by
 have c4 : w.cell? ⟨T,4,none⟩ = some (.bool false) := cell_at h.str rfl
 clear h
 go_enter Tryz.func106,Tryz.ntmps106
 go_wp2_with fail
 go_ret
 exact ⟨rfl,rfl⟩
theorem tends_any (ro : List Nat) (T gs gn gf gl cs cn cf cl : Nat) (l : List UInt8) (g ca : Nat) (f : Nat → Bool) (w : World) (h : TabAt w ro T gs gn gf gl cs cn cf cl l) (ha : ∀ i,i < l.length → w.cell? ⟨g,i,none⟩ = some (.bool (f i))) :
  Calls Tryz.prog 111 #[.pointer (some ⟨T,0,none⟩),.slice (some ⟨g,0,none⟩) l.length ca] w fun e w' => e = .returned (.bool (f (l.length - 1))) ∧ w = w' := by
 obtain ⟨n,hn⟩ : ∃ n,n = l.length := ⟨_,rfl⟩
 obtain ⟨hn0,hn1⟩ := h.len
 have c3 : w.cell? ⟨T,3,none⟩ = some (.slice (some ⟨gl,0,none⟩) n cl) := by rw [hn];exact cell_at h.str rfl
 have H := LH (AI h (AI hn ha))
 have hn64 : n ≤ 64 := by omega
 have hnp : 0 < n := by omega
 rw [← hn]
 clear h ha hn0 hn1 hn
 go_enter Tryz.func111,Tryz.ntmps111
 go_wp2_with fail
 go_loopw [9] (fun s9 wx => ∃ i : Nat,i ≤ n ∧ s9 = .int .i64 i ∧ w = wx ∧ (i = n → f (n - 1) = false)) (fun s9 _ => n - (intOf s9).toNat)
 case atStart => exact ⟨0,Nat.zero_le _,rfl,rfl,fun e => by omega⟩
 case round =>
  obtain ⟨i,hi,rfl,rfl,hlast⟩ := hrel
  by_cases hlt : i < n
  ·have hil : i < l.length := by rw [← H.out.2.1];exact hlt
   have ha := H.out.2.2 i hil
   have hl := H.out.1.last i hil
   rw [← H.out.2.1] at hl
   have i1 : (i : Int) < (n : Int) := by omega
   have i2 : (0 : Int) ≤ (i : Int) := by omega
   clear hlast
   cases hfi : f i with
   | false =>
    rw [hfi] at ha
    have HF := LH hfi
    clear hfi
    go_wp2_with fail
    refine ⟨⟨i + 1,by omega,by go_num,by first | trivial | rfl,fun e => ?_⟩,by simp [intOf];omega⟩
    have : n - 1 = i := by omega
    rw [this];exact HF.out
   | true =>
    rw [hfi] at ha
    by_cases he : i + 1 = n
    ·have hb : (i + 1 == n) = true := by simpa using he
     rw [hb] at hl
     have HF := LH (AI hfi he)
     clear hfi he hb
     go_wp2_with fail
     go_ret
     have h1 := HF.out.2
     have h2 := HF.out.1
     refine ⟨?_,rfl⟩
     have : n - 1 = i := by omega
     rw [this,h2]
     rfl
    ·have hb : (i + 1 == n) = false := by simpa using he
     rw [hb] at hl
     have HF := LH he
     clear hfi hb he
     go_wp2_with fail
     exact ⟨⟨i + 1,by omega,by go_num,by first | trivial | rfl,fun e => absurd e HF.out⟩,by simp [intOf];omega⟩
  ·obtain rfl : i = n := by omega
   have HL := LH (hlast rfl)
   clear hlast
   go_wp2_with fail
   go_ret
   exact ⟨by rw [HL.out];rfl,rfl⟩
end Go.Proofs.YtplaamfoeaaaiaaGreatDoor
