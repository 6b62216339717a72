/- A part of the proofs of the laws of lifelinetop (TopNever, TopLost, TopRoom): contracts of functions that these laws reach. No condition of its own. -/
import Derived.Test.YtplaamfoeaaaiaaGreatDoorK02
import Derived.Test.YtplaamfoeaaaiaaGreatDoorK03
import Derived.Test.YtplaamfoeaaaiaaGreatDoorK04
import Derived.BigQuiet
import Derived.Deep.QuietTactic
import Derived.Deep.RegionLaw
import Derived.Deep.AppendLies
import Derived.Deep.DeepCutAuto
set_option maxRecDepth 100000
set_option maxHeartbeats 8000000
set_option linter.unusedVariables false
namespace Go.Proofs.YtplaamfoeaaaiaaGreatDoor
open Go.RowKit
def parts : Nat → List UInt8 → List (List UInt8)
 | 0,_ => []
 | f + 1,d => if d = [] then [] else (d.take 128 ++ List.replicate (128 - d.length) 26) :: parts f (d.drop 128)
theorem parts_fuel : ∀ (f : Nat) (d : List UInt8),d.length ≤ f → ∀ f',d.length ≤ f' → parts f d = parts f' d := by
 intro f
 induction f with
 | zero =>
  intro d h f' h'
  have : d = [] := List.eq_nil_of_length_eq_zero (by omega)
  subst this
  cases f' <;> simp [parts]
 | succ f ih =>
  intro d h f' h'
  cases f' with
  | zero =>
   have : d = [] := List.eq_nil_of_length_eq_zero (by omega)
   subst this
   simp [parts]
  | succ f' =>
   unfold parts
   split
   ·rfl
   ·rename_i hne
    have : 0 < d.length := List.length_pos_iff.2 hne
    rw [ih (d.drop 128) (by simp;omega) f' (by simp;omega)]
theorem split_parts (d : List UInt8) (large : Bool) (h : large = false ∨ d.length < 1024) : M.split d large = parts d.length d := by
 have main : ∀ (f : Nat) (d : List UInt8),(large = false ∨ d.length < 1024) → M.splitF large f d = parts f d := by
  intro f
  induction f with
  | zero => intro d _;rfl
  | succ f ih =>
   intro d h
   unfold M.splitF parts
   split
   ·rfl
   ·have hn : (if large = true ∧ 1024 ≤ d.length then 1024 else 128) = 128 := by
     rw [if_neg]
     rintro ⟨h1,h2⟩
     rcases h with h | h
     ·rw [h] at h1;cases h1
     ·omega
    simp only [hn]
    have hl : (d.take (min 128 d.length)).length = min 128 d.length := by simp
    have ht : d.take (min 128 d.length) = d.take 128 := by
     rcases Nat.le_total 128 d.length with h' | h'
     ·rw [Nat.min_eq_left h']
     ·rw [Nat.min_eq_right h',List.take_length,List.take_of_length_le h']
    have hd : d.drop (min 128 d.length) = d.drop 128 := by
     rcases Nat.le_total 128 d.length with h' | h'
     ·rw [Nat.min_eq_left h']
     ·rw [Nat.min_eq_right h',List.drop_length,List.drop_of_length_le h']
    rw [hl,ht,hd,ih _ (by
                 rcases h with h | h;· exact .inl h
                 ·right;simp;omega)]
    congr 2
    congr 1
    omega
 exact main d.length d h
theorem parts_len (f : Nat) (d : List UInt8) : ∀ p,p ∈ parts f d → p.length = 128 := by
 induction f generalizing d with
 | zero => intro p hp;simp [parts] at hp
 | succ f ih =>
  intro p hp
  unfold parts at hp
  split at hp
  ·simp at hp
  ·rcases List.mem_cons.1 hp with rfl | hp
   ·simp;omega
   ·exact ih _ p hp
structure Parts (w : World) (base : Nat) (ro : List Nat) (v : Value) (ps : List (List UInt8)) : Prop where
 own : ∃ us,w.ownsRow base 22 1 v ps.length us ∧ ∀ (j : Nat) p,ps[j]? = some p → ∃ u,us[j]? = some u ∧ Slc w ro u p
 lo : ∀ b,b ∈ ro → base ≤ b ∧ b < w.heap.size
 sep : ∀ g,v.ownBlock = some g → g ∉ ro
theorem Parts.of_only {w w' : World} {base : Nat} {ro ks : List Nat} {v : Value} {ps : List (List UInt8)} (h : Parts w base ro v ps) (ho : Only ks w w') (hk : ∀ b,b ∈ ks → b < base) : Parts w' base ro v ps := by
 obtain ⟨us,h1,h2⟩ := h.own
 refine ⟨⟨us,ownsRow_only h1 ho (fun g e hg => by have := hk g hg;have := (h1.lt g e).1;omega),fun j p hj => ?_⟩,fun b hb => ⟨(h.lo b hb).1,Nat.lt_of_lt_of_le (h.lo b hb).2 ho.size⟩,h.sep⟩
 obtain ⟨u,q1,q2⟩ := h2 j p hj
 exact ⟨u,q1,q2.of_only ho (fun b hb hc => by have := hk b hc;have := (h.lo b hb).1;omega)⟩
theorem Parts.slcs {w : World} {base : Nat} {ro : List Nat} {v : Value} {ps : List (List UInt8)} (h : Parts w base ro v ps) : ∃ a c,v = .slice a ps.length c ∧ Slcs w (ownL v ++ ro) a ps ∧ ps.length ≤ c := by
 obtain ⟨us,h1,h2⟩ := h.own
 obtain ⟨a,c,rfl⟩ := own_slice h1
 refine ⟨a,c,rfl,fun k b hk => ?_,?_⟩
 ·obtain ⟨u,q1,q2⟩ := h2 k b hk
  obtain ⟨g,rfl,q3,q4,q5⟩ := row_at h1 k u q1
  exact ⟨g,u,rfl,by simp [ownL,Value.ownBlock],q5,q2.more (by intro b hb;simp [hb])⟩
 ·rcases h1.2 with ⟨hv,h0⟩ | ⟨g,cap,cur,hv,hg,hh,hle,hm,_⟩
  ·omega
  ·simp only [Value.slice.injEq] at hv;omega
theorem Parts.push {w w1 : World} {base B1 n : Nat} {ro : List Nat} {v v' u : Value} {ps : List (List UInt8)} {p : List UInt8} {o : Obj} (h : Parts w base ro v ps) (hu : RowB w u p) (hlo : ∀ g,u.ownBlock = some g → B1 ≤ g) (hv : ∀ g,v.ownBlock = some g → g < B1) (hb : base ≤ B1) (hg : (w.alloc o).grownBy w1 v.ownBlock) (hat : ∀ g,v'.ownBlock = some g → v.ownBlock = some g ∨ w.heap.size ≤ g) (us0 : List Value) (hown : w1.ownsRow base 22 1 v' n (us0 ++ [u])) (hn : n = ps.length + 1) (hus0 : w.ownsRow base 22 1 v ps.length us0) (hus1 : ∀ (j : Nat) q,ps[j]? = some q → ∃ u,us0[j]? = some u ∧ Slc w ro u q) :
  Parts w1 base (ro ++ ownL u) v' (ps ++ [p]) := by
 have o1 : Only (ownL v) w w1 := ((Only.refl _ w).alloc o).trans (only_grown hg)
 subst hn
 have hul := hu.live
 refine ⟨⟨us0 ++ [u],by simpa using hown,fun j q hj => ?_⟩,fun b hb' => ?_,fun g e hg' => ?_⟩
 ·have hl : us0.length = ps.length := by have := hus0.1;omega
  rcases Nat.lt_trichotomy j ps.length with hlt | heq | hgt
  ·rw [List.getElem?_append_left hlt] at hj
   obtain ⟨x,q1,q2⟩ := hus1 j q hj
   refine ⟨x,by rw [List.getElem?_append_left (by omega)];exact q1,(q2.of_only o1 (fun b hb hc => h.sep b (mem_ownL.1 hc) hb)).more (by intro b hb;simp [hb])⟩
  ·subst heq
   simp at hj
   subst hj
   refine ⟨u,by rw [← hl];simp,(hu.slc.of_only o1 (fun b hb hc => ?_)).more (by intro b hb;simp [hb])⟩
   have h1 := hlo b (mem_ownL.1 hb)
   have h2 := hv b (mem_ownL.1 hc)
   omega
  ·rw [List.getElem?_eq_none (by simp;omega)] at hj;cases hj
 ·rcases List.mem_append.1 hb' with h' | h'
  ·exact ⟨(h.lo b h').1,Nat.lt_of_lt_of_le (h.lo b h').2 o1.size⟩
  ·exact ⟨Nat.le_trans hb (hlo b (mem_ownL.1 h')),Nat.lt_of_lt_of_le (hul b (mem_ownL.1 h')) o1.size⟩
 ·rcases List.mem_append.1 hg' with h' | h'
  ·rcases hat g e with h2 | h2
   ·exact h.sep g h2 h'
   ·have := (h.lo g h').2;omega
  ·have h3 := hlo g (mem_ownL.1 h')
   rcases hat g e with h2 | h2
   ·have := hv g h2;omega
   ·have := hul g (mem_ownL.1 h');omega
theorem Tryz.info22 : (Tryz.prog.info? 22).map (fun i => (i.zero,i.size,i.bytes)) = some (some (.slice none 0 0),1,24) := by kernel_rfl
theorem parts_one (d : List UInt8) (h : 0 < d.length) : parts d.length d = (d.take 128 ++ List.replicate (128 - d.length) 26) :: parts (d.drop 128).length (d.drop 128) := by
 have hne : d ≠ [] := by intro e;rw [e] at h;simp at h
 obtain ⟨f,hf⟩ : ∃ f,d.length = f + 1 := ⟨d.length - 1,by omega⟩
 rw [hf]
 show (if d = [] then [] else _) = _
 rw [if_neg hne,parts_fuel f (d.drop 128) (by simp;omega) (d.drop 128).length (Nat.le_refl _),← hf]
theorem split_any (a0 : Option Addr) (n0 c0 : Nat) (large : Bool) (d0 : List UInt8) (w : World) (hb : Bytes w a0 d0) (hn : d0.length = n0) (hc : n0 ≤ c0) (hm : c0 ≤ 9223372036854775807) (hnil : a0 = none → c0 = 0) (ha : ∀ ad,a0 = some ad → ad.block < w.heap.size) (hl : n0 < 1024) :
  Calls Tryz.prog 90 #[.slice a0 n0 c0,.bool large] w fun e w' => ∃ v ro,e = .returned v ∧ Parts w' w.heap.size ro v (parts n0 d0) ∧ Only [] w w' := by
 have HB := LH (AI hb (AI hn (AI hnil ha)))
 have hpd : parts d0.length d0 = parts n0 d0 := by rw [hn]
 have HPD := LH hpd
 clear hb hn hnil ha hpd
 go_enter Tryz.func90,Tryz.ntmps90
 go_wp2_with fail
 go_loopw [0,5] (fun s0 s5 wr => ∃ (ds : List UInt8) (done : List (List UInt8)) (a : Option Addr) (m c : Nat) (ro : List Nat),s0 = .slice a m c ∧ ds.length = m ∧ m ≤ n0 ∧ Bytes wr a ds ∧ (a = none → c = 0) ∧ m ≤ c ∧ c ≤ 9223372036854775807 ∧ (∀ ad,a = some ad → ad.block < w.heap.size) ∧ Parts wr w.heap.size ro s5 done ∧ Only [] w wr ∧ done ++ parts ds.length ds = parts n0 d0 ∧ done.length + m ≤ n0) (fun s0 _ _ => match s0 with | .slice _ m _ => m | _ => 0)
 case atStart =>
  exact ⟨d0,[],a0,n0,c0,[],rfl,HB.out.2.1,Nat.le_refl _,HB.out.1,HB.out.2.2.1,hc,hm,HB.out.2.2.2,⟨⟨[],World.ownsRow_nil _ _ _ _,fun j p hj => by simp at hj⟩,fun b hb => by simp at hb,fun g e => by simp [Value.ownBlock] at e⟩,Only.refl _ _,by rw [← HPD.out];rfl,by simp⟩
 case round =>
  obtain ⟨ds,done,a,m,c,ro,rfl,hdm,hmn,hby,hnil,hmc,hcm,hal,hpa,ho,heq,hcnt⟩ := hrel
  by_cases hm0 : 0 < m
  ·obtain ⟨B,o,rfl,_⟩ := hby.at 0 (by omega)
   obtain ⟨q,hq⟩ : ∃ q,q = min 128 m := ⟨_,rfl⟩
   have hmin : (if (m : Int) < 128 then (m : Int) else 128) = (q : Int) := by split <;> omega
   have hq1 : 1 ≤ q := by omega
   have hqm : q ≤ m := by omega
   have hq8 : q ≤ 128 := by omega
   have hhd := fun w => run_head Tryz.prog w 22 (some ⟨B,o,none⟩) m c q Tryz.elem22 1 Tryz.size5 (by omega) .i64
   obtain ⟨A',hA'⟩ : ∃ A',A' = (if c = q then some ⟨B,o,none⟩ else (some ⟨B,o,none⟩ : Option Addr).map (·.add (q * 1))) := ⟨_,rfl⟩
   have htl := fun w => run_tail Tryz.prog w 22 (some ⟨B,o,none⟩) m c q Tryz.elem22 1 Tryz.size5 (by omega) .i64
   simp only [← hA'] at htl
   have hby' : Bytes wr A' (ds.drop q) := by rw [hA'];exact hby.tail q c (by omega) (by omega)
   have hbh := hby.head q
   have hdl : ds.length = m := hdm
   have hpo := parts_one ds (by omega)
   have e1 : ds.take 128 = ds.take q := by
    rcases Nat.le_total 128 m with h' | h'
    ·rw [hq,Nat.min_eq_left h']
    ·rw [hq,Nat.min_eq_right h',← hdl,List.take_length,List.take_of_length_le (by omega)]
   have e2 : ds.drop 128 = ds.drop q := by
    rcases Nat.le_total 128 m with h' | h'
    ·rw [hq,Nat.min_eq_left h']
    ·rw [hq,Nat.min_eq_right h',← hdl,List.drop_length,List.drop_of_length_le (by omega)]
   have e3 : 128 - ds.length = 128 - q := by omega
   rw [e1,e2,e3] at hpo
   rw [hpo] at heq
   have htn : A' = none → c - q = 0 := by intro h;rw [hA'] at h;split at h <;> simp at h
   have hA'l : ∀ ad,A' = some ad → ad.block < w.heap.size := by
    intro ad h
    rw [hA'] at h
    split at h
    ·cases h;exact hal _ rfl
    ·simp at h;subst h;rw [add_block];exact hal _ rfl
   have hlg : large = false ∨ decide ((m : Int) ≥ 1024) = false := .inr (by simp;omega)
   have d0 : decide ((m : Int) > 0) = true := by simp;omega
   have d1 : decide ((m : Int) ≥ 1024) = false := by simp;omega
   have hdm2 : (ds.drop q).length = m - q := by simp;omega
   have htk : (ds.take q).length = q := by simp;omega
   have HX := LH (AI hpa (AI ho (AI heq (AI hby' (AI hbh (AI htn (AI hA'l (AI hdm2 htk))))))))
   have hwr := ho.size
   clear hpa ho heq hby' hbh htn hA'l hdm2 htk hby hnil hal hdm hpo e1 e2 e3 hq hA' hdl hlg
   obtain ⟨i5,h50,h51,h52,h53⟩ := info_parts Tryz.info5
   obtain ⟨i22,g0,g1,g2,g3⟩ := info_parts Tryz.info22
   have HI := LH (AI (AI h50 (AI h51 (AI h52 h53))) (AI g0 (AI g1 (AI g2 g3))))
   clear h50 h51 h52 h53 g0 g1 g2 g3
   cases large
   all_goals
    go_wp2_with (at_builtin;go_loud (refine wpList_appAt _ rfl (.const (.slice none 0 0)) (.tmp 22) rfl wr.heap.size (.slice none 0 0) 0 [] rfl (World.ownsRow_nil _ _ _ _) (some ⟨B,o,none⟩) q c (ds.take q) rfl HX.out.2.2.2.2.1 HX.out.2.2.2.2.2.2.2.2 (by intro e;cases e) (ds.take q) rfl q (Nat.zero_add _) (by omega) (Nat.le_refl _) ?_);intro a' c' w1 q1 q2 q3;have ho1 : Only [] wr w1 := (only_grown q2).weaken (by simp [Value.ownBlock]);have H1 := LH (AI q1 ho1);clear q1 q2 q3 ho1)
    clear hhd htl
    obtain ⟨S0,hS0⟩ : ∃ S0,S0 = wr.heap.size := ⟨_,rfl⟩
    have HS0 := LH hS0
    rw [← hS0] at hwr
    go_loopw [7] (fun s7 wi => ∃ k av cv,s7 = .slice av k cv ∧ q ≤ k ∧ k ≤ 128 ∧ wi.ownsRow S0 5 1 s7 k ((ds.take q ++ List.replicate (k - q) 26).map byteV) ∧ Only [] wr wi) (fun s7 _ => match s7 with | .slice _ k _ => 128 - k | _ => 0)
    case atStart => exact ⟨q,a',c',rfl,Nat.le_refl _,hq8,by rw [Nat.sub_self,HS0.out];simpa using H1.out.1,H1.out.2⟩
    case round =>
     obtain ⟨k,av,cv,rfl,hqk,hk8,hrow,hoi⟩ := hrel
     have hS1 : S0 ≤ wr.heap.size := by rw [HS0.out];exact hoi.size
     by_cases hk : k < 128
     ·have hk' : ((k : Int) < 128) = True := by simp;omega
      have HR := LH (AI hrow hoi)
      clear hrow hoi hS0
      obtain ⟨⟨h50,h51,h52,h53⟩,_⟩ := HI.out
      go_wp2_with (at_builtin;go_loud (refine wpList_push _ rfl (.tmp 32) (.tmp 33) 22 5 rfl i5 (.int .u8 0) 1 Tryz.underlying22 h50 h51 h52 h53 rfl S0 (.slice av k cv) k _ rfl (HR.out.1.alloc _) wr.heap.size (.int .u8 26) rfl (World.cell?_alloc_at _ _ _ _ rfl) rfl (by unfold maxLen;omega) (by omega) (by simp;omega) ?_);intro v' w2 q1 q2 q3)
      obtain ⟨a2,c2,rfl⟩ := own_slice q1
      refine ⟨⟨k + 1,a2,c2,rfl,by omega,by omega,?_,(HR.out.2.alloc _).grown q2 (fun b hb => .inr (by have := (HR.out.1.lt b hb).1;rw [HS0.out] at this;exact this))⟩,by simp;omega⟩
      have e : k + 1 - q = (k - q) + 1 := by omega
      rw [e,List.replicate_succ',← List.append_assoc,List.map_append]
      exact q1
     ·obtain rfl : k = 128 := by omega
      have hpa' := HX.out.1.of_only hoi (by simp)
      obtain ⟨us0,hus0,hus1⟩ := hpa'.own
      have hpl : (ds.take q ++ List.replicate (128 - q) 26).length = 128 := by simp [HX.out.2.2.2.2.2.2.2.2];omega
      have hrb : RowB wr (.slice av 128 cv) (ds.take q ++ List.replicate (128 - q) 26) := by unfold RowB;rw [hpl];exact ownsRow_base hrow (Nat.zero_le _)
      have HR := LH (AI hrow (AI hoi (AI hpa' (AI hus0 (AI hus1 hrb)))))
      clear hrow hoi hS0 hpa' hus0 hus1 hrb hpl
      obtain ⟨_,⟨g0,g1,g2,g3⟩⟩ := HI.out
      go_wp2_with (at_builtin;go_loud (refine wpList_push _ rfl (.tmp 35) (.tmp 37) 26 22 rfl i22 (.slice none 0 0) 24 Tryz.underlying26 g0 g1 g2 g3 rfl w.heap.size u5 done.length us0 rfl (HR.out.2.2.2.1.alloc _) wr.heap.size (.slice av 128 cv) rfl (World.cell?_alloc_at _ _ _ _ rfl) rfl (by unfold maxLen;omega) (by omega) (by simp;omega) ?_);intro v' w3 q1 q2 q3)
      have o3 : Only [] w w3 := ((HX.out.2.1.trans HR.out.2.1).alloc _).grown q2 (fun b hb => .inr ((HR.out.2.2.2.1.lt b hb).1))
      have oo3 : Only (ownL u5) wr w3 := ((Only.refl _ wr).alloc _).trans (only_grown q2)
      have hp3 := HR.out.2.2.1.push (B1 := S0) (n := done.length + 1) (p := ds.take q ++ List.replicate (128 - q) 26) HR.out.2.2.2.2.2 (fun g e => (HR.out.1.lt g e).1) (fun g e => by obtain ⟨us,h1,_⟩ := HX.out.1.own;rw [HS0.out];exact (h1.lt g e).2) hwr q2 (fun g e => (q3 g e).imp id (by intro h;simp at h;omega)) us0 q1 rfl HR.out.2.2.2.1 HR.out.2.2.2.2.1
      obtain ⟨h1,h2,h3,h4,h5,h6,h7,h8,h9⟩ := HX.out
      refine ⟨⟨ds.drop q,done ++ [ds.take q ++ List.replicate (128 - q) 26],A',m - q,c - q,_,rfl,h8,by omega,?_,h6,by omega,by omega,h7,hp3,o3,?_,by simp;omega⟩,by simp;omega⟩
      ·exact (h4.of_only HR.out.2.1 (.inr (by intro ad e;simp))).of_only oo3 (.inr fun ad e hb => by
        have h10 := h7 ad e
        have h11 := (HR.out.2.2.2.1.lt _ (mem_ownL.1 hb)).1
        omega)
      ·rw [List.append_assoc,← h3];rfl
  ·obtain rfl : m = 0 := by omega
   have hds : ds = [] := List.eq_nil_of_length_eq_zero hdm
   have HX := LH (AI hpa (AI ho (AI heq hds)))
   clear hpa ho heq hds hby hnil hal hdm
   go_wp2_with fail
   go_ret
   refine ⟨_,ro,rfl,?_,HX.out.2.1⟩
   have h1 := HX.out.2.2.1
   rw [HX.out.2.2.2] at h1
   have h2 : done = parts n0 d0 := by simpa [parts] using h1
   rw [← h2]
   exact HX.out.1
def rcvA (r : M.Rcv) (vb vd : Value) : Array Value :=
 #[.bool r.crc,.int .i64 r.wait,.int .i64 r.tries,.int .i64 r.left,byteV r.number,.bool r.begun,.bool r.close,vb,vd,.int .i64 r.blocks,.int .i64 r.want,.bool r.over,errV r.err]
structure Rcved (w : World) (R : Nat) (vb vd : Value) (r : M.Rcv) : Prop where
 str : w.heap[R]? = some (.cells (rcvA r vb vd) 308 (0,0))
 buf : RowB w vb r.buffer
 dat : RowB w vd r.data
 sb : vb.ownBlock ≠ some R
 sd : vd.ownBlock ≠ some R
 sbd : ∀ g,vb.ownBlock = some g → vd.ownBlock ≠ some g
 wt : 1 ≤ r.wait ∧ r.wait ≤ 99
 tr : r.tries ≤ 9
 lf : 1 ≤ r.left ∧ r.left ≤ 99
 bl : r.buffer.length ≤ 1099511627776
 dl : r.data.length ≤ 1099511627776
 kl : r.blocks ≤ 1099511627776
abbrev rfp (R : Nat) (vb vd : Value) : List Nat := R :: (ownL vb ++ ownL vd)
theorem Rcved.live {w : World} {R : Nat} {vb vd : Value} {r : M.Rcv} (h : Rcved w R vb vd r) : Live w (rfp R vb vd) := by
 intro b hb
 simp only [rfp,List.mem_cons,List.mem_append,mem_ownL] at hb
 rcases hb with rfl | hb | hb
 ·exact heap_lt h.str
 ·exact h.buf.live b hb
 ·exact h.dat.live b hb
theorem Rcved.of_only {w w' : World} {R : Nat} {vb vd : Value} {r : M.Rcv} {ks : List Nat} (h : Rcved w R vb vd r) (ho : Only ks w w') (hs : Sep (rfp R vb vd) ks) : Rcved w' R vb vd r :=
 ⟨ho.heap h.str (hs R (by simp [rfp])),ownsRow_only h.buf ho (fun g e => hs g (by simp [rfp,e])),ownsRow_only h.dat ho (fun g e => hs g (by simp [rfp,e])),h.sb,h.sd,h.sbd,h.wt,h.tr,h.lf,h.bl,h.dl,h.kl⟩
theorem Rcved.of_none {w w' : World} {R : Nat} {vb vd : Value} {r : M.Rcv} (h : Rcved w R vb vd r) (ho : Only [] w w') : Rcved w' R vb vd r := h.of_only ho (fun b _ => by simp)
def RPost (w : World) (R : Nat) (vb vd : Value) (r : M.B × M.Rcv) (x : Ending) (w' : World) : Prop :=
 ∃ v vb' vd',x = .returned v ∧ Out w w' v r.1 ∧ Rcved w' R vb' vd' r.2 ∧ Ev w w' (rfp R vb vd) (rfp R vb' vd') ∧ ∀ g,v.ownBlock = some g → g ∉ rfp R vb' vd'
theorem rdone_any (R : Nat) (vb vd : Value) (r : M.Rcv) (w : World) (h : Rcved w R vb vd r) :
  Calls Tryz.prog 248 #[.pointer (some ⟨R,0,none⟩)] w fun e w' => e = .returned (.tuple #[.bool r.over,errV r.err]) ∧ Only [] w w' := by
 have c11 : w.cell? ⟨R,11,none⟩ = some (.bool r.over) := cell_at h.str rfl
 have c12 : w.cell? ⟨R,12,none⟩ = some (errV r.err) := cell_at h.str rfl
 have ho : ∀ n,Only [] w (w.drewN n) := fun n => only_drewN [] w n
 have HO := LH ho
 clear h ho
 go_enter Tryz.func248,Tryz.ntmps248
 go_wp2_with fail
 go_quiet (fail)
 go_wp2_with fail
 go_ret2
 exact ⟨rfl,HO.out _⟩
theorem rdata_any (R : Nat) (vb vd : Value) (r : M.Rcv) (w : World) (h : Rcved w R vb vd r) :
  Calls Tryz.prog 250 #[.pointer (some ⟨R,0,none⟩)] w fun e w' => ∃ v,e = .returned v ∧ Out w w' v r.data ∧ Only [] w w' := by
 have hdl := h.dl
 obtain ⟨a,c,rfl,hb,h1,h2,h3,_⟩ := h.dat.slc
 have c8 : w.cell? ⟨R,8,none⟩ = some (.slice a r.data.length c) := cell_at h.str rfl
 have HB := LH (AI hb h3)
 clear h hb h1 h2 h3
 go_enter Tryz.func250,Tryz.ntmps250
 go_wp2_with (at_builtin;refine wpList_appAt _ rfl (.const (.slice none 0 0)) (.tmp 6) rfl w.heap.size (.slice none 0 0) 0 [] rfl (World.ownsRow_nil _ _ _ _) a r.data.length c r.data rfl HB.out.1 rfl HB.out.2 r.data rfl r.data.length (Nat.zero_add _) (by omega) (Nat.le_refl _) ?_;intro a' c' w1 q1 q2 q3)
 go_ret
 exact ⟨_,rfl,q1,(only_grown q2).weaken (by simp [Value.ownBlock])⟩
theorem rend_any (R : Nat) (vb vd : Value) (r : M.Rcv) (e : Nat) (ev : Value) (a : Option Addr) (n c : Nat) (w : World) (h : Rcved w R vb vd r) (he : ev = errV e) :
  Calls Tryz.prog 253 #[.pointer (some ⟨R,0,none⟩),ev,.slice a n c] w fun x w' => x = .returned (.slice a n c) ∧ Rcved w' R vb vd { r with over := true,err := e } ∧ Only [R] w w' := by
 have c11 : w.cell? ⟨R,11,none⟩ = some (.bool r.over) := cell_at h.str rfl
 have c12 : w.cell? ⟨R,12,none⟩ = some (errV r.err) := cell_at h.str rfl
 have f11 : w.frozen? ⟨R,11,none⟩ = false := free_at h.str
 have f12 : w.frozen? ⟨R,12,none⟩ = false := free_at h.str
 have hfin : ∀ w',w'.heap[R]? = some (.cells (rcvA { r with over := true,err := e } vb vd) 308 (0,0)) → Only [R] w w' → Rcved w' R vb vd { r with over := true,err := e } := fun w' q o =>
  ⟨q,ownsRow_only h.buf o (fun g e hg => by simp at hg;subst hg;exact h.sb e),ownsRow_only h.dat o (fun g e hg => by simp at hg;subst hg;exact h.sd e),h.sb,h.sd,h.sbd,h.wt,h.tr,h.lf,h.bl,h.dl,h.kl⟩
 have HF := LH (AI h.str hfin)
 clear h hfin
 by_cases e0 : e = 0
 ·subst e0
  obtain rfl : ev = .nilIface := he
  have ho : Only [R] w ((w.setCell ⟨R,11,none⟩ (.bool true)).setCell ⟨R,12,none⟩ .nilIface) := ((Only.refl _ _).setCell (by simp) _).setCell (by simp) _
  go_enter Tryz.func253,Tryz.ntmps253
  go_wp2_with fail
  go_ret
  exact ⟨rfl,HF.out.2 _ (hs_same (hs_same HF.out.1 rfl) rfl) ho,ho⟩
 ·rw [errV_pos (by omega)] at he
  subst he
  have ho : Only [R] w ((w.setCell ⟨R,11,none⟩ (.bool true)).setCell ⟨R,12,none⟩ (.iface 57 (.int .i64 e))) := ((Only.refl _ _).setCell (by simp) _).setCell (by simp) _
  have hv : Hid (errV e = .iface 57 (.int .i64 e)) := errV_pos (by omega)
  clear e0
  go_enter Tryz.func253,Tryz.ntmps253
  go_wp2_with fail
  go_ret
  exact ⟨rfl,HF.out.2 _ (by unfold rcvA;rw [hv.out];exact hs_same (hs_same HF.out.1 rfl) rfl) ho,ho⟩
theorem rask_any (R : Nat) (vb vd : Value) (r : M.Rcv) (w : World) (h : Rcved w R vb vd r) :
  Calls Tryz.prog 256 #[.pointer (some ⟨R,0,none⟩)] w fun e w' => e = .returned (byteV r.ask) ∧ w = w' := by
 have c0 : w.cell? ⟨R,0,none⟩ = some (.bool r.crc) := cell_at h.str rfl
 have c5 : w.cell? ⟨R,5,none⟩ = some (.bool r.begun) := cell_at h.str rfl
 have ha : r.ask = if r.crc = true ∧ r.begun = false then 67 else 21 := by simp [M.Rcv.ask]
 have HA := LH ha
 clear h ha
 cases hc : r.crc with
 | false =>
  rw [hc] at c0
  have HN : Hid (r.ask = 21) := by rw [HA.out,hc];exact rfl
  clear hc
  go_enter Tryz.func256,Tryz.ntmps256
  go_wp2_with fail
  go_ret
  exact ⟨by rw [HN.out];rfl,rfl⟩
 | true =>
  rw [hc] at c0
  cases hb : r.begun with
  | false =>
   rw [hb] at c5
   have HN : Hid (r.ask = 67) := by rw [HA.out,hc,hb];exact rfl
   clear hc hb
   go_enter Tryz.func256,Tryz.ntmps256
   go_wp2_with fail
   go_ret
   exact ⟨by rw [HN.out];rfl,rfl⟩
  | true =>
   rw [hb] at c5
   have HN : Hid (r.ask = 21) := by rw [HA.out,hc,hb];exact rfl
   clear hc hb
   go_enter Tryz.func256,Tryz.ntmps256
   go_wp2_with fail
   go_ret
   exact ⟨by rw [HN.out];rfl,rfl⟩
theorem bump {w : World} {D base g cap mode n f s : Nat} {pre : List Seg} (hstr : w.heap[D]? = some (.cells #[.int .i64 mode,.int .i64 n,.slice (some ⟨g,0,none⟩) (pre.length + 1) cap] 152 (0,0))) (hown : w.ownsRow base 243 3 (.slice (some ⟨g,0,none⟩) (pre.length + 1) cap) (pre.length + 1) (segCells pre ++ [.int .i64 mode,.int .i64 f,.int .i64 s])) (hlt : D < base) (hle : base ≤ w.heap.size) (hn : n + 1 ≤ 1099511627776) (hcnt : pre.length ≤ n) (hfit : ∀ x,x ∈ pre → x.f + x.s ≤ n) (hf : f + s ≤ n) :
  Demuxed ((w.setCell ⟨g,pre.length * 3 + 2,none⟩ (.int .i64 ((s : Int) + 1))).setCell ⟨D,1,none⟩ (.int .i64 ((n : Int) + 1))) D base (.slice (some ⟨g,0,none⟩) (pre.length + 1) cap) mode (n + 1) (pre ++ [⟨mode,f,s + 1⟩]) := by
 have hg := hown.lt g rfl
 have hst := (hown.stored (pre.length * 3 + 2) (.int .i64 ((s : Int) + 1))).1
 rw [segCells_set] at hst
 have hst2 := ownsRow_only hst (only_set _ D 1 (.int .i64 ((n : Int) + 1))) (fun g' e => by simp [Value.ownBlock] at e;simp;omega)
 refine ⟨?_,?_,hlt,by simpa using hle,hn,by simp;omega,?_⟩
 ·have h1 : (w.setCell ⟨g,pre.length * 3 + 2,none⟩ (.int .i64 ((s : Int) + 1))).heap[D]? = _ := (heap_set_other (show D ≠ g by omega)).trans hstr
  rw [heap_set_same h1]
  simp
 ·have e1 : (pre ++ [(⟨mode,f,s + 1⟩ : Seg)]).length = pre.length + 1 := by simp
  rw [e1,segCells_append]
  exact hst2
 ·intro x hx
  rcases List.mem_append.1 hx with h | h
  ·have := hfit x h;omega
  ·simp at h;subst h;simp only;omega
theorem own_form {w : World} {base : Nat} {v : Value} {n : Nat} {xs : List Value} (h : w.ownsRow base 243 3 v n xs) (hn : 0 < n) : ∃ g c,v = .slice (some ⟨g,0,none⟩) n c ∧ base ≤ g ∧ g < w.heap.size ∧ n ≤ c := by
 rcases h.2 with ⟨_,h0⟩ | ⟨g,c,cur,hv,hg,hh,hle,_⟩
 ·omega
 ·exact ⟨g,c,hv,hg,(Array.getElem?_eq_some_iff.1 hh).1,hle⟩
theorem put_same (D base g cap mode n f s K : Nat) (pre : List Seg) (c : Int) (w : World) (hK : pre.length = K) (h : Demuxed w D base (.slice (some ⟨g,0,none⟩) (K + 1) cap) mode n (pre ++ [⟨mode,f,s⟩])) (hn : n + 1 ≤ 1099511627776) :
  Calls Tryz.prog 93 #[.pointer (some ⟨D,0,none⟩),.int .u8 c] w fun e w' => e = .returned (.int .i64 mode) ∧ Demuxed w' D base (.slice (some ⟨g,0,none⟩) (K + 1) cap) mode (n + 1) (pre ++ [⟨mode,f,s + 1⟩]) ∧ Only [D,g] w w' := by
 have hown := h.own
 have hln : (pre ++ [(⟨mode,f,s⟩ : Seg)]).length = K + 1 := by simp [hK]
 rw [hln,segCells_append] at hown
 have hget := segCells_get (pre ++ [⟨mode,f,s⟩]) K ⟨mode,f,s⟩ (by rw [← hK];simp)
 rw [segCells_append] at hget
 have hfs : f + s ≤ n := h.fit ⟨mode,f,s⟩ (by simp)
 have hfit : ∀ x,x ∈ pre → x.f + x.s ≤ n := fun x hx => h.fit x (by simp [hx])
 have hcnt : K + 1 ≤ n := by have := h.cnt;rw [hln] at this;exact this
 have hb : Demuxed ((w.setCell ⟨g,K * 3 + 2,none⟩ (.int .i64 ((s : Int) + 1))).setCell ⟨D,1,none⟩ (.int .i64 ((n : Int) + 1))) D base (.slice (some ⟨g,0,none⟩) (K + 1) cap) mode (n + 1) (pre ++ [⟨mode,f,s + 1⟩]) := by
  subst hK
  exact bump h.str hown h.lt h.le hn (by omega) hfit hfs
 have c0 : w.cell? ⟨D,0,none⟩ = some (.int .i64 mode) := cell_at h.str rfl
 have c1 : w.cell? ⟨D,1,none⟩ = some (.int .i64 n) := cell_at h.str rfl
 have c2 : w.cell? ⟨D,2,none⟩ = some (.slice (some ⟨g,0,none⟩) (K + 1) cap) := cell_at h.str rfl
 have f1 : w.frozen? ⟨D,1,none⟩ = false := free_at h.str
 have r0 : w.cell? ⟨g,K * 3,none⟩ = some (.int .i64 mode) := (hown.cellAt (K * 3) (by omega)).trans hget.1
 have r2 : w.cell? ⟨g,K * 3 + 2,none⟩ = some (.int .i64 s) := (hown.cellAt (K * 3 + 2) (by omega)).trans hget.2.2
 have fr : w.frozen? ⟨g,K * 3 + 2,none⟩ = false := hown.frozenAt _
 have hgl := hown.lt g rfl
 have hDg : D ≠ g := by have := h.lt;omega
 have hk0 : decide ((K : Int) < 0) = false := by simp
 have hk1 : (0 : Int) ≤ (K : Int) := Int.natCast_nonneg _
 have hk2 : (K : Int) < ((K + 1 : Nat) : Int) := by omega
 have hkb : K ≤ 1099511627776 := by omega
 have hsb : s ≤ 1099511627776 := by omega
 have HB := LH hb
 clear h hown hln hget hfit hcnt hb hgl hK
 go_enter Tryz.func93,Tryz.ntmps93
 go_wp2
 go_quiet (fail)
 go_wp2
 go_ret
 exact ⟨rfl,HB.out.drewN _,(((Only.refl _ _).setCell (by simp) _).setCell (by simp) _).drewN _⟩
def Mid (w : World) (D base : Nat) (v : Value) (mode n : Nat) (ss : List Seg) (wx : World) : Prop :=
 ∃ g cp,wx.heap[D]? = some (.cells #[.int .i64 mode,.int .i64 n,.slice (some ⟨g,0,none⟩) (ss.length + 1) cp] 152 (0,0)) ∧
  wx.ownsRow base 243 3 (.slice (some ⟨g,0,none⟩) (ss.length + 1) cp) (ss.length + 1) (segCells ss ++ [.int .i64 mode,.int .i64 n,.int .i64 (0 : Nat)]) ∧
  Only (D :: v.ownBlock.toList) w wx ∧ (v.ownBlock = some g ∨ w.heap.size ≤ g)
theorem mid_of {w wa w1 : World} {D base g cp mode n : Nat} {v : Value} {ss : List Seg} (h : Demuxed w D base v mode n ss) (ha : Only (D :: v.ownBlock.toList) w wa) (hda : wa.heap[D]? = w.heap[D]?) (hown : w1.ownsRow base 243 3 (.slice (some ⟨g,0,none⟩) (ss.length + 1) cp) (ss.length + 1) (segCells ss ++ [.int .i64 mode,.int .i64 n,.int .i64 0])) (hgrow : wa.grownBy w1 v.ownBlock) (hat : v.ownBlock = some g ∨ g = wa.heap.size) :
  Mid w D base v mode n ss (w1.setCell ⟨D,2,none⟩ (.slice (some ⟨g,0,none⟩) (ss.length + 1) cp)) := by
 have hb := h.blk
 have hlt := h.lt
 have hsz := ha.size
 have hDs : D < w.heap.size := (Array.getElem?_eq_some_iff.1 h.str).1
 have hvD : some D ≠ v.ownBlock := fun e => by have := hb D e.symm;omega
 have hg := hown.lt g rfl
 have h1 : w1.heap[D]? = some (.cells #[.int .i64 mode,.int .i64 n,v] 152 (0,0)) := by rw [hgrow.block D (by omega) hvD,hda];exact h.str
 refine ⟨g,cp,?_,?_,?_,hat.imp id (fun e => by omega)⟩
 ·rw [heap_set_same h1];simp
 ·exact ownsRow_only hown (only_set w1 D 2 _) (fun g' e => by simp [Value.ownBlock] at e;simp;omega)
 ·exact (ha.grown hgrow (fun k hk => .inl (by simp [hk]))).setCell (by simp) _
theorem far_cell {w w1 : World} {o : Obj} {row : Option Nat} {D i : Nat} {v : Value} (hg : (w.alloc o).drew.grownBy w1 row) (hD : D < w.heap.size) (hv : row ≠ some D) (h : w.cell? ⟨D,i,none⟩ = some v) : w1.cell? ⟨D,i,none⟩ = some v :=
 (hg.cell_far ⟨D,i,none⟩ (by simp;omega) (Ne.symm hv)).trans ((World.cell?_alloc_past _ _ _ hD).trans h)
theorem far_frozen {w w1 : World} {o : Obj} {row : Option Nat} {D i : Nat} (hg : (w.alloc o).drew.grownBy w1 row) (hD : D < w.heap.size) (hv : row ≠ some D) (h : w.frozen? ⟨D,i,none⟩ = false) : w1.frozen? ⟨D,i,none⟩ = false :=
 (hg.frozen_far ⟨D,i,none⟩ (by simp;omega) (Ne.symm hv)).trans ((World.frozen?_alloc_past _ _ _ hD).trans h)
theorem put_new (D base : Nat) (a : Option Addr) (cp mode n K : Nat) (ss : List Seg) (c : Int) (w : World) (hK : ss.length = K) (h : Demuxed w D base (.slice a K cp) mode n ss) (hn : n + 1 ≤ 1099511627776) (hm : ∀ l,ss.getLast? = some l → l.m ≠ mode) :
  Calls Tryz.prog 93 #[.pointer (some ⟨D,0,none⟩),.int .u8 c] w fun e w' => ∃ g cap,e = .returned (.int .i64 mode) ∧ Demuxed w' D base (.slice (some ⟨g,0,none⟩) (K + 1) cap) mode (n + 1) (ss ++ [⟨mode,n,1⟩]) ∧ Only (D :: (Value.slice a K cp).ownBlock.toList) w w' ∧ ((Value.slice a K cp).ownBlock = some g ∨ w.heap.size ≤ g) := by
 obtain ⟨i0,hi,hz0,hz1,hz2⟩ := info_parts Tryz.info243
 have HI := LH (AI hi (AI hz0 (AI hz1 hz2)))
 have c0 : w.cell? ⟨D,0,none⟩ = some (.int .i64 mode) := cell_at h.str rfl
 have c2 : w.cell? ⟨D,2,none⟩ = some (.slice a K cp) := cell_at h.str rfl
 have hcnt := h.cnt
 rw [hK] at hcnt
 have hkb : K ≤ 1099511627776 := by omega
 obtain ⟨P,hP⟩ : ∃ P : Int,(K : Int) - 1 = P := ⟨_,rfl⟩
 have HPm := LH hP
 have HK := LH hK
 have H := LH h
 have HM := LH hm
 clear h hm hK hi hz0 hz1 hz2 hcnt
 go_enter Tryz.func93,Tryz.ntmps93
 go_upto_region 2 with fail
 go_cut [28] (fun s28 wx => s28 = .bool true ∧ ∃ k,wx = w.drewN k)
 case first =>
  rcases List.eq_nil_or_concat ss with hss | ⟨pre,l,hss⟩
  ·have hk0 : decide (P < 0) = true := by
    have h1 := HPm.out
    have h2 := HK.out
    rw [hss] at h2
    simp at h2
    simp;omega
   clear hP hss
   go_quiet (fail)
   go_wp2_with fail
   go_meet
   exact ⟨rfl,_,rfl⟩
  ·have h1 := HPm.out
   have h2 := HK.out
   rw [hss] at h2
   simp at h2
   have hm := HM.out l (by rw [hss];simp)
   have h := H.out
   have hown := h.own
   have hget := segCells_get ss pre.length l (by rw [hss];simp)
   obtain ⟨g,cp',hv,hg1,hg2,hg3⟩ := own_form hown (by rw [hss];simp)
   simp only [Value.slice.injEq] at hv
   obtain ⟨rfl,_,rfl⟩ := hv
   have hown' := hown
   rw [HK.out] at hown'
   have r0 : w.cell? ⟨g,pre.length * 3,none⟩ = some (.int .i64 l.m) := by
    exact (World.ownsRow.cellAt hown' (pre.length * 3) (by omega)).trans hget.1
   obtain ⟨k1,hk1⟩ : ∃ k1,k1 = pre.length := ⟨_,rfl⟩
   rw [← hk1] at r0 h2
   have hPk : P = (k1 : Int) := by omega
   subst hPk
   have hk0 : decide ((k1 : Int) < 0) = false := by simp
   have hkk1 : (0 : Int) ≤ (k1 : Int) := Int.natCast_nonneg _
   have hkk2 : (k1 : Int) < (K : Int) := by omega
   have hkk3 : k1 < K := by omega
   have hmm : ((l.m : Int) == (mode : Int)) = false := by simp;omega
   have hmm2 : ((l.m : Int) != (mode : Int)) = true := by simp;omega
   clear h1 h2 hm h hown hown' hget hk1 hss hg1 hg2 hg3
   go_quiet (fail)
   go_wp2_with fail
   go_meet
   exact ⟨rfl,_,rfl⟩
 case rest =>
  obtain ⟨rfl,hkq⟩ := hcut
  have hd : Demuxed wc D base (.slice a K cp) mode n ss := by obtain ⟨k,e⟩ := hkq;rw [e];exact H.out.drewN k
  have ho : Only [] w wc := by obtain ⟨k,e⟩ := hkq;rw [e];exact only_drewN [] w k
  have hP1 : P + 1 = (K : Int) := by omega
  clear hkq c0 c2 hP
  have c0 : wc.cell? ⟨D,0,none⟩ = some (.int .i64 mode) := cell_at hd.str rfl
  have c1 : wc.cell? ⟨D,1,none⟩ = some (.int .i64 n) := cell_at hd.str rfl
  have c2 : wc.cell? ⟨D,2,none⟩ = some (.slice a K cp) := cell_at hd.str rfl
  have f2 : wc.frozen? ⟨D,2,none⟩ = false := free_at hd.str
  have hown := hd.own
  rw [HK.out] at hown
  have hDs : D < wc.heap.size := (Array.getElem?_eq_some_iff.1 hd.str).1
  have hDb := hd.lt
  have hble := hd.le
  have hblk := hd.blk
  have hvD : (Value.slice a K cp).ownBlock ≠ some D := fun e => by have := hblk D e;omega
  have HD := LH hd
  have HO := LH ho
  have HP1 := LH hP1
  obtain ⟨hi,hz0,hz1,hz2⟩ := HI.out
  have hN : ∀ gg cp1 w1,w1.ownsRow base 243 3 (.slice (some ⟨gg,0,none⟩) (K + 1) cp1) (K + 1) (segCells ss ++ [.int .i64 mode,.int .i64 n,.int .i64 0]) → ((wc.alloc (.cells #[.int .i64 mode,.int .i64 n,.int .i64 0] 243)).drew).grownBy w1 (Value.slice a K cp).ownBlock → ((Value.slice a K cp).ownBlock = some gg ∨ gg = wc.heap.size + 1) →
    Mid wc D base (.slice a K cp) mode n ss (w1.setCell ⟨D,2,none⟩ (.slice (some ⟨gg,0,none⟩) (K + 1) cp1)) := by
   intro gg cp1 w1 h1 h2 h3
   have e := HK.out
   rw [← e] at h1 h2 h3 ⊢
   rw [← e] at hd
   exact mid_of hd (((Only.refl _ _).alloc _).drew) (Below.heap_alloc _ _ _ hDs) h1 h2 (h3.imp id (fun e' => by simpa using e'))
  have HN := LH hN
  clear hd ho hP1 hblk hN
  go_upto_region 3 with fail
  go_cut [5] (fun s5 wx => s5 = .int .i64 P ∧ Mid wc D base (.slice a K cp) mode n ss wx)
  case first =>
   go_region_law (refine step_append_lies _ (by rfl) _ _ _ (by rfl) base 243 i0 _ 3 24 Tryz.underlying150 hi hz0 hz1 hz2 rfl (by omega) (.slice a K cp) K _ (by rfl) ((hown.alloc _).drew) ⟨wc.heap.size,0,none⟩ 1 1 [.int .i64 mode,.int .i64 n,.int .i64 0] (by rfl) (by rfl) (World.news_of_block (cs := #[.int .i64 mode,.int .i64 n,.int .i64 0]) (t := 243) (fr := (0,0)) (heap_alloc_new wc _)) (by simp [Value.oneCell']) (by omega) (by unfold maxLen;omega) (by omega) (by simp;omega) (wc.heap.size + 1) (by simp) ?_;intro gg cp1 w1 hown1 hgrow hat hlt1;have c2' := far_cell hgrow hDs hvD c2;have f2' := far_frozen hgrow hDs hvD f2)
   all_goals go_wp2_with fail
   all_goals go_meet
   all_goals exact ⟨rfl,HN.out _ _ _ hown1 hgrow hat⟩
  case rest =>
   rename_i wd
   obtain ⟨rfl,g,cp1,hstr,hown1,ho1,hat1⟩ := hcut
   have hdd := HD.out
   have hgl := hown1.lt g rfl
   rw [HK.out] at hstr hown1
   have hb : Demuxed ((wc.setCell ⟨g,K * 3 + 2,none⟩ (.int .i64 (((0 : Nat) : Int) + 1))).setCell ⟨D,1,none⟩ (.int .i64 ((n : Int) + 1))) D base (.slice (some ⟨g,0,none⟩) (K + 1) cp1) mode (n + 1) (ss ++ [⟨mode,n,0 + 1⟩]) := by
    have e := HK.out
    subst e
    exact bump hstr hown1 hDb (Nat.le_trans hble ho1.size) hn hdd.cnt hdd.fit (by omega)
   have e0 := hstr
   have x0 : wc.cell? ⟨D,0,none⟩ = some (.int .i64 mode) := cell_at hstr rfl
   have x1 : wc.cell? ⟨D,1,none⟩ = some (.int .i64 n) := cell_at hstr rfl
   have x2 : wc.cell? ⟨D,2,none⟩ = some (.slice (some ⟨g,0,none⟩) (K + 1) cp1) := cell_at hstr rfl
   have y1 : wc.frozen? ⟨D,1,none⟩ = false := free_at hstr
   have hlen : (segCells ss).length = K * 3 := by rw [segCells_length,HK.out]
   have r2 : wc.cell? ⟨g,K * 3 + 2,none⟩ = some (.int .i64 0) := by
    rw [World.ownsRow.cellAt hown1 (K * 3 + 2) (by omega),List.getElem?_append_right (by omega),hlen]
    have : K * 3 + 2 - K * 3 = 2 := by omega
    rw [this];rfl
   have fr : wc.frozen? ⟨g,K * 3 + 2,none⟩ = false := World.ownsRow.frozenAt hown1 _
   have hDg : D ≠ g := by omega
   have hkk1 : (0 : Int) ≤ (K : Int) := Int.natCast_nonneg _
   have hkk2 : (K : Int) < ((K + 1 : Nat) : Int) := by omega
   have hkk3 : K < K + 1 := by omega
   have hP1 := HP1.out
   have hPa : -1 ≤ P := by omega
   have hPb : P ≤ 1099511627776 := by omega
   have HF := LH (AI hb (AI ho1 hat1))
   clear hb ho1 hat1 hstr hown1 e0 hdd hlen hown c0 c1 c2 f2 hi hz0 hz1 hz2 hDs hble hgl hvD
   go_wp2
   go_ret
   refine ⟨g,cp1,rfl,HF.out.1,?_,?_⟩
   ·have hsg : g ∈ (D :: (Value.slice a K cp).ownBlock.toList) ∨ w.heap.size ≤ g := by
     rcases HF.out.2.2 with e | e
     ·left;simp [e]
     ·right;exact Nat.le_trans HO.out.size e
    have o1 : Only (D :: (Value.slice a K cp).ownBlock.toList) w wc := (HO.out.weaken (by simp)).trans HF.out.2.1
    refine ⟨o1.os,o1.tape,o1.output,by simpa using o1.size,fun k hk hn => ?_⟩
    have hkD : k ≠ D := fun e => hn (by simp [e])
    have hkg : k ≠ g := fun e => by
     rcases hsg with h' | h'
     ·exact hn (e ▸ h')
     ·omega
    rw [heap_set_other hkD,heap_set_other hkg]
    exact o1.block k hk hn
   ·exact HF.out.2.2.imp id (fun e => Nat.le_trans HO.out.size e)
end Go.Proofs.YtplaamfoeaaaiaaGreatDoor
