/- A part of the proofs of the laws of lifelinetop (TopNever, TopLost, TopRoom): contracts of functions that these laws reach. No condition of its own. -/
import Derived.Test.YtplaamfoeaaaiaaGreatDoorK02
import Derived.Test.YtplaamfoeaaaiaaGreatDoorK04
import Derived.Deep.DeepCutAuto
set_option maxRecDepth 100000
set_option maxHeartbeats 8000000
set_option linter.unusedVariables false
namespace Go.Proofs.YtplaamfoeaaaiaaGreatDoor
open Go.RowKit
theorem pow_any (b : Int) (hb : b = 16 ∨ b = 8) (w : World) : Calls Tryz.prog 84 #[.int .i64 b] w fun e w' => e = .returned (.bool true) ∧ w = w' := by
 rcases hb with rfl | rfl
 ·go_enter Tryz.func84,Tryz.ntmps84
  go_wp2
  go_ret
  exact ⟨rfl,rfl⟩
 ·go_enter Tryz.func84,Tryz.ntmps84
  go_wp2
  go_ret
  exact ⟨rfl,rfl⟩
structure Tabs (w : World) : Prop where
 t16 : w.cell? ⟨3,15,none⟩ = some (.int .u8 4)
 t8 : w.cell? ⟨3,7,none⟩ = some (.int .u8 3)
theorem Tabs.of_only {w w' : World} {ks : List Nat} (h : Tabs w) (ho : Only ks w w') (hk : 3 ∉ ks) : Tabs w' := ⟨ho.cell h.t16 hk,ho.cell h.t8 hk⟩
theorem tz64_16 (w : World) (h : Tabs w) : Calls Tryz.prog 103 #[.int .u64 16] w fun e w' => e = .returned (.int .i64 4) ∧ w = w' := by
 have h1 : bits .and .u64 16 (IntKind.u64.wrap (-16)) = 16 := by decide +kernel
 have h2 : IntKind.u64.wrap 4573923408821661840 = 4573923408821661840 := by decide +kernel
 have ht := h.t16
 go_enter Tryz.func103,Tryz.ntmps103
 go_wp2
 go_ret
 exact ⟨rfl,rfl⟩
theorem tz64_8 (w : World) (h : Tabs w) : Calls Tryz.prog 103 #[.int .u64 8] w fun e w' => e = .returned (.int .i64 3) ∧ w = w' := by
 have h1 : bits .and .u64 8 (IntKind.u64.wrap (-8)) = 8 := by decide +kernel
 have h2 : IntKind.u64.wrap 2286961704410830920 = 2286961704410830920 := by decide +kernel
 have ht := h.t8
 go_enter Tryz.func103,Tryz.ntmps103
 go_wp2
 go_ret
 exact ⟨rfl,rfl⟩
theorem tz_16 (w : World) (h : Tabs w) : Calls Tryz.prog 85 #[.int .u64 16] w fun e w' => e = .returned (.int .i64 4) ∧ w = w' := by
 go_enter Tryz.func85,Tryz.ntmps85
 go_wp2_with (go_at_call 103;refine (tz64_16 _ h).mono ?_;rintro e w' ⟨rfl,rfl⟩)
 go_ret
 exact ⟨rfl,rfl⟩
theorem tz_8 (w : World) (h : Tabs w) : Calls Tryz.prog 85 #[.int .u64 8] w fun e w' => e = .returned (.int .i64 3) ∧ w = w' := by
 go_enter Tryz.func85,Tryz.ntmps85
 go_wp2_with (go_at_call 103;refine (tz64_8 _ h).mono ?_;rintro e w' ⟨rfl,rfl⟩)
 go_ret
 exact ⟨rfl,rfl⟩
theorem and15 (u : Nat) (hu : u < 4294967296) : bits .and .u64 (u : Int) 15 = ((u % 16 : Nat) : Int) := by
 have h : u &&& 15 < 2 ^ 64 := Nat.lt_of_le_of_lt Nat.and_le_left (by omega)
 unfold bits
 have e1 : IntKind.u64.bits = 64 := rfl
 have e2 : ((15 : Int)) = ((15 : Nat) : Int) := rfl
 rw [e2]
 simp only [ofInt_nat,BitVec.toNat_and,BitVec.toNat_ofNat,e1]
 rw [Nat.mod_eq_of_lt (by omega : u < 2 ^ 64),Nat.mod_eq_of_lt (by omega : 15 < 2 ^ 64)]
 have e3 : u &&& 15 = u % 16 := Nat.and_two_pow_sub_one_eq_mod u 4
 rw [e3,IntKind.wrap_u64]
 omega
def dg : ByteArray := ⟨#[48,49,50,51,52,53,54,55,56,57,97,98,99,100,101,102,103,104,105,106,107,108,109,110,111,112,113,114,115,116,117,118,119,120,121,122]⟩
theorem dg_at (d : Nat) (h : d < 16) (hp : d < dg.size) : dg[d] = M.digit d := by
 have hh : ∀ d : Fin 16,dg[d.val]'(Nat.lt_trans d.isLt (by decide)) = M.digit d.val := by decide
 exact hh ⟨d,h⟩
theorem digit_step (f u : Nat) (acc : List UInt8) (h : 16 ≤ u) : M.digitsF 16 (f + 1) u acc = M.digitsF 16 f (u / 16) (M.digit (u % 16) :: acc) := by
 show (if u < 16 then _ else _) = _
 rw [if_neg (by omega)]
theorem digit_last (f u : Nat) (acc : List UInt8) (h : u < 16) : M.digitsF 16 (f + 1) u acc = M.digit u :: acc := by
 show (if u < 16 then _ else _) = _
 rw [if_pos h]
structure DigAt (w : World) (A i : Nat) (acc : List UInt8) : Prop where
 len : i + acc.length = 65
 arr : ∃ arr : Array Value,w.heap[A]? = some (.cells arr 186 (0,0)) ∧ arr.size = 65 ∧ (∀ j,j < 65 → ∃ x : UInt8,arr[j]? = some (byteV x)) ∧ ∀ j,j < acc.length → arr[i + j]? = some (byteV (acc.getD j 0))
theorem DigAt.step {w : World} {A i : Nat} {acc : List UInt8} (h : DigAt w A (i + 1) acc) (x : UInt8) : DigAt (w.setCell ⟨A,i,none⟩ (byteV x)) A i (x :: acc) := by
 obtain ⟨arr,h1,h2,h3,h4⟩ := h.arr
 have hl := h.len
 refine ⟨by simp;omega,arr.setIfInBounds i (byteV x),heap_set_same h1,by simpa using h2,fun j hj => ?_,fun j hj => ?_⟩
 ·rw [Array.getElem?_setIfInBounds]
  split
  ·exact ⟨x,by rw [if_pos (by omega)]⟩
  ·exact h3 j hj
 ·rw [Array.getElem?_setIfInBounds]
  cases j with
  | zero => rw [if_pos (by omega),if_pos (by omega)];rfl
  | succ j =>
   rw [if_neg (by omega)]
   have := h4 j (by simpa using hj)
   rw [show i + (j + 1) = i + 1 + j by omega,this]
   rfl
theorem bits16_any (n : Nat) (w : World) (h : Tabs w) (hn : n < 4294967296) :
  Calls Tryz.prog 62 #[.slice none 0 0,.int .u64 n,.int .i64 16,.bool false,.bool false] w fun e w' => e = .returned (.tuple #[.slice none 0 0,.string ⟨(M.digits 16 n).toArray⟩]) ∧ Only [] w w' := by
 have HT := LH h
 go_enter Tryz.func62,Tryz.ntmps62
 go_wp2_with (first
  | (go_at_call 84;refine (pow_any 16 (.inl rfl) _).mono ?_;rintro e w' ⟨rfl,rfl⟩)
  | (go_at_call 85;refine (tz_16 _ (HT.out.of_only ((Only.refl [] w).alloc _) (by simp))).mono ?_;rintro e w' ⟨rfl,rfl⟩))
 obtain ⟨A,hA⟩ : ∃ A,A = w.heap.size := ⟨_,rfl⟩
 have hst : DigAt (w.alloc (.cells Tryz.zeroCells186 186)) A 65 [] := by
  rw [hA]
  have hz : Tryz.zeroCells186 = (List.replicate 65 (Value.int .u8 0)).toArray := by kernel_rfl
  exact ⟨rfl,_,heap_alloc_new w _,by rw [hz];simp,fun j hj => ⟨0,by rw [hz,List.getElem?_toArray,List.getElem?_replicate,if_pos hj];rfl⟩,fun j hj => by simp at hj⟩
 have HS := LH (AI hst hA)
 rw [← hA]
 clear hst hA
 go_loopw [1,13] (fun s1 s13 wr => ∃ (u i m : Nat) (acc : List UInt8),s1 = .int .u64 u ∧ s13 = .int .i64 i ∧ acc.length + m = 8 ∧ u < 16 ^ m ∧ M.digitsF 16 (64 - acc.length) u acc = M.digits 16 n ∧ DigAt wr A i acc ∧ Only [] w wr) (fun s1 _ _ => (intOf s1).toNat)
 case atStart => exact ⟨n,65,8,[],rfl,rfl,rfl,hn,rfl,HS.out.1,(Only.refl [] w).alloc _⟩
 case round =>
  obtain ⟨u,i,m,acc,rfl,rfl,hm,hu,hdg,hat,ho⟩ := hrel
  have hlen := hat.len
  obtain ⟨i',rfl⟩ : ∃ i',i = i' + 1 := ⟨i - 1,by omega⟩
  have hu32 : u < 4294967296 := Nat.lt_of_lt_of_le hu (by
   have : 16 ^ m ≤ 16 ^ 8 := Nat.pow_le_pow_right (by omega) (by omega)
   exact this)
  obtain ⟨arr,q1,q2,q3,q4⟩ := hat.arr
  obtain ⟨xo,hxo⟩ := q3 i' (by omega)
  have cA : wr.cell? ⟨A,i',none⟩ = some (byteV xo) := cell_at q1 hxo
  have fA : wr.frozen? ⟨A,i',none⟩ = false := free_at q1
  have hi1 : ((i' + 1 : Nat) : Int) - 1 = (i' : Int) := by omega
  have hi0 : (0 : Int) ≤ (i' : Int) := by omega
  have hi65 : (i' : Int) < 65 := by omega
  obtain ⟨d,hd⟩ : ∃ d,d = u % 16 := ⟨_,rfl⟩
  have hand := and15 u hu32
  rw [← hd] at hand
  have hd16 : d < 16 := by omega
  have HX := LH (AI hdg (AI hat (AI ho (AI hd hu))))
  clear hdg hat ho hd hu q1 q2 q3 q4 hxo
  by_cases hge : 16 ≤ u
  ·have d1 : decide ((u : Int) ≥ 16) = true := by simp;omega
   go_wp2_with fail
   obtain ⟨m',rfl⟩ : ∃ m',m = m' + 1 := ⟨m - 1,by
    rcases m with _ | m
    ·have := HX.out.2.2.2.2;omega
    ·rfl⟩
   have hst := HX.out.2.1.step (M.digit d)
   have o2 : Only [] w (wr.setCell ⟨A,i',none⟩ (byteV (M.digit d))) := HX.out.2.2.1.setFresh (by rw [HS.out.2];exact Nat.le_refl _) _
   refine ⟨⟨u / 16,i',m',M.digit d :: acc,by simp,rfl,by simp;omega,?_,?_,?_,?_⟩,by simp [intOf];omega⟩
   ·have h1 := HX.out.2.2.2.2
    rw [Nat.pow_succ] at h1
    exact (Nat.div_lt_iff_lt_mul (by omega)).2 h1
   ·have h1 := HX.out.1
    have e : 64 - acc.length = (64 - (M.digit d :: acc).length) + 1 := by simp;omega
    rw [e,digit_step _ _ _ hge,← HX.out.2.2.2.1] at h1
    exact h1
   ·have e : (({ data := dg.data } : ByteArray)[d]'(Nat.lt_trans hd16 (by decide))) = M.digit d := dg_at d hd16 _
    have h2 : DigAt (wr.setCell ⟨A,i',none⟩ (byteV (({ data := dg.data } : ByteArray)[d]'(Nat.lt_trans hd16 (by decide))))) A i' (M.digit d :: acc) := by rw [e];exact hst
    exact h2
   ·have e : (({ data := dg.data } : ByteArray)[d]'(Nat.lt_trans hd16 (by decide))) = M.digit d := dg_at d hd16 _
    rw [← e] at o2
    exact o2
  ·have d1 : decide ((u : Int) ≥ 16) = false := by simp;omega
   have hu16 : u < 16 := by omega
   obtain ⟨y,hy⟩ : ∃ y,y = M.digit u := ⟨_,rfl⟩
   have hui : (u : Int) < 36 := by omega
   have hst := HX.out.2.1.step (M.digit u)
   have h1 := HX.out.1
   have e64 : 64 - acc.length = (63 - acc.length) + 1 := by omega
   rw [e64,digit_last _ _ _ hu16] at h1
   have hps : u < ({ data := #[48,49,50,51,52,53,54,55,56,57,97,98,99,100,101,102,103,104,105,106,107,108,109,110,111,112,113,114,115,116,117,118,119,120,121,122] } : ByteArray).size := Nat.lt_trans hu16 (by decide)
   have eu : (({ data := #[48,49,50,51,52,53,54,55,56,57,97,98,99,100,101,102,103,104,105,106,107,108,109,110,111,112,113,114,115,116,117,118,119,120,121,122] } : ByteArray)[u]'hps) = M.digit u := dg_at u hu16 _
   have hst2 : DigAt (wr.setCell ⟨A,i',none⟩ (byteV (({ data := #[48,49,50,51,52,53,54,55,56,57,97,98,99,100,101,102,103,104,105,106,107,108,109,110,111,112,113,114,115,116,117,118,119,120,121,122] } : ByteArray)[u]'hps))) A i' (M.digit u :: acc) := by rw [eu];exact hst
   have hby : Bytes (wr.setCell ⟨A,i',none⟩ (byteV (({ data := #[48,49,50,51,52,53,54,55,56,57,97,98,99,100,101,102,103,104,105,106,107,108,109,110,111,112,113,114,115,116,117,118,119,120,121,122] } : ByteArray)[u]'hps))) (some ⟨A,i',none⟩) (M.digit u :: acc) := by
    obtain ⟨ar,z1,z2,z3,z4⟩ := hst2.arr
    refine ⟨fun e => (by cases e),fun ad e j hj => ?_⟩
    cases e
    rw [Addr.add_lit,cell_of_row _ A _ _ _ _ z1]
    exact z4 j hj
   have hstr := run_str _ _ (65 - i') (65 - i') _ hby (by simp;omega)
   rw [h1] at hstr
   have o2 : Only [] w (wr.setCell ⟨A,i',none⟩ (byteV (({ data := #[48,49,50,51,52,53,54,55,56,57,97,98,99,100,101,102,103,104,105,106,107,108,109,110,111,112,113,114,115,116,117,118,119,120,121,122] } : ByteArray)[u]'hps))) := HX.out.2.2.1.setFresh (by rw [HS.out.2];exact Nat.le_refl _) _
   have HY := LH (AI o2 h1)
   have hi66 : (i' : Int) ≤ 65 := by omega
   have hi67 : ¬ 65 = i' := by omega
   clear hst h1 hand hby hst2 o2 eu
   go_wp2_with fail
   go_ret2
   exact ⟨rfl,HY.out.1⟩
theorem bits8_zero (w : World) (h : Tabs w) :
  Calls Tryz.prog 62 #[.slice none 0 0,.int .u64 0,.int .i64 8,.bool false,.bool false] w fun e w' => e = .returned (.tuple #[.slice none 0 0,.string ⟨#[48]⟩]) ∧ Only [] w w' := by
 have HT := LH h
 obtain ⟨A,hA⟩ : ∃ A,A = w.heap.size := ⟨_,rfl⟩
 have hst : DigAt (w.alloc (.cells Tryz.zeroCells186 186)) A 65 [] := by
  rw [hA]
  have hz : Tryz.zeroCells186 = (List.replicate 65 (Value.int .u8 0)).toArray := by kernel_rfl
  exact ⟨rfl,_,heap_alloc_new w _,by rw [hz];simp,fun j hj => ⟨0,by rw [hz,List.getElem?_toArray,List.getElem?_replicate,if_pos hj];rfl⟩,fun j hj => by simp at hj⟩
 have hs2 := hst.step 48
 obtain ⟨arr,q1,q2,q3,q4⟩ := hst.arr
 obtain ⟨xo,hxo⟩ := q3 64 (by omega)
 have cA : (w.alloc (.cells Tryz.zeroCells186 186)).cell? ⟨A,64,none⟩ = some (byteV xo) := cell_at q1 hxo
 have fA : (w.alloc (.cells Tryz.zeroCells186 186)).frozen? ⟨A,64,none⟩ = false := free_at q1
 have hby : Bytes ((w.alloc (.cells Tryz.zeroCells186 186)).setCell ⟨A,64,none⟩ (byteV 48)) (some ⟨A,64,none⟩) [48] := by
  obtain ⟨ar,z1,z2,z3,z4⟩ := hs2.arr
  refine ⟨fun e => (by cases e),fun ad e j hj => ?_⟩
  cases e
  rw [Addr.add_lit,cell_of_row _ A _ _ _ _ z1]
  exact z4 j hj
 have hstr := run_str _ _ 1 1 _ hby rfl
 have o2 : Only [] w ((w.alloc (.cells Tryz.zeroCells186 186)).setCell ⟨A,64,none⟩ (byteV 48)) := ((Only.refl [] w).alloc _).setFresh (by rw [hA];exact Nat.le_refl _) _
 obtain ⟨wz,hwz⟩ : ∃ wz,wz = w.alloc (.cells Tryz.zeroCells186 186) := ⟨_,rfl⟩
 rw [← hwz] at cA fA hstr o2
 have hstr' : (convert 22 9 (.slice (some ⟨A,64,none⟩) 1 1)).run Tryz.prog (wz.setCell ⟨A,64,none⟩ (byteV (({ data := #[48,49,50,51,52,53,54,55,56,57,97,98,99,100,101,102,103,104,105,106,107,108,109,110,111,112,113,114,115,116,117,118,119,120,121,122] } : ByteArray)[0]'(by decide)))) = .ok (.string ⟨#[48]⟩) (wz.setCell ⟨A,64,none⟩ (byteV (({ data := #[48,49,50,51,52,53,54,55,56,57,97,98,99,100,101,102,103,104,105,106,107,108,109,110,111,112,113,114,115,116,117,118,119,120,121,122] } : ByteArray)[0]'(by decide)))) := hstr
 have o3 : Only [] w (wz.setCell ⟨A,64,none⟩ (byteV (({ data := #[48,49,50,51,52,53,54,55,56,57,97,98,99,100,101,102,103,104,105,106,107,108,109,110,111,112,113,114,115,116,117,118,119,120,121,122] } : ByteArray)[0]'(by decide)))) := o2
 clear hstr
 have k65 : ¬ (65 : Nat) = 64 := by omega
 have HO := LH o3
 have HW := LH (AI hwz hA)
 have oz : Only [] w wz := by rw [hwz];exact (Only.refl [] w).alloc _
 have HZ := LH oz
 clear hst hs2 q1 q2 q3 q4 hxo hby o2 o3 hwz hA oz
 go_enter Tryz.func62,Tryz.ntmps62
 go_upto_region 4 with fail
 rw [← HW.out.1,← HW.out.2]
 go_wp2_with (first
  | (go_at_call 84;refine (pow_any 8 (.inr rfl) _).mono ?_;rintro e w' ⟨rfl,rfl⟩)
  | (go_at_call 85;refine (tz_8 _ (HT.out.of_only HZ.out (by simp))).mono ?_;rintro e w' ⟨rfl,rfl⟩))
 refine wp_loop_rounds 1 ?_
 rw [rounds_succ]
 go_wp2_with fail
 go_ret2
 exact ⟨rfl,HO.out⟩
theorem toNat_int (n : Nat) (h : n < 9223372036854775808) : IntKind.u64.wrap (n : Int) = (n : Int) := by rw [IntKind.wrap_u64];omega
theorem fmtI16 (n : Nat) (w : World) (h : Tabs w) (hn : n < 4294967296) : Calls Tryz.prog 38 #[.int .i64 n,.int .i64 16] w fun e w' => e = .returned (.string ⟨(M.digits 16 n).toArray⟩) ∧ Only [] w w' := by
 have d1 : decide ((n : Int) < 0) = false := by simp
 have hw := toNat_int n (by omega)
 have HT := LH h
 clear h
 go_enter Tryz.func38,Tryz.ntmps38
 go_wp2_with (go_at_call 62;refine (bits16_any n _ HT.out hn).mono ?_;rintro e w' ⟨rfl,ho⟩)
 go_ret
 exact ⟨rfl,ho⟩
theorem fmtI16s (n : Nat) (w : World) (h : Tabs w) (hn : n < 4294967296) : Calls Tryz.prog 22 #[.int .i64 n,.int .i64 16] w fun e w' => e = .returned (.string ⟨(M.digits 16 n).toArray⟩) ∧ Only [] w w' := by
 have HT := LH h
 clear h
 go_enter Tryz.func22,Tryz.ntmps22
 go_wp2_with (go_at_call 38;refine (fmtI16 n _ HT.out hn).mono ?_;rintro e w' ⟨rfl,ho⟩)
 go_ret
 exact ⟨rfl,ho⟩
theorem fmtU16 (n : Nat) (w : World) (h : Tabs w) (hn : n < 4294967296) : Calls Tryz.prog 147 #[.int .u64 n,.int .i64 16] w fun e w' => e = .returned (.string ⟨(M.digits 16 n).toArray⟩) ∧ Only [] w w' := by
 have HT := LH h
 clear h
 go_enter Tryz.func147,Tryz.ntmps147
 go_wp2_with (go_at_call 62;refine (bits16_any n _ HT.out hn).mono ?_;rintro e w' ⟨rfl,ho⟩)
 go_ret
 exact ⟨rfl,ho⟩
theorem fmtU16s (n : Nat) (w : World) (h : Tabs w) (hn : n < 4294967296) : Calls Tryz.prog 130 #[.int .u64 n,.int .i64 16] w fun e w' => e = .returned (.string ⟨(M.digits 16 n).toArray⟩) ∧ Only [] w w' := by
 have HT := LH h
 clear h
 go_enter Tryz.func130,Tryz.ntmps130
 go_wp2_with (go_at_call 147;refine (fmtU16 n _ HT.out hn).mono ?_;rintro e w' ⟨rfl,ho⟩)
 go_ret
 exact ⟨rfl,ho⟩
def signOk (k : Nat) (c : Nat) : Bool :=
 (97 ≤ c && c ≤ 122) || (65 ≤ c && c ≤ 90) || (k != 0 && (c == 46 || c == 45 || c == 95 || (48 ≤ c && c ≤ 57)))
def nameOk (s : ByteArray) : Bool := (List.range s.size).all (fun k => signOk k ((s.data.toList.getD k 0).toNat)) && decide (0 < s.size) && decide (s.size ≤ 32)
theorem name_any (s : ByteArray) (w : World) (hs : s.size ≤ 9223372036854775807) : Calls Tryz.prog 34 #[.string s] w fun e w' => e = .returned (.bool (nameOk s)) ∧ w = w' := by
 go_enter Tryz.func34,Tryz.ntmps34
 go_upto_region 2 with fail
 go_loopw [8] (fun s8 wr => w = wr ∧ ∃ k : Nat,s8 = .int .i64 k ∧ k ≤ s.size ∧ ∀ j,j < k → signOk j ((s.data.toList.getD j 0).toNat) = true) (fun s8 _ => s.size - (intOf s8).toNat)
 case atStart => exact ⟨rfl,0,rfl,Nat.zero_le _,fun j hj => by omega⟩
 case round =>
  obtain ⟨rfl,k,rfl,hk,hall⟩ := hrel
  have HA := LH hall
  clear hall
  by_cases hlt : k < s.size
  ·have k1 : (k : Int) < (s.size : Int) := by omega
   have k2 : (0 : Int) ≤ (k : Int) := by omega
   have hsign : ∀ c,c = s[k].toNat → (s.data.toList.getD k 0).toNat = c := by
    intro c hc
    rw [hc]
    have hlt' : k < s.data.size := hlt
    simp only [List.getD,Array.getElem?_toList]
    rw [Array.getElem?_eq_getElem hlt']
    rfl
   have HS := LH hsign
   clear hsign
   go_upto_region 5 with fail
   obtain ⟨c,hc⟩ : ∃ c,c = s[k].toNat := ⟨_,rfl⟩
   rw [← hc]
   have hsg := HS.out c hc
   have hall2 : signOk k c = true → ∀ j,j < k + 1 → signOk j ((s.data.toList.getD j 0).toNat) = true := by
    intro h j hj
    by_cases e : j = k
    ·subst e;rw [hsg];exact h
    ·exact HA.out j (by omega)
   have hno : signOk k c = false → nameOk s = false := by
    intro h
    unfold nameOk
    have : (List.range s.size).all (fun k => signOk k ((s.data.toList.getD k 0).toNat)) = false := by
     rw [List.all_eq_false]
     exact ⟨k,by simpa using hlt,by rw [hsg,h];simp⟩
    rw [this];rfl
   have HN := LH (AI hall2 hno)
   clear hsg hall2 hno hc
   have hcl : (97 ≤ c ∧ c ≤ 122) ∨ (65 ≤ c ∧ c ≤ 90) ∨ (c = 46) ∨ (c = 45) ∨ (c = 95) ∨ (48 ≤ c ∧ c ≤ 57) ∨ (c < 48 ∧ c ≠ 45 ∧ c ≠ 46) ∨ (58 ≤ c ∧ c ≤ 64) ∨ (91 ≤ c ∧ c ≤ 96 ∧ c ≠ 95) ∨ (123 ≤ c) := by omega
   rcases hcl with hc | hc | hc | hc | hc | hc | hc | hc | hc | hc
   ·have a1 : decide ((c : Int) ≥ 97) = true := by simp;omega
    have a2 : decide ((c : Int) ≤ 122) = true := by simp;omega
    have a3 : decide ((c : Int) ≥ 65) = true := by simp;omega
    have a4 : decide ((c : Int) ≤ 90) = false := by simp;omega
    have a5 : ((c : Int) != 46) = true := by simp;omega
    have a6 : ((c : Int) != 45) = true := by simp;omega
    have a7 : ((c : Int) != 95) = true := by simp;omega
    have a8 : decide ((c : Int) < 48) = false := by simp;omega
    have a9 : decide ((c : Int) > 57) = true := by simp;omega
    have hT : signOk k c = true := by unfold signOk;simp;omega
    have HT := LH (HN.out.1 hT)
    clear hT hc
    go_wp2_with fail
    exact ⟨⟨by first | trivial | rfl,k + 1,by simp,hlt,HT.out⟩,by simp [intOf];omega⟩
   ·have a1 : decide ((c : Int) ≥ 97) = false := by simp;omega
    have a2 : decide ((c : Int) ≤ 122) = true := by simp;omega
    have a3 : decide ((c : Int) ≥ 65) = true := by simp;omega
    have a4 : decide ((c : Int) ≤ 90) = true := by simp;omega
    have a5 : ((c : Int) != 46) = true := by simp;omega
    have a6 : ((c : Int) != 45) = true := by simp;omega
    have a7 : ((c : Int) != 95) = true := by simp;omega
    have a8 : decide ((c : Int) < 48) = false := by simp;omega
    have a9 : decide ((c : Int) > 57) = true := by simp;omega
    have hT : signOk k c = true := by unfold signOk;simp;omega
    have HT := LH (HN.out.1 hT)
    clear hT hc
    go_wp2_with fail
    exact ⟨⟨by first | trivial | rfl,k + 1,by simp,hlt,HT.out⟩,by simp [intOf];omega⟩
   ·have a1 : decide ((c : Int) ≥ 97) = false := by simp;omega
    have a2 : decide ((c : Int) ≤ 122) = true := by simp;omega
    have a3 : decide ((c : Int) ≥ 65) = false := by simp;omega
    have a4 : decide ((c : Int) ≤ 90) = true := by simp;omega
    have a5 : ((c : Int) != 46) = false := by simp;omega
    have a6 : ((c : Int) != 45) = true := by simp;omega
    have a7 : ((c : Int) != 95) = true := by simp;omega
    have a8 : decide ((c : Int) < 48) = true := by simp;omega
    have a9 : decide ((c : Int) > 57) = false := by simp;omega
    by_cases h0 : k = 0
    ·have e0 : ((k : Int) == 0) = true := by simp [h0]
     have hF : signOk k c = false := by unfold signOk;simp [h0];omega
     have HT := LH (HN.out.2 hF)
     clear hF hc h0
     go_wp2_with fail
     go_ret
     rw [HT.out];exact ⟨rfl,rfl⟩
    ·have e0 : ((k : Int) == 0) = false := by simp;omega
     have hT : signOk k c = true := by unfold signOk;simp;omega
     have HT := LH (HN.out.1 hT)
     clear hT hc h0
     go_wp2_with fail
     exact ⟨⟨by first | trivial | rfl,k + 1,by simp,hlt,HT.out⟩,by simp [intOf];omega⟩
   ·have a1 : decide ((c : Int) ≥ 97) = false := by simp;omega
    have a2 : decide ((c : Int) ≤ 122) = true := by simp;omega
    have a3 : decide ((c : Int) ≥ 65) = false := by simp;omega
    have a4 : decide ((c : Int) ≤ 90) = true := by simp;omega
    have a5 : ((c : Int) != 46) = true := by simp;omega
    have a6 : ((c : Int) != 45) = false := by simp;omega
    have a7 : ((c : Int) != 95) = true := by simp;omega
    have a8 : decide ((c : Int) < 48) = true := by simp;omega
    have a9 : decide ((c : Int) > 57) = false := by simp;omega
    by_cases h0 : k = 0
    ·have e0 : ((k : Int) == 0) = true := by simp [h0]
     have hF : signOk k c = false := by unfold signOk;simp [h0];omega
     have HT := LH (HN.out.2 hF)
     clear hF hc h0
     go_wp2_with fail
     go_ret
     rw [HT.out];exact ⟨rfl,rfl⟩
    ·have e0 : ((k : Int) == 0) = false := by simp;omega
     have hT : signOk k c = true := by unfold signOk;simp;omega
     have HT := LH (HN.out.1 hT)
     clear hT hc h0
     go_wp2_with fail
     exact ⟨⟨by first | trivial | rfl,k + 1,by simp,hlt,HT.out⟩,by simp [intOf];omega⟩
   ·have a1 : decide ((c : Int) ≥ 97) = false := by simp;omega
    have a2 : decide ((c : Int) ≤ 122) = true := by simp;omega
    have a3 : decide ((c : Int) ≥ 65) = true := by simp;omega
    have a4 : decide ((c : Int) ≤ 90) = false := by simp;omega
    have a5 : ((c : Int) != 46) = true := by simp;omega
    have a6 : ((c : Int) != 45) = true := by simp;omega
    have a7 : ((c : Int) != 95) = false := by simp;omega
    have a8 : decide ((c : Int) < 48) = false := by simp;omega
    have a9 : decide ((c : Int) > 57) = true := by simp;omega
    by_cases h0 : k = 0
    ·have e0 : ((k : Int) == 0) = true := by simp [h0]
     have hF : signOk k c = false := by unfold signOk;simp [h0];omega
     have HT := LH (HN.out.2 hF)
     clear hF hc h0
     go_wp2_with fail
     go_ret
     rw [HT.out];exact ⟨rfl,rfl⟩
    ·have e0 : ((k : Int) == 0) = false := by simp;omega
     have hT : signOk k c = true := by unfold signOk;simp;omega
     have HT := LH (HN.out.1 hT)
     clear hT hc h0
     go_wp2_with fail
     exact ⟨⟨by first | trivial | rfl,k + 1,by simp,hlt,HT.out⟩,by simp [intOf];omega⟩
   ·have a1 : decide ((c : Int) ≥ 97) = false := by simp;omega
    have a2 : decide ((c : Int) ≤ 122) = true := by simp;omega
    have a3 : decide ((c : Int) ≥ 65) = false := by simp;omega
    have a4 : decide ((c : Int) ≤ 90) = true := by simp;omega
    have a5 : ((c : Int) != 46) = true := by simp;omega
    have a6 : ((c : Int) != 45) = true := by simp;omega
    have a7 : ((c : Int) != 95) = true := by simp;omega
    have a8 : decide ((c : Int) < 48) = false := by simp;omega
    have a9 : decide ((c : Int) > 57) = false := by simp;omega
    by_cases h0 : k = 0
    ·have e0 : ((k : Int) == 0) = true := by simp [h0]
     have hF : signOk k c = false := by unfold signOk;simp [h0];omega
     have HT := LH (HN.out.2 hF)
     clear hF hc h0
     go_wp2_with fail
     go_ret
     rw [HT.out];exact ⟨rfl,rfl⟩
    ·have e0 : ((k : Int) == 0) = false := by simp;omega
     have hT : signOk k c = true := by unfold signOk;simp;omega
     have HT := LH (HN.out.1 hT)
     clear hT hc h0
     go_wp2_with fail
     exact ⟨⟨by first | trivial | rfl,k + 1,by simp,hlt,HT.out⟩,by simp [intOf];omega⟩
   ·have a1 : decide ((c : Int) ≥ 97) = false := by simp;omega
    have a2 : decide ((c : Int) ≤ 122) = true := by simp;omega
    have a3 : decide ((c : Int) ≥ 65) = false := by simp;omega
    have a4 : decide ((c : Int) ≤ 90) = true := by simp;omega
    have a5 : ((c : Int) != 46) = true := by simp;omega
    have a6 : ((c : Int) != 45) = true := by simp;omega
    have a7 : ((c : Int) != 95) = true := by simp;omega
    have a8 : decide ((c : Int) < 48) = true := by simp;omega
    have a9 : decide ((c : Int) > 57) = false := by simp;omega
    by_cases h0 : k = 0
    ·have e0 : ((k : Int) == 0) = true := by simp [h0]
     have hF : signOk k c = false := by unfold signOk;simp [h0];omega
     have HT := LH (HN.out.2 hF)
     clear hF hc h0
     go_wp2_with fail
     go_ret
     rw [HT.out];exact ⟨rfl,rfl⟩
    ·have e0 : ((k : Int) == 0) = false := by simp;omega
     have hF : signOk k c = false := by unfold signOk;simp;omega
     have HT := LH (HN.out.2 hF)
     clear hF hc h0
     go_wp2_with fail
     go_ret
     rw [HT.out];exact ⟨rfl,rfl⟩
   ·have a1 : decide ((c : Int) ≥ 97) = false := by simp;omega
    have a2 : decide ((c : Int) ≤ 122) = true := by simp;omega
    have a3 : decide ((c : Int) ≥ 65) = false := by simp;omega
    have a4 : decide ((c : Int) ≤ 90) = true := by simp;omega
    have a5 : ((c : Int) != 46) = true := by simp;omega
    have a6 : ((c : Int) != 45) = true := by simp;omega
    have a7 : ((c : Int) != 95) = true := by simp;omega
    have a8 : decide ((c : Int) < 48) = false := by simp;omega
    have a9 : decide ((c : Int) > 57) = true := by simp;omega
    by_cases h0 : k = 0
    ·have e0 : ((k : Int) == 0) = true := by simp [h0]
     have hF : signOk k c = false := by unfold signOk;simp [h0];omega
     have HT := LH (HN.out.2 hF)
     clear hF hc h0
     go_wp2_with fail
     go_ret
     rw [HT.out];exact ⟨rfl,rfl⟩
    ·have e0 : ((k : Int) == 0) = false := by simp;omega
     have hF : signOk k c = false := by unfold signOk;simp;omega
     have HT := LH (HN.out.2 hF)
     clear hF hc h0
     go_wp2_with fail
     go_ret
     rw [HT.out];exact ⟨rfl,rfl⟩
   ·have a1 : decide ((c : Int) ≥ 97) = false := by simp;omega
    have a2 : decide ((c : Int) ≤ 122) = true := by simp;omega
    have a3 : decide ((c : Int) ≥ 65) = true := by simp;omega
    have a4 : decide ((c : Int) ≤ 90) = false := by simp;omega
    have a5 : ((c : Int) != 46) = true := by simp;omega
    have a6 : ((c : Int) != 45) = true := by simp;omega
    have a7 : ((c : Int) != 95) = true := by simp;omega
    have a8 : decide ((c : Int) < 48) = false := by simp;omega
    have a9 : decide ((c : Int) > 57) = true := by simp;omega
    by_cases h0 : k = 0
    ·have e0 : ((k : Int) == 0) = true := by simp [h0]
     have hF : signOk k c = false := by unfold signOk;simp [h0];omega
     have HT := LH (HN.out.2 hF)
     clear hF hc h0
     go_wp2_with fail
     go_ret
     rw [HT.out];exact ⟨rfl,rfl⟩
    ·have e0 : ((k : Int) == 0) = false := by simp;omega
     have hF : signOk k c = false := by unfold signOk;simp;omega
     have HT := LH (HN.out.2 hF)
     clear hF hc h0
     go_wp2_with fail
     go_ret
     rw [HT.out];exact ⟨rfl,rfl⟩
   ·have a1 : decide ((c : Int) ≥ 97) = true := by simp;omega
    have a2 : decide ((c : Int) ≤ 122) = false := by simp;omega
    have a3 : decide ((c : Int) ≥ 65) = true := by simp;omega
    have a4 : decide ((c : Int) ≤ 90) = false := by simp;omega
    have a5 : ((c : Int) != 46) = true := by simp;omega
    have a6 : ((c : Int) != 45) = true := by simp;omega
    have a7 : ((c : Int) != 95) = true := by simp;omega
    have a8 : decide ((c : Int) < 48) = false := by simp;omega
    have a9 : decide ((c : Int) > 57) = true := by simp;omega
    by_cases h0 : k = 0
    ·have e0 : ((k : Int) == 0) = true := by simp [h0]
     have hF : signOk k c = false := by unfold signOk;simp [h0];omega
     have HT := LH (HN.out.2 hF)
     clear hF hc h0
     go_wp2_with fail
     go_ret
     rw [HT.out];exact ⟨rfl,rfl⟩
    ·have e0 : ((k : Int) == 0) = false := by simp;omega
     have hF : signOk k c = false := by unfold signOk;simp;omega
     have HT := LH (HN.out.2 hF)
     clear hF hc h0
     go_wp2_with fail
     go_ret
     rw [HT.out];exact ⟨rfl,rfl⟩
  ·have hkk : k = s.size := by omega
   have hall : (List.range s.size).all (fun k => signOk k ((s.data.toList.getD k 0).toNat)) = true := by
    rw [List.all_eq_true]
    intro j hj
    exact HA.out j (by rw [hkk];simpa using hj)
   have hn : nameOk s = (decide (0 < s.size) && decide (s.size ≤ 32)) := by unfold nameOk;rw [hall];simp
   have HN := LH hn
   clear hn hall
   have k3 : ¬ ((k : Int) < (s.size : Int)) := by omega
   by_cases h0 : 0 < s.size
   ·have a1 : decide ((s.size : Int) > 0) = true := by simp;omega
    by_cases h1 : s.size ≤ 32
    ·have a2 : decide ((s.size : Int) ≤ 32) = true := by simp;omega
     have e : nameOk s = true := by rw [HN.out];simp [h0,h1]
     have HE := LH e
     clear e hkk
     go_wp2_with fail
     go_ret
     rw [HE.out];exact ⟨rfl,rfl⟩
    ·have a2 : decide ((s.size : Int) ≤ 32) = false := by simp;omega
     have e : nameOk s = false := by rw [HN.out];simp [h1]
     have HE := LH e
     clear e hkk
     go_wp2_with fail
     go_ret
     rw [HE.out];exact ⟨rfl,rfl⟩
   ·have a1 : decide ((s.size : Int) > 0) = false := by
     have h00 : s.size = 0 := by omega
     rw [h00];rfl
    have e : nameOk s = false := by rw [HN.out];simp [h0]
    have HE := LH e
    clear e hkk
    go_wp2_with fail
    go_ret
    rw [HE.out];exact ⟨rfl,rfl⟩
end Go.Proofs.YtplaamfoeaaaiaaGreatDoor
