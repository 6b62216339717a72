/- A part of the proofs of the laws of lifelinetop (TopNever, TopLost, TopRoom): contracts of functions that these laws reach. No condition of its own. -/
import Derived.Test.YtplaamfoeaaaiaaGreatDoorK02
import Derived.Test.YtplaamfoeaaaiaaGreatDoorK12
import Derived.Lib.ConvBytes
set_option maxRecDepth 100000
set_option maxHeartbeats 8000000
set_option linter.unusedVariables false
namespace Go.Proofs.YtplaamfoeaaaiaaGreatDoor
open Go.RowKit
def dv (c : UInt8) : Nat := if c.toNat ≤ 57 then c.toNat - 48 else c.toNat - 87
def DigOk (base : Nat) (c : UInt8) : Prop := ((48 ≤ c.toNat ∧ c.toNat ≤ 57) ∨ (97 ≤ c.toNat ∧ c.toNat ≤ 122)) ∧ dv c < base
def valB (base : Nat) (l : List UInt8) : Nat := l.foldl (fun v c => v * base + dv c) 0
theorem valB_snoc (base : Nat) (l : List UInt8) (c : UInt8) : valB base (l ++ [c]) = valB base l * base + dv c := by simp [valB]
theorem foldl_le (base : Nat) (hb : 1 ≤ base) : ∀ (l : List UInt8) (v : Nat),v ≤ l.foldl (fun v c => v * base + dv c) v
 | [],v => Nat.le_refl _
 | c :: l,v => by
  refine Nat.le_trans ?_ (foldl_le base hb l _)
  have : v * 1 ≤ v * base := Nat.mul_le_mul_left v hb
  show v ≤ v * base + dv c
  omega
theorem valB_take_le (base : Nat) (hb : 1 ≤ base) (l : List UInt8) (i : Nat) : valB base (l.take i) ≤ valB base l := by
 have h := List.take_append_drop i l
 rw [← h]
 conv => rhs;unfold valB
 rw [List.foldl_append,List.take_append_drop]
 exact foldl_le base hb _ _
theorem valB_take (base : Nat) (l : List UInt8) (i : Nat) (hi : i < l.length) : valB base (l.take (i + 1)) = valB base (l.take i) * base + dv l[i] := by
 rw [List.take_succ_eq_append_getElem hi,valB_snoc]
theorem or32 (c : UInt8) (h1 : 97 ≤ c.toNat) (h2 : c.toNat ≤ 122) : bits .or .u8 (c.toNat : Int) 32 = (c.toNat : Int) := by
 have h : ∀ c : Fin 256,97 ≤ c.val → c.val ≤ 122 → bits .or .u8 (c.val : Int) 32 = (c.val : Int) := by decide +kernel
 exact h ⟨c.toNat,c.toNat_lt⟩ h1 h2
theorem lower_any (c : UInt8) (h1 : 97 ≤ c.toNat) (h2 : c.toNat ≤ 122) (w : World) : Calls Tryz.prog 163 #[byteV c] w fun e w' => e = .returned (byteV c) ∧ w = w' := by
 have h := or32 c h1 h2
 go_enter Tryz.func163,Tryz.ntmps163
 go_wp2_with fail
 go_ret
 exact ⟨rfl,rfl⟩
theorem conv_str (bs : List UInt8) (w : World) (hl : bs.length ≤ maxLen) : ∃ C w1,(convert 9 22 (strB bs)).run Tryz.prog w = .ok (.slice (some ⟨w.heap.size,0,none⟩) bs.length C) w1 ∧ bs.length ≤ C ∧ C ≤ maxLen ∧ Only [] w w1 ∧ w1.heap.size = w.heap.size + 1 ∧ Bytes w1 (some ⟨w.heap.size,0,none⟩) bs := by
 refine ⟨_,_,Lib.run_convert_string_bytes w 9 22 5 ⟨bs.toArray⟩ Tryz.underlying9 Tryz.underlying22 Tryz.underlying5,?_,?_,?_,?_,?_⟩
 ·exact grownCap_ge _ _ _ _
 ·exact grownCap_le_maxLen _ _ _ _ hl
 ·exact ⟨rfl,rfl,rfl,by rw [Lib.bytesWorld_size];omega,fun k hk _ => Lib.bytesWorld_at_old w 5 _ k hk⟩
 ·exact Lib.bytesWorld_size _ _ _
 ·refine ⟨fun e => (by cases e),fun ad e i hi => ?_⟩
  cases e
  rw [Addr.add_lit,Nat.zero_add,Lib.bytesWorld_cell w 5 ⟨bs.toArray⟩ i hi]
theorem parse16 (bs : List UInt8) (w : World) (hne : bs ≠ []) (hl : bs.length ≤ 1000) (hok : ∀ c,c ∈ bs → DigOk 16 c) (hv : valB 16 bs < 4294967296) :
  Calls Tryz.prog 153 #[strB bs,.int .i64 16,.int .i64 32] w fun e w' => e = .returned (.tuple #[.int .u64 (valB 16 bs),.nilIface]) ∧ Only [] w w' := by
 obtain ⟨A,hA⟩ : ∃ A,A = w.heap.size := ⟨_,rfl⟩
 obtain ⟨L,hL⟩ : ∃ L,L = bs.length := ⟨_,rfl⟩
 obtain ⟨V,hV⟩ : ∃ V,V = valB 16 bs := ⟨_,rfl⟩
 have hem : bs.isEmpty = false := by
  cases bs with
  | nil => exact absurd rfl hne
  | cons x r => rfl
 have HH := LH (AI hA (AI hL (AI hV (AI hok (AI hv hne)))))
 clear hne hok hv hV hA hL
 obtain ⟨C,w1,hconv,hC1,hC2,ho1,hs1,hb1⟩ := conv_str bs w (by unfold maxLen;omega)
 rw [← HH.out.1,← HH.out.2.1] at hconv
 rw [← HH.out.1] at hb1
 have HW := LH (AI ho1 hb1)
 clear ho1 hb1 hs1
 go_enter Tryz.func153,Tryz.ntmps153
 have hmx : IntKind.u64.wrap (IntKind.u64.wrap 18446744073709551616 - 1) = 18446744073709551615 := by decide +kernel
 have h95 : ∀ c : UInt8,c.toNat ≤ 57 ∨ 97 ≤ c.toNat → ((c.toNat : Int) == 95) = false := fun c h => by simp;omega
 go_upto_region 36 with fail
 go_loopw [12,13,101] (fun s12 s13 s101 wr => s12 = .bool false ∧ ∃ i : Nat,s13 = .int .u64 (valB 16 (bs.take i) : Nat) ∧ s101 = .int .i64 i ∧ i ≤ L ∧ Only [] w wr ∧ Bytes wr (some ⟨A,0,none⟩) bs) (fun _ _ s101 _ => L - (intOf s101).toNat)
 case atStart => exact ⟨rfl,0,rfl,rfl,Nat.zero_le _,HW.out.1,HW.out.2⟩
 case round =>
  obtain ⟨rfl,i,rfl,rfl,hiL,ho,hby⟩ := hrel
  by_cases hlt : i < L
  ·have hib : i < bs.length := by rw [← HH.out.2.1];exact hlt
   obtain ⟨c,hc⟩ : ∃ c,c = bs[i] := ⟨_,rfl⟩
   have hcell : wr.cell? ⟨A,i,none⟩ = some (byteV c) := by
    have := hby.cell _ rfl i hib
    rw [Addr.add_lit,Nat.zero_add] at this
    rw [this,hc]
    simp [List.getD,hib]
   obtain ⟨hd,hdb⟩ := HH.out.2.2.2.1 c (by rw [hc];exact List.getElem_mem hib)
   obtain ⟨v,hv⟩ : ∃ v,v = valB 16 (bs.take i) := ⟨_,rfl⟩
   have hstep := valB_take 16 bs i hib
   have hle := valB_take_le 16 (by omega) bs (i + 1)
   have hbd := HH.out.2.2.2.2.1
   rw [← hc,← hv] at hstep
   obtain ⟨v2,hv2⟩ : ∃ v2,v2 = valB 16 (bs.take (i + 1)) := ⟨_,rfl⟩
   rw [← hv2] at hstep hle
   rw [← hv]
   obtain ⟨d,hdd⟩ : ∃ d,d = dv c := ⟨_,rfl⟩
   rw [← hdd] at hstep hdb
   have k1 : ((i : Int) < (L : Int)) := by omega
   have k2 : (0 : Int) ≤ (i : Int) := by omega
   have m1 : IntKind.u64.wrap ((v : Int) * 16) = (v : Int) * 16 := by rw [IntKind.wrap_u64];omega
   have hhd : (97 ≤ c.toNat → (c.toNat : Int) - 97 + 10 = (d : Int)) ∧ (c.toNat ≤ 57 → (c.toNat : Int) - 48 = (d : Int)) := by
    rw [hdd];unfold dv
    constructor
    ·intro h;rw [if_neg (by omega)];omega
    ·intro h;rw [if_pos h];omega
   have HX := LH (AI hv2 (AI hdd (AI hc (AI ho hby))))
   clear hv2 hdd hc ho hby hv
   rcases hd with hd | hd
   ·have n1 : decide (48 ≤ (c.toNat : Int)) = true := by simp;omega
    have n2 : decide ((c.toNat : Int) ≤ 57) = true := by simp;omega
    have n3 := h95 c (.inl hd.2)
    have n5 := hhd.2 hd.2
    have HD := LH hhd
    clear hhd
    have n6 : decide ((d : Int) ≥ 16) = false := by simp;omega
    have n4 : decide ((v : Int) ≥ 1152921504606846976) = false := by simp;omega
    have n4' : ¬ ((v : Int) ≥ 1152921504606846976) := by omega
    have n4'' : ¬ ((1152921504606846976 : Int) ≤ (v : Int)) := by omega
    go_upto_region 50 with fail
    obtain ⟨p,hp⟩ : ∃ p,p = v * 16 := ⟨_,rfl⟩
    rw [← hp] at hstep
    have n7 : (v : Int) * 16 = (p : Int) := by omega
    have n8 : (p : Int) + (d : Int) = (v2 : Int) := by omega
    have n9 : IntKind.u64.wrap (p : Int) = (p : Int) := by rw [IntKind.wrap_u64];omega
    have n10 : IntKind.u64.wrap (v2 : Int) = (v2 : Int) := by rw [IntKind.wrap_u64];omega
    have n11 : IntKind.u64.wrap (d : Int) = (d : Int) := by rw [IntKind.wrap_u64];omega
    have n12 : decide ((v2 : Int) < (p : Int)) = false := by simp;omega
    have n13 : decide ((v2 : Int) > 4294967295) = false := by simp;omega
    clear hp hstep
    go_wp2_with fail
    exact ⟨⟨rfl,i + 1,by rw [← HX.out.1],by simp,hlt,HX.out.2.2.2.1,HX.out.2.2.2.2⟩,by simp [intOf];omega⟩
   ·have n1 : decide (48 ≤ (c.toNat : Int)) = true := by simp;omega
    have n2 : decide ((c.toNat : Int) ≤ 57) = false := by simp;omega
    have n3 := h95 c (.inr hd.1)
    have n14 : decide (97 ≤ (c.toNat : Int)) = true := by simp;omega
    have n15 : decide ((c.toNat : Int) ≤ 122) = true := by simp;omega
    obtain ⟨e,he⟩ : ∃ e,e = c.toNat - 97 := ⟨_,rfl⟩
    have n16 : (c.toNat : Int) - 97 = (e : Int) := by omega
    have n5 := hhd.1 hd.1
    have n17 : (e : Int) + 10 = (d : Int) := by omega
    have n18 : ((d : Int)) % 256 = (d : Int) := by omega
    have HD := LH hhd
    clear hhd he n5
    have n6 : decide ((d : Int) ≥ 16) = false := by simp;omega
    have n4 : decide ((v : Int) ≥ 1152921504606846976) = false := by simp;omega
    have n4' : ¬ ((v : Int) ≥ 1152921504606846976) := by omega
    have n4'' : ¬ ((1152921504606846976 : Int) ≤ (v : Int)) := by omega
    have HLo := fun w => lower_any c hd.1 hd.2 w
    go_upto_region 50 with (go_at_call 163;refine (HLo _).mono ?_;rintro e w' ⟨rfl,rfl⟩)
    obtain ⟨p,hp⟩ : ∃ p,p = v * 16 := ⟨_,rfl⟩
    rw [← hp] at hstep
    have n7 : (v : Int) * 16 = (p : Int) := by omega
    have n8 : (p : Int) + (d : Int) = (v2 : Int) := by omega
    have n9 : IntKind.u64.wrap (p : Int) = (p : Int) := by rw [IntKind.wrap_u64];omega
    have n10 : IntKind.u64.wrap (v2 : Int) = (v2 : Int) := by rw [IntKind.wrap_u64];omega
    have n11 : IntKind.u64.wrap (d : Int) = (d : Int) := by rw [IntKind.wrap_u64];omega
    have n12 : decide ((v2 : Int) < (p : Int)) = false := by simp;omega
    have n13 : decide ((v2 : Int) > 4294967295) = false := by simp;omega
    clear hp hstep n16 n17 n18 HLo n14 n15 n1 n2 n3 hd n4 n4' n4'' h95
    go_wp2_with fail
    exact ⟨⟨rfl,i + 1,by rw [← HX.out.1],by simp,hlt,HX.out.2.2.2.1,HX.out.2.2.2.2⟩,by simp [intOf];omega⟩
  ·obtain rfl : i = L := by omega
   have hall : valB 16 (bs.take i) = valB 16 bs := by rw [List.take_of_length_le];rw [← HH.out.2.1];exact Nat.le_refl _
   rw [hall]
   have HO := LH ho
   have kl : ¬ ((i : Int) < (i : Int)) := by omega
   clear hall ho hby
   go_wp2_with fail
   go_ret2
   exact ⟨rfl,HO.out⟩
theorem parse10 (bs : List UInt8) (w : World) (hne : bs ≠ []) (hl : bs.length ≤ 1000) (hok : ∀ c,c ∈ bs → DigOk 10 c) (hv : valB 10 bs < 4294967296) :
  Calls Tryz.prog 153 #[strB bs,.int .i64 10,.int .i64 64] w fun e w' => e = .returned (.tuple #[.int .u64 (valB 10 bs),.nilIface]) ∧ Only [] w w' := by
 obtain ⟨A,hA⟩ : ∃ A,A = w.heap.size := ⟨_,rfl⟩
 obtain ⟨L,hL⟩ : ∃ L,L = bs.length := ⟨_,rfl⟩
 obtain ⟨V,hV⟩ : ∃ V,V = valB 10 bs := ⟨_,rfl⟩
 have hem : bs.isEmpty = false := by
  cases bs with
  | nil => exact absurd rfl hne
  | cons x r => rfl
 have HH := LH (AI hA (AI hL (AI hV (AI hok (AI hv hne)))))
 clear hne hok hv hV hA hL
 obtain ⟨C,w1,hconv,hC1,hC2,ho1,hs1,hb1⟩ := conv_str bs w (by unfold maxLen;omega)
 rw [← HH.out.1,← HH.out.2.1] at hconv
 rw [← HH.out.1] at hb1
 have HW := LH (AI ho1 hb1)
 clear ho1 hb1 hs1
 go_enter Tryz.func153,Tryz.ntmps153
 have hmx : IntKind.u64.wrap (IntKind.u64.wrap 18446744073709551616 - 1) = 18446744073709551615 := by decide +kernel
 have h95 : ∀ c : UInt8,c.toNat ≤ 57 ∨ 97 ≤ c.toNat → ((c.toNat : Int) == 95) = false := fun c h => by simp;omega
 go_upto_region 36 with fail
 go_loopw [12,13,101] (fun s12 s13 s101 wr => s12 = .bool false ∧ ∃ i : Nat,s13 = .int .u64 (valB 10 (bs.take i) : Nat) ∧ s101 = .int .i64 i ∧ i ≤ L ∧ Only [] w wr ∧ Bytes wr (some ⟨A,0,none⟩) bs) (fun _ _ s101 _ => L - (intOf s101).toNat)
 case atStart => exact ⟨rfl,0,rfl,rfl,Nat.zero_le _,HW.out.1,HW.out.2⟩
 case round =>
  obtain ⟨rfl,i,rfl,rfl,hiL,ho,hby⟩ := hrel
  by_cases hlt : i < L
  ·have hib : i < bs.length := by rw [← HH.out.2.1];exact hlt
   obtain ⟨c,hc⟩ : ∃ c,c = bs[i] := ⟨_,rfl⟩
   have hcell : wr.cell? ⟨A,i,none⟩ = some (byteV c) := by
    have := hby.cell _ rfl i hib
    rw [Addr.add_lit,Nat.zero_add] at this
    rw [this,hc]
    simp [List.getD,hib]
   obtain ⟨hd,hdb⟩ := HH.out.2.2.2.1 c (by rw [hc];exact List.getElem_mem hib)
   obtain ⟨v,hv⟩ : ∃ v,v = valB 10 (bs.take i) := ⟨_,rfl⟩
   have hstep := valB_take 10 bs i hib
   have hle := valB_take_le 10 (by omega) bs (i + 1)
   have hbd := HH.out.2.2.2.2.1
   rw [← hc,← hv] at hstep
   obtain ⟨v2,hv2⟩ : ∃ v2,v2 = valB 10 (bs.take (i + 1)) := ⟨_,rfl⟩
   rw [← hv2] at hstep hle
   rw [← hv]
   obtain ⟨d,hdd⟩ : ∃ d,d = dv c := ⟨_,rfl⟩
   rw [← hdd] at hstep hdb
   have k1 : ((i : Int) < (L : Int)) := by omega
   have k2 : (0 : Int) ≤ (i : Int) := by omega
   have m1 : IntKind.u64.wrap ((v : Int) * 10) = (v : Int) * 10 := by rw [IntKind.wrap_u64];omega
   have hhd : (97 ≤ c.toNat → (c.toNat : Int) - 97 + 10 = (d : Int)) ∧ (c.toNat ≤ 57 → (c.toNat : Int) - 48 = (d : Int)) := by
    rw [hdd];unfold dv
    constructor
    ·intro h;rw [if_neg (by omega)];omega
    ·intro h;rw [if_pos h];omega
   have HX := LH (AI hv2 (AI hdd (AI hc (AI ho hby))))
   clear hv2 hdd hc ho hby hv
   rcases hd with hd | hd
   ·have n1 : decide (48 ≤ (c.toNat : Int)) = true := by simp;omega
    have n2 : decide ((c.toNat : Int) ≤ 57) = true := by simp;omega
    have n3 := h95 c (.inl hd.2)
    have n5 := hhd.2 hd.2
    have HD := LH hhd
    clear hhd
    have n6 : decide ((d : Int) ≥ 10) = false := by simp;omega
    have n4 : decide ((v : Int) ≥ 1844674407370955162) = false := by simp;omega
    have n4' : ¬ ((v : Int) ≥ 1844674407370955162) := by omega
    have n4'' : ¬ ((1844674407370955162 : Int) ≤ (v : Int)) := by omega
    go_upto_region 50 with fail
    obtain ⟨p,hp⟩ : ∃ p,p = v * 10 := ⟨_,rfl⟩
    rw [← hp] at hstep
    have n7 : (v : Int) * 10 = (p : Int) := by omega
    have n8 : (p : Int) + (d : Int) = (v2 : Int) := by omega
    have n9 : IntKind.u64.wrap (p : Int) = (p : Int) := by rw [IntKind.wrap_u64];omega
    have n10 : IntKind.u64.wrap (v2 : Int) = (v2 : Int) := by rw [IntKind.wrap_u64];omega
    have n11 : IntKind.u64.wrap (d : Int) = (d : Int) := by rw [IntKind.wrap_u64];omega
    have n12 : decide ((v2 : Int) < (p : Int)) = false := by simp;omega
    have n13 : decide ((v2 : Int) > 18446744073709551615) = false := by simp;omega
    clear hp hstep
    go_wp2_with fail
    exact ⟨⟨rfl,i + 1,by rw [← HX.out.1],by simp,hlt,HX.out.2.2.2.1,HX.out.2.2.2.2⟩,by simp [intOf];omega⟩
   ·have n1 : decide (48 ≤ (c.toNat : Int)) = true := by simp;omega
    have n2 : decide ((c.toNat : Int) ≤ 57) = false := by simp;omega
    have n3 := h95 c (.inr hd.1)
    have n14 : decide (97 ≤ (c.toNat : Int)) = true := by simp;omega
    have n15 : decide ((c.toNat : Int) ≤ 122) = true := by simp;omega
    obtain ⟨e,he⟩ : ∃ e,e = c.toNat - 97 := ⟨_,rfl⟩
    have n16 : (c.toNat : Int) - 97 = (e : Int) := by omega
    have n5 := hhd.1 hd.1
    have n17 : (e : Int) + 10 = (d : Int) := by omega
    have n18 : ((d : Int)) % 256 = (d : Int) := by omega
    have HD := LH hhd
    clear hhd he n5
    have n6 : decide ((d : Int) ≥ 10) = false := by simp;omega
    have n4 : decide ((v : Int) ≥ 1844674407370955162) = false := by simp;omega
    have n4' : ¬ ((v : Int) ≥ 1844674407370955162) := by omega
    have n4'' : ¬ ((1844674407370955162 : Int) ≤ (v : Int)) := by omega
    have HLo := fun w => lower_any c hd.1 hd.2 w
    go_upto_region 50 with (go_at_call 163;refine (HLo _).mono ?_;rintro e w' ⟨rfl,rfl⟩)
    obtain ⟨p,hp⟩ : ∃ p,p = v * 10 := ⟨_,rfl⟩
    rw [← hp] at hstep
    have n7 : (v : Int) * 10 = (p : Int) := by omega
    have n8 : (p : Int) + (d : Int) = (v2 : Int) := by omega
    have n9 : IntKind.u64.wrap (p : Int) = (p : Int) := by rw [IntKind.wrap_u64];omega
    have n10 : IntKind.u64.wrap (v2 : Int) = (v2 : Int) := by rw [IntKind.wrap_u64];omega
    have n11 : IntKind.u64.wrap (d : Int) = (d : Int) := by rw [IntKind.wrap_u64];omega
    have n12 : decide ((v2 : Int) < (p : Int)) = false := by simp;omega
    have n13 : decide ((v2 : Int) > 18446744073709551615) = false := by simp;omega
    clear hp hstep n16 n17 n18 HLo n14 n15 n1 n2 n3 hd n4 n4' n4'' h95
    go_wp2_with fail
    exact ⟨⟨rfl,i + 1,by rw [← HX.out.1],by simp,hlt,HX.out.2.2.2.1,HX.out.2.2.2.2⟩,by simp [intOf];omega⟩
  ·obtain rfl : i = L := by omega
   have hall : valB 10 (bs.take i) = valB 10 bs := by rw [List.take_of_length_le];rw [← HH.out.2.1];exact Nat.le_refl _
   rw [hall]
   have HO := LH ho
   have kl : ¬ ((i : Int) < (i : Int)) := by omega
   clear hall ho hby
   go_wp2_with fail
   go_ret2
   exact ⟨rfl,HO.out⟩
theorem parse8 (bs : List UInt8) (w : World) (hne : bs ≠ []) (hl : bs.length ≤ 1000) (hok : ∀ c,c ∈ bs → DigOk 8 c) (hv : valB 8 bs < 4294967296) :
  Calls Tryz.prog 153 #[strB bs,.int .i64 8,.int .i64 64] w fun e w' => e = .returned (.tuple #[.int .u64 (valB 8 bs),.nilIface]) ∧ Only [] w w' := by
 obtain ⟨A,hA⟩ : ∃ A,A = w.heap.size := ⟨_,rfl⟩
 obtain ⟨L,hL⟩ : ∃ L,L = bs.length := ⟨_,rfl⟩
 obtain ⟨V,hV⟩ : ∃ V,V = valB 8 bs := ⟨_,rfl⟩
 have hem : bs.isEmpty = false := by
  cases bs with
  | nil => exact absurd rfl hne
  | cons x r => rfl
 have HH := LH (AI hA (AI hL (AI hV (AI hok (AI hv hne)))))
 clear hne hok hv hV hA hL
 obtain ⟨C,w1,hconv,hC1,hC2,ho1,hs1,hb1⟩ := conv_str bs w (by unfold maxLen;omega)
 rw [← HH.out.1,← HH.out.2.1] at hconv
 rw [← HH.out.1] at hb1
 have HW := LH (AI ho1 hb1)
 clear ho1 hb1 hs1
 go_enter Tryz.func153,Tryz.ntmps153
 have hmx : IntKind.u64.wrap (IntKind.u64.wrap 18446744073709551616 - 1) = 18446744073709551615 := by decide +kernel
 have h95 : ∀ c : UInt8,c.toNat ≤ 57 ∨ 97 ≤ c.toNat → ((c.toNat : Int) == 95) = false := fun c h => by simp;omega
 go_upto_region 36 with fail
 go_loopw [12,13,101] (fun s12 s13 s101 wr => s12 = .bool false ∧ ∃ i : Nat,s13 = .int .u64 (valB 8 (bs.take i) : Nat) ∧ s101 = .int .i64 i ∧ i ≤ L ∧ Only [] w wr ∧ Bytes wr (some ⟨A,0,none⟩) bs) (fun _ _ s101 _ => L - (intOf s101).toNat)
 case atStart => exact ⟨rfl,0,rfl,rfl,Nat.zero_le _,HW.out.1,HW.out.2⟩
 case round =>
  obtain ⟨rfl,i,rfl,rfl,hiL,ho,hby⟩ := hrel
  by_cases hlt : i < L
  ·have hib : i < bs.length := by rw [← HH.out.2.1];exact hlt
   obtain ⟨c,hc⟩ : ∃ c,c = bs[i] := ⟨_,rfl⟩
   have hcell : wr.cell? ⟨A,i,none⟩ = some (byteV c) := by
    have := hby.cell _ rfl i hib
    rw [Addr.add_lit,Nat.zero_add] at this
    rw [this,hc]
    simp [List.getD,hib]
   obtain ⟨hd,hdb⟩ := HH.out.2.2.2.1 c (by rw [hc];exact List.getElem_mem hib)
   obtain ⟨v,hv⟩ : ∃ v,v = valB 8 (bs.take i) := ⟨_,rfl⟩
   have hstep := valB_take 8 bs i hib
   have hle := valB_take_le 8 (by omega) bs (i + 1)
   have hbd := HH.out.2.2.2.2.1
   rw [← hc,← hv] at hstep
   obtain ⟨v2,hv2⟩ : ∃ v2,v2 = valB 8 (bs.take (i + 1)) := ⟨_,rfl⟩
   rw [← hv2] at hstep hle
   rw [← hv]
   obtain ⟨d,hdd⟩ : ∃ d,d = dv c := ⟨_,rfl⟩
   rw [← hdd] at hstep hdb
   have k1 : ((i : Int) < (L : Int)) := by omega
   have k2 : (0 : Int) ≤ (i : Int) := by omega
   have m1 : IntKind.u64.wrap ((v : Int) * 8) = (v : Int) * 8 := by rw [IntKind.wrap_u64];omega
   have hhd : (97 ≤ c.toNat → (c.toNat : Int) - 97 + 10 = (d : Int)) ∧ (c.toNat ≤ 57 → (c.toNat : Int) - 48 = (d : Int)) := by
    rw [hdd];unfold dv
    constructor
    ·intro h;rw [if_neg (by omega)];omega
    ·intro h;rw [if_pos h];omega
   have HX := LH (AI hv2 (AI hdd (AI hc (AI ho hby))))
   clear hv2 hdd hc ho hby hv
   rcases hd with hd | hd
   ·have n1 : decide (48 ≤ (c.toNat : Int)) = true := by simp;omega
    have n2 : decide ((c.toNat : Int) ≤ 57) = true := by simp;omega
    have n3 := h95 c (.inl hd.2)
    have n5 := hhd.2 hd.2
    have HD := LH hhd
    clear hhd
    have n6 : decide ((d : Int) ≥ 8) = false := by simp;omega
    have n4 : decide ((v : Int) ≥ 2305843009213693952) = false := by simp;omega
    have n4' : ¬ ((v : Int) ≥ 2305843009213693952) := by omega
    have n4'' : ¬ ((2305843009213693952 : Int) ≤ (v : Int)) := by omega
    go_upto_region 50 with fail
    obtain ⟨p,hp⟩ : ∃ p,p = v * 8 := ⟨_,rfl⟩
    rw [← hp] at hstep
    have n7 : (v : Int) * 8 = (p : Int) := by omega
    have n8 : (p : Int) + (d : Int) = (v2 : Int) := by omega
    have n9 : IntKind.u64.wrap (p : Int) = (p : Int) := by rw [IntKind.wrap_u64];omega
    have n10 : IntKind.u64.wrap (v2 : Int) = (v2 : Int) := by rw [IntKind.wrap_u64];omega
    have n11 : IntKind.u64.wrap (d : Int) = (d : Int) := by rw [IntKind.wrap_u64];omega
    have n12 : decide ((v2 : Int) < (p : Int)) = false := by simp;omega
    have n13 : decide ((v2 : Int) > 18446744073709551615) = false := by simp;omega
    clear hp hstep
    go_wp2_with fail
    exact ⟨⟨rfl,i + 1,by rw [← HX.out.1],by simp,hlt,HX.out.2.2.2.1,HX.out.2.2.2.2⟩,by simp [intOf];omega⟩
   ·have n1 : decide (48 ≤ (c.toNat : Int)) = true := by simp;omega
    have n2 : decide ((c.toNat : Int) ≤ 57) = false := by simp;omega
    have n3 := h95 c (.inr hd.1)
    have n14 : decide (97 ≤ (c.toNat : Int)) = true := by simp;omega
    have n15 : decide ((c.toNat : Int) ≤ 122) = true := by simp;omega
    obtain ⟨e,he⟩ : ∃ e,e = c.toNat - 97 := ⟨_,rfl⟩
    have n16 : (c.toNat : Int) - 97 = (e : Int) := by omega
    have n5 := hhd.1 hd.1
    have n17 : (e : Int) + 10 = (d : Int) := by omega
    have n18 : ((d : Int)) % 256 = (d : Int) := by omega
    have HD := LH hhd
    clear hhd he n5
    have n6 : decide ((d : Int) ≥ 8) = false := by simp;omega
    have n4 : decide ((v : Int) ≥ 2305843009213693952) = false := by simp;omega
    have n4' : ¬ ((v : Int) ≥ 2305843009213693952) := by omega
    have n4'' : ¬ ((2305843009213693952 : Int) ≤ (v : Int)) := by omega
    have HLo := fun w => lower_any c hd.1 hd.2 w
    go_upto_region 50 with (go_at_call 163;refine (HLo _).mono ?_;rintro e w' ⟨rfl,rfl⟩)
    obtain ⟨p,hp⟩ : ∃ p,p = v * 8 := ⟨_,rfl⟩
    rw [← hp] at hstep
    have n7 : (v : Int) * 8 = (p : Int) := by omega
    have n8 : (p : Int) + (d : Int) = (v2 : Int) := by omega
    have n9 : IntKind.u64.wrap (p : Int) = (p : Int) := by rw [IntKind.wrap_u64];omega
    have n10 : IntKind.u64.wrap (v2 : Int) = (v2 : Int) := by rw [IntKind.wrap_u64];omega
    have n11 : IntKind.u64.wrap (d : Int) = (d : Int) := by rw [IntKind.wrap_u64];omega
    have n12 : decide ((v2 : Int) < (p : Int)) = false := by simp;omega
    have n13 : decide ((v2 : Int) > 18446744073709551615) = false := by simp;omega
    clear hp hstep n16 n17 n18 HLo n14 n15 n1 n2 n3 hd n4 n4' n4'' h95
    go_wp2_with fail
    exact ⟨⟨rfl,i + 1,by rw [← HX.out.1],by simp,hlt,HX.out.2.2.2.1,HX.out.2.2.2.2⟩,by simp [intOf];omega⟩
  ·obtain rfl : i = L := by omega
   have hall : valB 8 (bs.take i) = valB 8 bs := by rw [List.take_of_length_le];rw [← HH.out.2.1];exact Nat.le_refl _
   rw [hall]
   have HO := LH ho
   have kl : ¬ ((i : Int) < (i : Int)) := by omega
   clear hall ho hby
   go_wp2_with fail
   go_ret2
   exact ⟨rfl,HO.out⟩
instance (base : Nat) (c : UInt8) : Decidable (DigOk base c) := inferInstanceAs (Decidable (_ ∧ _))
theorem digits_ok : ∀ n : Fin 4400,M.digits 16 n.val ≠ [] ∧ (M.digits 16 n.val).all (fun c => decide (DigOk 16 c)) = true ∧ valB 16 (M.digits 16 n.val) = n.val := by decide +kernel
theorem pubParse16 (bs : List UInt8) (w : World) (hne : bs ≠ []) (hl : bs.length ≤ 1000) (hok : ∀ c,c ∈ bs → DigOk 16 c) (hv : valB 16 bs < 4294967296) :
  Calls Tryz.prog 136 #[strB bs,.int .i64 16,.int .i64 32] w fun e w' => e = .returned (.tuple #[.int .u64 (valB 16 bs),.nilIface]) ∧ Only [] w w' := by
 have q := fun w => neq_nn w
 have HP := LH (parse16 bs w hne hl hok hv)
 clear hne hl hok hv
 go_enter Tryz.func136,Tryz.ntmps136
 go_wp2_with (go_at_call 153;refine (HP.out).mono ?_;rintro e w' ⟨rfl,ho⟩;have HO := LH ho;clear ho)
 go_ret2
 exact ⟨rfl,HO.out⟩
theorem hex_any (n : Nat) (w : World) (hT : Tabs w) (hn : n < 4400) :
  Calls Tryz.prog 118 #[strB (M.digits 16 n)] w fun e w' => e = .returned (.tuple #[.int .i64 n,.bool true]) ∧ Only [] w w' := by
 obtain ⟨h1,h2,h3⟩ := digits_ok ⟨n,hn⟩
 simp only at h1 h2 h3
 obtain ⟨bs,hbs⟩ : ∃ bs,bs = M.digits 16 n := ⟨_,rfl⟩
 have h4 := digits_len 16 n
 have hf := fun wx (ho : Only [] w wx) => fmtU16s n wx (hT.of_only ho (by simp)) (by omega)
 rw [← hbs] at h1 h2 h3 h4 hf
 rw [← hbs]
 have hp := pubParse16 bs w h1 (by omega) (fun c hc => by simpa using List.all_eq_true.1 h2 c hc) (by omega)
 rw [h3] at hp
 have q := fun w => eql_nn w
 have hx : IntKind.i64.wrap (n : Int) = (n : Int) := by rw [IntKind.wrap_i64];omega
 have HH := LH (AI hp hf)
 clear h1 h2 h3 h4 hp hf hbs hT
 go_enter Tryz.func118,Tryz.ntmps118
 go_wp2_with (first
  | (go_at_call 136;refine (HH.out.1).mono ?_;rintro e w' ⟨rfl,ho⟩;have HO := LH ho;clear ho)
  | (go_at_call 130;refine (HH.out.2 _ HO.out).mono ?_;rintro e w2 ⟨rfl,ho2⟩;have HO2 := LH ho2;clear ho2))
 go_ret2
 exact ⟨rfl,HO.out.trans HO2.out⟩
end Go.Proofs.YtplaamfoeaaaiaaGreatDoor
