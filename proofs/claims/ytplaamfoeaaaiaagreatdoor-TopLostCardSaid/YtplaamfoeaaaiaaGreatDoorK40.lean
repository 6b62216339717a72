/- A part of the proofs of the laws of lifelinetop (TopNever, TopLost, TopRoom): contracts of functions that these laws reach. No condition of its own. -/
import Derived.Test.YtplaamfoeaaaiaaGreatDoorK02
import Derived.Test.YtplaamfoeaaaiaaGreatDoorK39
set_option maxRecDepth 100000
set_option maxHeartbeats 8000000
set_option linter.unusedVariables false
namespace Go.Proofs.YtplaamfoeaaaiaaGreatDoor
open Go.RowKit
def ChkPost (es : List RE) (w : World) (x : Ending) (w' : World) : Prop := ∃ k : Int,x = .returned (.tuple #[.int .i64 k,errV (checkE es)]) ∧ Only [] w w'
theorem Tryz.size39 (w : World) : (sizeOf (Tryz.prog.elem 25)).run Tryz.prog w = .ok 5 w := by
 have h : Tryz.prog.elem 25 = 39 := by kernel_rfl
 rw [h]
 obtain ⟨i,hi,_,hs,_⟩ := info_parts info39
 simp [sizeOf,typeInfo,hi,hs]
theorem Tryz.elem25 : Tryz.prog.underlying 25 = some (.slice (Tryz.prog.elem 25)) := by kernel_rfl
theorem EsRaw.at0 {w : World} {a : Option Addr} {es : List RE} (h : EsRaw w a es) (hn : 0 < es.length) : ∃ B off,a = some ⟨B,off,none⟩ ∧ ∀ (k : Nat) (e : RE),es[k]? = some e → w.cell? ⟨B,off + k * 5,none⟩ = some (.string e.name) ∧ w.cell? ⟨B,off + k * 5 + 1,none⟩ = some (.int .i64 e.addr) ∧ w.cell? ⟨B,off + k * 5 + 2,none⟩ = some (.int .i64 e.size) ∧ w.cell? ⟨B,off + k * 5 + 3,none⟩ = some (.int .u32 e.print) ∧ w.cell? ⟨B,off + k * 5 + 4,none⟩ = some (.int .i64 e.way) := by
 cases a with
 | none => rw [h.nil rfl] at hn;simp at hn
 | some ad =>
  obtain ⟨B,off,sp⟩ := ad
  have hsp : sp = none := by
   obtain ⟨e0,h0⟩ : ∃ e0,es[0]? = some e0 := ⟨_,List.getElem?_eq_getElem hn⟩
   have hc := h.cell _ rfl _ _ ((esCells_get es 0 e0 h0).1)
   simpa [Addr.add] using spot_of_cell hc
  subst hsp
  refine ⟨B,off,rfl,fun k e he => ?_⟩
  obtain ⟨c0,c1,c2,c3,c4⟩ := esCells_get es k e he
  have q0 := h.cell _ rfl _ _ c0
  have q1 := h.cell _ rfl _ _ c1
  have q2 := h.cell _ rfl _ _ c2
  have q3 := h.cell _ rfl _ _ c3
  have q4 := h.cell _ rfl _ _ c4
  rw [Addr.add_lit] at q0 q1 q2 q3 q4
  refine ⟨q0,?_,?_,?_,?_⟩
  ·rw [Nat.add_assoc];exact q1
  ·rw [Nat.add_assoc];exact q2
  ·rw [Nat.add_assoc];exact q3
  ·rw [Nat.add_assoc];exact q4
theorem keep5 {w w' : World} {A : Nat} {a b c d f : Value} (h : w.cell? ⟨A,0,none⟩ = some a ∧ w.cell? ⟨A,1,none⟩ = some b ∧ w.cell? ⟨A,2,none⟩ = some c ∧ w.cell? ⟨A,3,none⟩ = some d ∧ w.cell? ⟨A,4,none⟩ = some f) (ho : Only [] w w') :
  w'.cell? ⟨A,0,none⟩ = some a ∧ w'.cell? ⟨A,1,none⟩ = some b ∧ w'.cell? ⟨A,2,none⟩ = some c ∧ w'.cell? ⟨A,3,none⟩ = some d ∧ w'.cell? ⟨A,4,none⟩ = some f :=
 ⟨ho.cell h.1 (by simp),ho.cell h.2.1 (by simp),ho.cell h.2.2.1 (by simp),ho.cell h.2.2.2.1 (by simp),ho.cell h.2.2.2.2 (by simp)⟩
theorem keep10 {w w' : World} {A X : Nat} {a b c d f a' b' c' d' f' : Value} (h : w.cell? ⟨A,0,none⟩ = some a ∧ w.cell? ⟨A,1,none⟩ = some b ∧ w.cell? ⟨A,2,none⟩ = some c ∧ w.cell? ⟨A,3,none⟩ = some d ∧ w.cell? ⟨A,4,none⟩ = some f ∧ w.cell? ⟨X,0,none⟩ = some a' ∧ w.cell? ⟨X,1,none⟩ = some b' ∧ w.cell? ⟨X,2,none⟩ = some c' ∧ w.cell? ⟨X,3,none⟩ = some d' ∧ w.cell? ⟨X,4,none⟩ = some f') (ho : Only [] w w') :
  w'.cell? ⟨A,0,none⟩ = some a ∧ w'.cell? ⟨A,1,none⟩ = some b ∧ w'.cell? ⟨A,2,none⟩ = some c ∧ w'.cell? ⟨A,3,none⟩ = some d ∧ w'.cell? ⟨A,4,none⟩ = some f ∧ w'.cell? ⟨X,0,none⟩ = some a' ∧ w'.cell? ⟨X,1,none⟩ = some b' ∧ w'.cell? ⟨X,2,none⟩ = some c' ∧ w'.cell? ⟨X,3,none⟩ = some d' ∧ w'.cell? ⟨X,4,none⟩ = some f' :=
 ⟨ho.cell h.1 (by simp),ho.cell h.2.1 (by simp),ho.cell h.2.2.1 (by simp),ho.cell h.2.2.2.1 (by simp),ho.cell h.2.2.2.2.1 (by simp),keep5 h.2.2.2.2.2 ho⟩
theorem range_err (es : List RE) (e : RE) (k : Nat) (hk : es[k]? = some e) (hn : nameOk e.name = true) (ha : (es.take k).any (chkName e) = false) (hr : chkRange e = true) : chkAt es k = 5 := by
 unfold chkAt
 rw [hk]
 unfold chk1
 simp only
 rw [if_neg (by rw [hn];decide),if_neg (by rw [ha];decide),if_pos hr]
theorem chk_range (es : List RE) (x : RE) (k : Nat) (hk : es[k]? = some x) (h : chkAt es k = 0) : chkRange x = false := by
 unfold chkAt at h
 rw [hk] at h
 unfold chk1 at h
 simp only at h
 split at h
 ·cases h
 ·split at h
  ·cases h
  ·split at h
   ·cases h
   ·rename_i hr;simpa using hr
theorem over_err (es : List RE) (e x : RE) (k i : Nat) (hk : es[k]? = some e) (hn : nameOk e.name = true) (ha : (es.take k).any (chkName e) = false) (hr : chkRange e = false) (hi : es[i]? = some x) (hik : i < k) (ho : chkOver e x = true) : chkAt es k = 6 := by
 unfold chkAt
 rw [hk]
 unfold chk1
 simp only
 rw [if_neg (by rw [hn];decide),if_neg (by rw [ha];decide),if_neg (by rw [hr];decide),if_pos (by rw [List.any_eq_true];exact ⟨x,List.mem_of_getElem? (i := i) (by rw [List.getElem?_take,if_pos hik];exact hi),ho⟩)]
theorem all_ok (es : List RE) (e : RE) (k : Nat) (hk : es[k]? = some e) (hn : nameOk e.name = true) (ha : (es.take k).any (chkName e) = false) (hr : chkRange e = false) (ho : ∀ (q : Nat) (x : RE),q < k → es[q]? = some x → chkOver e x = false) : chkAt es k = 0 := by
 have hf : (es.take k).any (chkOver e) = false := by
  rw [List.any_eq_false]
  intro x hx
  obtain ⟨i,hi,hxi⟩ := List.mem_take_iff_getElem.1 hx
  have := ho i x (by omega) (by rw [← hxi];exact List.getElem?_eq_getElem (by omega))
  simp [this]
 unfold chkAt
 rw [hk]
 unfold chk1
 simp only
 rw [if_neg (by rw [hn];decide),if_neg (by rw [ha];decide),if_neg (by rw [hr];decide),if_neg (by rw [hf];decide)]
set_option maxHeartbeats 40000000 in
theorem mcheck_is (ea : Option Addr) (n ec : Nat) (es : List RE) (w : World) (he : EsRaw w ea es) (hn : es.length = n) (hec : n ≤ ec) (hnm : ∀ e,e ∈ es → e.name.size ≤ 9223372036854775807) :
  Calls Tryz.prog 17 #[.slice ea n ec] w (ChkPost es w) := by
 by_cases h0 : n = 0
 ·subst h0
  have hc := checkE_len es (.inl hn)
  have HC := LH hc
  clear hc he hn hnm
  go_enter Tryz.func17,Tryz.ntmps17
  go_wp2_with fail
  go_ret2
  exact ⟨-1,by rw [HC.out];rfl,Only.refl _ _⟩
 ·by_cases h8 : 8 < n
  ·have hc := checkE_len es (.inr (by omega))
   have HC := LH hc
   have h0' : ((n : Int) == 0) = false := by simp;omega
   clear hc he hn hnm h0
   go_enter Tryz.func17,Tryz.ntmps17
   go_wp2_with fail
   go_ret2
   exact ⟨-1,by rw [HC.out];rfl,Only.refl _ _⟩
  ·have h0' : ((n : Int) == 0) = false := by simp;omega
   obtain ⟨B,off,rfl,hcells⟩ := he.at0 (by omega)
   have HH := LH (AI hn (AI hcells hnm))
   have hn0 : 0 < n := by omega
   have hn8 : n ≤ 8 := by omega
   clear he hn hcells hnm h0 h8
   go_enter Tryz.func17,Tryz.ntmps17
   go_wp2_with fail
   go_loopw [21] (fun s21 wr => ∃ k : Nat,k ≤ n ∧ s21 = .int .i64 k ∧ Only [] w wr ∧ ∀ j,j < k → chkAt es j = 0) (fun s21 _ => n - (intOf s21).toNat)
   case atStart => exact ⟨0,Nat.zero_le _,rfl,Only.refl _ _,fun j hj => by omega⟩
   case round =>
    obtain ⟨k,hk,rfl,ho,hj⟩ := hrel
    by_cases hlt : k < n
    ·obtain ⟨e,hek⟩ : ∃ e,es[k]? = some e := ⟨_,List.getElem?_eq_getElem (by rw [HH.out.1];exact hlt)⟩
     obtain ⟨q0,q1,q2,q3,q4⟩ := HH.out.2.1 k e hek
     have hB := World.block_lt_of_cell? w _ q0
     simp only at hB
     replace q0 := ho.cell q0 (by simp)
     replace q1 := ho.cell q1 (by simp)
     replace q2 := ho.cell q2 (by simp)
     replace q3 := ho.cell q3 (by simp)
     replace q4 := ho.cell q4 (by simp)
     have hBr : B < wr.heap.size := Nat.lt_of_lt_of_le hB ho.size
     have HX := LH (AI hek (AI ho hj))
     clear hek ho hj
     go_upto_region 6 with fail
     obtain ⟨A,hA⟩ : ∃ A,A = wr.heap.size := ⟨_,rfl⟩
     obtain ⟨w1,hw1⟩ : ∃ w1,w1 = wr.alloc (.cells #[.string e.name,.int .i64 e.addr,.int .i64 e.size,.int .u32 e.print,.int .i64 e.way] 39) := ⟨_,rfl⟩
     have hA1 : w1.heap[A]? = some (.cells #[.string e.name,.int .i64 e.addr,.int .i64 e.size,.int .u32 e.print,.int .i64 e.way] 39 (0,0)) := by rw [hw1,hA];exact heap_alloc_new wr _
     have o1 : Only [] w w1 := by rw [hw1];exact HX.out.2.1.alloc _
     rw [← hA,← hw1]
     have a0 : w1.cell? ⟨A,0,none⟩ = some (.string e.name) := cell_at hA1 rfl
     have H1 := LH (AI hA1 o1)
     clear hA1 o1 hw1 hA q0 q1 q2 q3 q4
     have HN := LH (name_any e.name w1 (HH.out.2.2 e (List.mem_of_getElem? HX.out.1)))
     by_cases hno : nameOk e.name = true
     ·have HNO := LH hno
      rw [hno] at HN
      clear hno
      go_upto_region 8 with (go_at_call 34;go_loud (refine HN.out.mono ?_;rintro x w2 ⟨rfl,rfl⟩))
      have hsl := fun w => run_head Tryz.prog w 25 (some ⟨B,off,none⟩) n ec k Tryz.elem25 5 Tryz.size39 (by omega) .i64
      go_wp2_with fail
      go_loopw [36] (fun s36 wx => ∃ j : Nat,j ≤ k ∧ s36 = .int .i64 j ∧ Only [] w1 wx ∧ ∀ (i : Nat) (x : RE),i < j → es[i]? = some x → chkName e x = false) (fun s36 _ => k - (intOf s36).toNat)
      case atStart => exact ⟨0,Nat.zero_le _,rfl,Only.refl _ _,fun i x hi => by omega⟩
      case round =>
       obtain ⟨j,hjk,rfl,oj,hja⟩ := hrel
       have hAj := oj.heap H1.out.1 (by simp)
       have a0 : _ = some (Value.string e.name) := cell_at hAj (i := 0) rfl
       have hAl := heap_lt hAj
       by_cases hjl : j < k
       ·obtain ⟨x,hxj⟩ : ∃ x,es[j]? = some x := ⟨_,List.getElem?_eq_getElem (by rw [HH.out.1];omega)⟩
        obtain ⟨q0,q1,q2,q3,q4⟩ := HH.out.2.1 j x hxj
        have o0j := H1.out.2.trans oj
        replace q0 := o0j.cell q0 (by simp)
        replace q1 := o0j.cell q1 (by simp)
        replace q2 := o0j.cell q2 (by simp)
        replace q3 := o0j.cell q3 (by simp)
        replace q4 := o0j.cell q4 (by simp)
        have hBj := World.block_lt_of_cell? _ _ q0
        simp only at hBj
        have HJ := LH (AI hAj (AI oj (AI hja hxj)))
        by_cases hxe : x.name = e.name
        ·have hc : chkAt es k = 4 := by
          unfold chkAt
          rw [HX.out.1]
          unfold chk1
          simp only
          rw [if_neg (by rw [HNO.out];decide),if_pos (by rw [List.any_eq_true];exact ⟨x,List.mem_of_getElem? (i := j) (by rw [List.getElem?_take,if_pos hjl];exact hxj),by simp [chkName,hxe]⟩)]
         have hce := checkE_some es (by rw [HH.out.1];exact hn8) k 4 (by rw [HH.out.1];exact hlt) HX.out.2.2 hc (by decide)
         rw [hxe] at q0
         have HC := LH (AI hce (o0j.alloc (.cells #[.string e.name,.int .i64 x.addr,.int .i64 x.size,.int .u32 x.print,.int .i64 x.way] 39)))
         clear hAj oj hja hxj hxe hc hce o0j
         go_wp2_with fail
         go_ret2
         exact ⟨k,by rw [HC.out.1];rfl,HC.out.2⟩
        ·have hG : (x.name.toList == e.name.toList) = false := by
          rw [beq_eq_false_iff_ne]
          intro h
          rw [ByteArray.toList_eq,ByteArray.toList_eq] at h
          exact hxe (ByteArray.ext (Array.ext' h))
         have HE := LH hxe
         clear hAj oj hja hxj o0j
         go_wp2_with fail
         refine ⟨⟨j + 1,by omega,by go_num,HJ.out.2.1.alloc _,fun i y hi hy => ?_⟩,by simp [intOf];omega⟩
         by_cases hij : i = j
         ·subst hij
          have := HJ.out.2.2.2
          rw [hy] at this
          cases this
          simp [chkName,HE.out]
         ·exact HJ.out.2.2.1 i y (by omega) hy
       ·obtain rfl : j = k := by omega
        have kl : ¬ ((j : Int) < (j : Int)) := by omega
        have a1 : _ = some (Value.int .i64 e.addr) := cell_at hAj (i := 1) rfl
        have a2 : _ = some (Value.int .i64 e.size) := cell_at hAj (i := 2) rfl
        have a3 : _ = some (Value.int .u32 e.print) := cell_at hAj (i := 3) rfl
        have a4 : _ = some (Value.int .i64 e.way) := cell_at hAj (i := 4) rfl
        have hany : (es.take j).any (chkName e) = false := by
         rw [List.any_eq_false]
         intro x hx
         obtain ⟨i,hi,hxi⟩ := List.mem_take_iff_getElem.1 hx
         have := hja i x (by omega) (by rw [← hxi];exact List.getElem?_eq_getElem (by omega))
         simp [this]
        have HJ := LH (AI hAj (AI oj hany))
        clear hAj oj hja hany
        go_upto_region 14 with fail
        have HR := LH (fun w => room_is e w)
        have b1 := (roomE_bd e.size e.way).1
        have b2 := (roomE_bd e.size e.way).2
        change 0 ≤ e.room at b1
        change e.room ≤ 8192 at b2
        have hwr : IntKind.i64.wrap (16384 - e.room) = 16384 - e.room := IntWalk.i64_in _ (by omega)
        have HRNG := LH (range_err es e j HX.out.1 HNO.out HJ.out.2.2)
        by_cases r1 : e.addr < 0
        ·have d1 : decide (e.addr < 0) = true := by simpa using r1
         have hc := HRNG.out (by unfold chkRange;simp only [decide_eq_true_eq];omega)
         have hce := checkE_some es (by rw [HH.out.1];exact hn8) j 5 (by rw [HH.out.1];exact hlt) HX.out.2.2 hc (by decide)
         have HC := LH (AI hce (H1.out.2.trans HJ.out.2.1))
         clear hc hce r1
         refine wp_region_held_drew (S := (fun w' => w'.cell? ⟨A,0,none⟩ = some (.string e.name) ∧ w'.cell? ⟨A,1,none⟩ = some (.int .i64 e.addr) ∧ w'.cell? ⟨A,2,none⟩ = some (.int .i64 e.size) ∧ w'.cell? ⟨A,3,none⟩ = some (.int .u32 e.print) ∧ w'.cell? ⟨A,4,none⟩ = some (.int .i64 e.way))) (by kernel_rfl) (⟨a0,a1,a2,a3,a4⟩) (fun hHeld => ?_)
         refine wI 0 ?_
         try simp only [Act.put,gs]
         refine wI 1 ?_
         try simp only [Act.put,gs]
         refine wI 2 ?_
         try simp only [Act.put,gs]
         refine wI 3 ?_
         try simp only [Act.put,gs]
         refine wK 4 ?_
         try simp only [Act.put,gs]
         refine wK 5 ?_
         try simp only [Act.put,gs]
         refine wK 6 ?_
         try simp only [Act.put,gs]
         refine wI 7 ?_
         try simp only [Act.put,gs]
         refine wI 8 ?_
         try simp only [Act.put,gs]
         refine wK 9 ?_
         try simp only [Act.put,gs]
         refine wK 10 ?_
         try simp only [Act.put,gs]
         refine wK 11 ?_
         try simp only [Act.put,gs]
         refine wI 12 ?_
         try simp only [Act.put,gs]
         refine wI 13 ?_
         try simp only [Act.put,gs]
         refine wK 14 ?_
         try simp only [Act.put,gs]
         refine wK 15 ?_
         try simp only [Act.put,gs]
         refine wK 16 ?_
         try simp only [Act.put,gs]
         refine wK 17 ?_
         try simp only [Act.put,gs]
         refine wK 18 ?_
         try simp only [Act.put,gs]
         refine wK 19 ?_
         try simp only [Act.put,gs]
         refine wI 20 ?_
         try simp only [Act.put,gs]
         refine wI 21 ?_
         try simp only [Act.put,gs]
         refine wK 22 ?_
         try simp only [Act.put,gs]
         refine wK 23 ?_
         try simp only [Act.put,gs]
         refine wK 24 ?_
         try simp only [Act.put,gs]
         refine wI 25 ?_
         try simp only [Act.put,gs]
         refine wI 26 ?_
         try simp only [Act.put,gs]
         refine wK 27 ?_
         try simp only [Act.put,gs]
         refine wK 28 ?_
         try simp only [Act.put,gs]
         refine wK 29 ?_
         try simp only [Act.put,gs]
         refine wI 30 ?_
         try simp only [Act.put,gs]
         refine wpAnyH_done (by kernel_rfl) ?_ _
         clear hHeld
         clear hwr d1
         go_wp2_with fail
         go_ret2
         exact ⟨j,by rw [HC.out.1];rfl,HC.out.2.drew⟩
        ·skip
         by_cases r2 : e.size < 1
         ·have d1 : decide (e.addr < 0) = false := by simpa using r1
          have d2 : decide (e.size < 1) = true := by simpa using r2
          have hc := HRNG.out (by unfold chkRange;simp only [decide_eq_true_eq];omega)
          have hce := checkE_some es (by rw [HH.out.1];exact hn8) j 5 (by rw [HH.out.1];exact hlt) HX.out.2.2 hc (by decide)
          have HC := LH (AI hce (H1.out.2.trans HJ.out.2.1))
          clear hc hce r1 r2
          refine wp_region_held_drew (S := (fun w' => w'.cell? ⟨A,0,none⟩ = some (.string e.name) ∧ w'.cell? ⟨A,1,none⟩ = some (.int .i64 e.addr) ∧ w'.cell? ⟨A,2,none⟩ = some (.int .i64 e.size) ∧ w'.cell? ⟨A,3,none⟩ = some (.int .u32 e.print) ∧ w'.cell? ⟨A,4,none⟩ = some (.int .i64 e.way))) (by kernel_rfl) (⟨a0,a1,a2,a3,a4⟩) (fun hHeld => ?_)
          refine wI 0 ?_
          try simp only [Act.put,gs]
          refine wI 1 ?_
          try simp only [Act.put,gs]
          refine wI 2 ?_
          try simp only [Act.put,gs]
          refine wI 3 ?_
          try simp only [Act.put,gs]
          refine wI 4 ?_
          try simp only [Act.put,gs]
          refine wI 5 ?_
          try simp only [Act.put,gs]
          refine wI 6 ?_
          try simp only [Act.put,gs]
          refine wI 7 ?_
          try simp only [Act.put,gs]
          refine wI 8 ?_
          try simp only [Act.put,gs]
          refine wK 9 ?_
          try simp only [Act.put,gs]
          refine wK 10 ?_
          try simp only [Act.put,gs]
          refine wK 11 ?_
          try simp only [Act.put,gs]
          refine wI 12 ?_
          try simp only [Act.put,gs]
          refine wI 13 ?_
          try simp only [Act.put,gs]
          refine wK 14 ?_
          try simp only [Act.put,gs]
          refine wK 15 ?_
          try simp only [Act.put,gs]
          refine wK 16 ?_
          try simp only [Act.put,gs]
          refine wK 17 ?_
          try simp only [Act.put,gs]
          refine wK 18 ?_
          try simp only [Act.put,gs]
          refine wK 19 ?_
          try simp only [Act.put,gs]
          refine wI 20 ?_
          try simp only [Act.put,gs]
          refine wI 21 ?_
          try simp only [Act.put,gs]
          refine wK 22 ?_
          try simp only [Act.put,gs]
          refine wK 23 ?_
          try simp only [Act.put,gs]
          refine wK 24 ?_
          try simp only [Act.put,gs]
          refine wI 25 ?_
          try simp only [Act.put,gs]
          refine wI 26 ?_
          try simp only [Act.put,gs]
          refine wK 27 ?_
          try simp only [Act.put,gs]
          refine wK 28 ?_
          try simp only [Act.put,gs]
          refine wK 29 ?_
          try simp only [Act.put,gs]
          refine wI 30 ?_
          try simp only [Act.put,gs]
          refine wpAnyH_done (by kernel_rfl) ?_ _
          clear hHeld
          clear hwr d1 d2
          go_wp2_with fail
          go_ret2
          exact ⟨j,by rw [HC.out.1];rfl,HC.out.2.drew⟩
         ·skip
          by_cases r3 : 8192 < e.size
          ·have d1 : decide (e.addr < 0) = false := by simpa using r1
           have d2 : decide (e.size < 1) = false := by simpa using r2
           have d3 : decide (8192 < e.size) = true := by simpa using r3
           have hc := HRNG.out (by unfold chkRange;simp only [decide_eq_true_eq];omega)
           have hce := checkE_some es (by rw [HH.out.1];exact hn8) j 5 (by rw [HH.out.1];exact hlt) HX.out.2.2 hc (by decide)
           have HC := LH (AI hce (H1.out.2.trans HJ.out.2.1))
           clear hc hce r1 r2 r3
           refine wp_region_held_drew (S := (fun w' => w'.cell? ⟨A,0,none⟩ = some (.string e.name) ∧ w'.cell? ⟨A,1,none⟩ = some (.int .i64 e.addr) ∧ w'.cell? ⟨A,2,none⟩ = some (.int .i64 e.size) ∧ w'.cell? ⟨A,3,none⟩ = some (.int .u32 e.print) ∧ w'.cell? ⟨A,4,none⟩ = some (.int .i64 e.way))) (by kernel_rfl) (⟨a0,a1,a2,a3,a4⟩) (fun hHeld => ?_)
           refine wI 0 ?_
           try simp only [Act.put,gs]
           refine wI 1 ?_
           try simp only [Act.put,gs]
           refine wI 2 ?_
           try simp only [Act.put,gs]
           refine wI 3 ?_
           try simp only [Act.put,gs]
           refine wI 4 ?_
           try simp only [Act.put,gs]
           refine wI 5 ?_
           try simp only [Act.put,gs]
           refine wI 6 ?_
           try simp only [Act.put,gs]
           refine wI 7 ?_
           try simp only [Act.put,gs]
           refine wI 8 ?_
           try simp only [Act.put,gs]
           refine wI 9 ?_
           try simp only [Act.put,gs]
           refine wI 10 ?_
           try simp only [Act.put,gs]
           refine wI 11 ?_
           try simp only [Act.put,gs]
           refine wI 12 ?_
           try simp only [Act.put,gs]
           refine wI 13 ?_
           try simp only [Act.put,gs]
           refine wK 14 ?_
           try simp only [Act.put,gs]
           refine wK 15 ?_
           try simp only [Act.put,gs]
           refine wK 16 ?_
           try simp only [Act.put,gs]
           refine wK 17 ?_
           try simp only [Act.put,gs]
           refine wK 18 ?_
           try simp only [Act.put,gs]
           refine wK 19 ?_
           try simp only [Act.put,gs]
           refine wI 20 ?_
           try simp only [Act.put,gs]
           refine wI 21 ?_
           try simp only [Act.put,gs]
           refine wK 22 ?_
           try simp only [Act.put,gs]
           refine wK 23 ?_
           try simp only [Act.put,gs]
           refine wK 24 ?_
           try simp only [Act.put,gs]
           refine wI 25 ?_
           try simp only [Act.put,gs]
           refine wI 26 ?_
           try simp only [Act.put,gs]
           refine wK 27 ?_
           try simp only [Act.put,gs]
           refine wK 28 ?_
           try simp only [Act.put,gs]
           refine wK 29 ?_
           try simp only [Act.put,gs]
           refine wI 30 ?_
           try simp only [Act.put,gs]
           refine wpAnyH_done (by kernel_rfl) ?_ _
           clear hHeld
           clear hwr d1 d2 d3
           go_wp2_with fail
           go_ret2
           exact ⟨j,by rw [HC.out.1];rfl,HC.out.2.drew⟩
          ·skip
           by_cases r4 : 16384 - e.room < e.addr
           ·have d1 : decide (e.addr < 0) = false := by simpa using r1
            have d2 : decide (e.size < 1) = false := by simpa using r2
            have d3 : decide (8192 < e.size) = false := by simpa using r3
            have d4 : decide (16384 - e.room < e.addr) = true := by simpa using r4
            have hc := HRNG.out (by unfold chkRange;simp only [decide_eq_true_eq];omega)
            have hce := checkE_some es (by rw [HH.out.1];exact hn8) j 5 (by rw [HH.out.1];exact hlt) HX.out.2.2 hc (by decide)
            have HC := LH (AI hce (H1.out.2.trans HJ.out.2.1))
            clear hc hce r1 r2 r3 r4
            refine wp_region_held_drew (S := (fun w' => w'.cell? ⟨A,0,none⟩ = some (.string e.name) ∧ w'.cell? ⟨A,1,none⟩ = some (.int .i64 e.addr) ∧ w'.cell? ⟨A,2,none⟩ = some (.int .i64 e.size) ∧ w'.cell? ⟨A,3,none⟩ = some (.int .u32 e.print) ∧ w'.cell? ⟨A,4,none⟩ = some (.int .i64 e.way))) (by kernel_rfl) (⟨a0,a1,a2,a3,a4⟩) (fun hHeld => ?_)
            refine wI 0 ?_
            try simp only [Act.put,gs]
            refine wI 1 ?_
            try simp only [Act.put,gs]
            refine wI 2 ?_
            try simp only [Act.put,gs]
            refine wI 3 ?_
            try simp only [Act.put,gs]
            refine wI 4 ?_
            try simp only [Act.put,gs]
            refine wI 5 ?_
            try simp only [Act.put,gs]
            refine wI 6 ?_
            try simp only [Act.put,gs]
            refine wI 7 ?_
            try simp only [Act.put,gs]
            refine wI 8 ?_
            try simp only [Act.put,gs]
            refine wI 9 ?_
            try simp only [Act.put,gs]
            refine wI 10 ?_
            try simp only [Act.put,gs]
            refine wI 11 ?_
            try simp only [Act.put,gs]
            refine wI 12 ?_
            try simp only [Act.put,gs]
            refine wI 13 ?_
            try simp only [Act.put,gs]
            refine wI 14 ?_
            try simp only [Act.put,gs]
            refine wI 15 ?_
            try simp only [Act.put,gs]
            refine wI 16 ?_
            try simp only [Act.put,gs]
            refine wpAnyH_ready (rs := [17]) (by kernel_rfl) (by simp) ?_
            refine AllReadyH.cons (o := _) rfl (fun K hK => ?_) AllReadyH.nil
            go_simp
            refine (HR.out _).mono ?_
            rintro zz w4 ⟨rfl,o4⟩
            refine hK.out _ _ (keep5 hHeld o4) (fun hHeld => ?_)
            clear hK K
            try simp only [Act.put,gs]
            refine wI 18 ?_
            try simp only [Act.put,gs]
            refine wI 19 ?_
            try simp only [Act.put,gs]
            refine wI 20 ?_
            try simp only [Act.put,gs]
            refine wI 21 ?_
            try simp only [Act.put,gs]
            refine wK 22 ?_
            try simp only [Act.put,gs]
            refine wK 23 ?_
            try simp only [Act.put,gs]
            refine wK 24 ?_
            try simp only [Act.put,gs]
            refine wI 25 ?_
            try simp only [Act.put,gs]
            refine wI 26 ?_
            try simp only [Act.put,gs]
            refine wK 27 ?_
            try simp only [Act.put,gs]
            refine wK 28 ?_
            try simp only [Act.put,gs]
            refine wK 29 ?_
            try simp only [Act.put,gs]
            refine wI 30 ?_
            try simp only [Act.put,gs]
            refine wpAnyH_done (by kernel_rfl) ?_ _
            clear hHeld
            clear hwr d1 d2 d3 d4
            go_wp2_with fail
            go_ret2
            exact ⟨j,by rw [HC.out.1];rfl,(HC.out.2.drew).trans o4⟩
           ·skip
            by_cases r5 : e.way < 0
            ·have d1 : decide (e.addr < 0) = false := by simpa using r1
             have d2 : decide (e.size < 1) = false := by simpa using r2
             have d3 : decide (8192 < e.size) = false := by simpa using r3
             have d4 : decide (16384 - e.room < e.addr) = false := by simpa using r4
             have d5 : decide (e.way < 0) = true := by simpa using r5
             have hc := HRNG.out (by unfold chkRange;simp only [decide_eq_true_eq];omega)
             have hce := checkE_some es (by rw [HH.out.1];exact hn8) j 5 (by rw [HH.out.1];exact hlt) HX.out.2.2 hc (by decide)
             have HC := LH (AI hce (H1.out.2.trans HJ.out.2.1))
             clear hc hce r1 r2 r3 r4 r5
             refine wp_region_held_drew (S := (fun w' => w'.cell? ⟨A,0,none⟩ = some (.string e.name) ∧ w'.cell? ⟨A,1,none⟩ = some (.int .i64 e.addr) ∧ w'.cell? ⟨A,2,none⟩ = some (.int .i64 e.size) ∧ w'.cell? ⟨A,3,none⟩ = some (.int .u32 e.print) ∧ w'.cell? ⟨A,4,none⟩ = some (.int .i64 e.way))) (by kernel_rfl) (⟨a0,a1,a2,a3,a4⟩) (fun hHeld => ?_)
             refine wI 0 ?_
             try simp only [Act.put,gs]
             refine wI 1 ?_
             try simp only [Act.put,gs]
             refine wI 2 ?_
             try simp only [Act.put,gs]
             refine wI 3 ?_
             try simp only [Act.put,gs]
             refine wI 4 ?_
             try simp only [Act.put,gs]
             refine wI 5 ?_
             try simp only [Act.put,gs]
             refine wI 6 ?_
             try simp only [Act.put,gs]
             refine wI 7 ?_
             try simp only [Act.put,gs]
             refine wI 8 ?_
             try simp only [Act.put,gs]
             refine wI 9 ?_
             try simp only [Act.put,gs]
             refine wI 10 ?_
             try simp only [Act.put,gs]
             refine wI 11 ?_
             try simp only [Act.put,gs]
             refine wI 12 ?_
             try simp only [Act.put,gs]
             refine wI 13 ?_
             try simp only [Act.put,gs]
             refine wI 14 ?_
             try simp only [Act.put,gs]
             refine wI 15 ?_
             try simp only [Act.put,gs]
             refine wI 16 ?_
             try simp only [Act.put,gs]
             refine wpAnyH_ready (rs := [17]) (by kernel_rfl) (by simp) ?_
             refine AllReadyH.cons (o := _) rfl (fun K hK => ?_) AllReadyH.nil
             go_simp
             refine (HR.out _).mono ?_
             rintro zz w4 ⟨rfl,o4⟩
             refine hK.out _ _ (keep5 hHeld o4) (fun hHeld => ?_)
             clear hK K
             try simp only [Act.put,gs]
             refine wI 18 ?_
             try simp only [Act.put,gs]
             refine wI 19 ?_
             try simp only [Act.put,gs]
             refine wI 20 ?_
             try simp only [Act.put,gs]
             refine wI 21 ?_
             try simp only [Act.put,gs]
             refine wI 22 ?_
             try simp only [Act.put,gs]
             refine wI 23 ?_
             try simp only [Act.put,gs]
             refine wI 24 ?_
             try simp only [Act.put,gs]
             refine wI 25 ?_
             try simp only [Act.put,gs]
             refine wI 26 ?_
             try simp only [Act.put,gs]
             refine wK 27 ?_
             try simp only [Act.put,gs]
             refine wK 28 ?_
             try simp only [Act.put,gs]
             refine wK 29 ?_
             try simp only [Act.put,gs]
             refine wI 30 ?_
             try simp only [Act.put,gs]
             refine wpAnyH_done (by kernel_rfl) ?_ _
             clear hHeld
             clear hwr d1 d2 d3 d4 d5
             go_wp2_with fail
             go_ret2
             exact ⟨j,by rw [HC.out.1];rfl,(HC.out.2.drew).trans o4⟩
            ·skip
             by_cases r6 : 3 < e.way
             ·have d1 : decide (e.addr < 0) = false := by simpa using r1
              have d2 : decide (e.size < 1) = false := by simpa using r2
              have d3 : decide (8192 < e.size) = false := by simpa using r3
              have d4 : decide (16384 - e.room < e.addr) = false := by simpa using r4
              have d5 : decide (e.way < 0) = false := by simpa using r5
              have d6 : decide (3 < e.way) = true := by simpa using r6
              have hc := HRNG.out (by unfold chkRange;simp only [decide_eq_true_eq];omega)
              have hce := checkE_some es (by rw [HH.out.1];exact hn8) j 5 (by rw [HH.out.1];exact hlt) HX.out.2.2 hc (by decide)
              have HC := LH (AI hce (H1.out.2.trans HJ.out.2.1))
              clear hc hce r1 r2 r3 r4 r5 r6
              refine wp_region_held_drew (S := (fun w' => w'.cell? ⟨A,0,none⟩ = some (.string e.name) ∧ w'.cell? ⟨A,1,none⟩ = some (.int .i64 e.addr) ∧ w'.cell? ⟨A,2,none⟩ = some (.int .i64 e.size) ∧ w'.cell? ⟨A,3,none⟩ = some (.int .u32 e.print) ∧ w'.cell? ⟨A,4,none⟩ = some (.int .i64 e.way))) (by kernel_rfl) (⟨a0,a1,a2,a3,a4⟩) (fun hHeld => ?_)
              refine wI 0 ?_
              try simp only [Act.put,gs]
              refine wI 1 ?_
              try simp only [Act.put,gs]
              refine wI 2 ?_
              try simp only [Act.put,gs]
              refine wI 3 ?_
              try simp only [Act.put,gs]
              refine wI 4 ?_
              try simp only [Act.put,gs]
              refine wI 5 ?_
              try simp only [Act.put,gs]
              refine wI 6 ?_
              try simp only [Act.put,gs]
              refine wI 7 ?_
              try simp only [Act.put,gs]
              refine wI 8 ?_
              try simp only [Act.put,gs]
              refine wI 9 ?_
              try simp only [Act.put,gs]
              refine wI 10 ?_
              try simp only [Act.put,gs]
              refine wI 11 ?_
              try simp only [Act.put,gs]
              refine wI 12 ?_
              try simp only [Act.put,gs]
              refine wI 13 ?_
              try simp only [Act.put,gs]
              refine wI 14 ?_
              try simp only [Act.put,gs]
              refine wI 15 ?_
              try simp only [Act.put,gs]
              refine wI 16 ?_
              try simp only [Act.put,gs]
              refine wpAnyH_ready (rs := [17]) (by kernel_rfl) (by simp) ?_
              refine AllReadyH.cons (o := _) rfl (fun K hK => ?_) AllReadyH.nil
              go_simp
              refine (HR.out _).mono ?_
              rintro zz w4 ⟨rfl,o4⟩
              refine hK.out _ _ (keep5 hHeld o4) (fun hHeld => ?_)
              clear hK K
              try simp only [Act.put,gs]
              refine wI 18 ?_
              try simp only [Act.put,gs]
              refine wI 19 ?_
              try simp only [Act.put,gs]
              refine wI 20 ?_
              try simp only [Act.put,gs]
              refine wI 21 ?_
              try simp only [Act.put,gs]
              refine wI 22 ?_
              try simp only [Act.put,gs]
              refine wI 23 ?_
              try simp only [Act.put,gs]
              refine wI 24 ?_
              try simp only [Act.put,gs]
              refine wI 25 ?_
              try simp only [Act.put,gs]
              refine wI 26 ?_
              try simp only [Act.put,gs]
              refine wI 27 ?_
              try simp only [Act.put,gs]
              refine wI 28 ?_
              try simp only [Act.put,gs]
              refine wI 29 ?_
              try simp only [Act.put,gs]
              refine wI 30 ?_
              try simp only [Act.put,gs]
              refine wpAnyH_done (by kernel_rfl) ?_ _
              clear hHeld
              clear hwr d1 d2 d3 d4 d5 d6
              go_wp2_with fail
              go_ret2
              exact ⟨j,by rw [HC.out.1];rfl,(HC.out.2.drew).trans o4⟩
             ·skip
              have d1 : decide (e.addr < 0) = false := by simpa using r1
              have d2 : decide (e.size < 1) = false := by simpa using r2
              have d3 : decide (8192 < e.size) = false := by simpa using r3
              have d4 : decide (16384 - e.room < e.addr) = false := by simpa using r4
              have d5 : decide (e.way < 0) = false := by simpa using r5
              have d6 : decide (3 < e.way) = false := by simpa using r6
              have HRG := LH (show chkRange e = false by unfold chkRange;simp only [decide_eq_false_iff_not];omega)
              have z1 : 0 ≤ e.addr := by omega
              have z2 : e.addr ≤ 16384 := by omega
              clear r1 r2 r3 r4 r5 r6
              refine wp_region_held_drew (S := (fun w' => w'.cell? ⟨A,0,none⟩ = some (.string e.name) ∧ w'.cell? ⟨A,1,none⟩ = some (.int .i64 e.addr) ∧ w'.cell? ⟨A,2,none⟩ = some (.int .i64 e.size) ∧ w'.cell? ⟨A,3,none⟩ = some (.int .u32 e.print) ∧ w'.cell? ⟨A,4,none⟩ = some (.int .i64 e.way))) (by kernel_rfl) (⟨a0,a1,a2,a3,a4⟩) (fun hHeld => ?_)
              refine wI 0 ?_
              try simp only [Act.put,gs]
              refine wI 1 ?_
              try simp only [Act.put,gs]
              refine wI 2 ?_
              try simp only [Act.put,gs]
              refine wI 3 ?_
              try simp only [Act.put,gs]
              refine wI 4 ?_
              try simp only [Act.put,gs]
              refine wI 5 ?_
              try simp only [Act.put,gs]
              refine wI 6 ?_
              try simp only [Act.put,gs]
              refine wI 7 ?_
              try simp only [Act.put,gs]
              refine wI 8 ?_
              try simp only [Act.put,gs]
              refine wI 9 ?_
              try simp only [Act.put,gs]
              refine wI 10 ?_
              try simp only [Act.put,gs]
              refine wI 11 ?_
              try simp only [Act.put,gs]
              refine wI 12 ?_
              try simp only [Act.put,gs]
              refine wI 13 ?_
              try simp only [Act.put,gs]
              refine wI 14 ?_
              try simp only [Act.put,gs]
              refine wI 15 ?_
              try simp only [Act.put,gs]
              refine wI 16 ?_
              try simp only [Act.put,gs]
              refine wpAnyH_ready (rs := [17]) (by kernel_rfl) (by simp) ?_
              refine AllReadyH.cons (o := _) rfl (fun K hK => ?_) AllReadyH.nil
              go_simp
              refine (HR.out _).mono ?_
              rintro zz w4 ⟨rfl,o4⟩
              refine hK.out _ _ (keep5 hHeld o4) (fun hHeld => ?_)
              clear hK K
              try simp only [Act.put,gs]
              refine wI 18 ?_
              try simp only [Act.put,gs]
              refine wI 19 ?_
              try simp only [Act.put,gs]
              refine wI 20 ?_
              try simp only [Act.put,gs]
              refine wI 21 ?_
              try simp only [Act.put,gs]
              refine wI 22 ?_
              try simp only [Act.put,gs]
              refine wI 23 ?_
              try simp only [Act.put,gs]
              refine wI 24 ?_
              try simp only [Act.put,gs]
              refine wI 25 ?_
              try simp only [Act.put,gs]
              refine wI 26 ?_
              try simp only [Act.put,gs]
              refine wI 27 ?_
              try simp only [Act.put,gs]
              refine wI 28 ?_
              try simp only [Act.put,gs]
              refine wI 29 ?_
              try simp only [Act.put,gs]
              refine wI 30 ?_
              try simp only [Act.put,gs]
              refine wpAnyH_done (by kernel_rfl) ?_ _
              clear hHeld
              clear d1 d2 d3 d4 d5 d6 hwr a0 a1 a2 a3 a4
              have o14 : Only [] wr w4 := ((Only.refl [] wr).drew).trans o4
              have HJ4 := LH (AI (o14.heap HJ.out.1 (by simp)) o14)
              clear o14 o4
              go_wp2_with fail
              go_loopw [85] (fun s85 wx => ∃ i : Nat,i ≤ j ∧ s85 = .int .i64 i ∧ Only [] w4 wx ∧ ∀ (q : Nat) (x : RE),q < i → es[q]? = some x → chkOver e x = false) (fun s85 _ => j - (intOf s85).toNat)
              case atStart => exact ⟨0,Nat.zero_le _,rfl,Only.refl _ _,fun q x hi => by omega⟩
              case round =>
               obtain ⟨i,hij,rfl,oi,hia⟩ := hrel
               have hAi := oi.heap HJ4.out.1 (by simp)
               have hAli := heap_lt hAi
               have o0i := ((H1.out.2.trans HJ.out.2.1).trans HJ4.out.2).trans oi
               by_cases hil : i < j
               ·obtain ⟨x,hxi⟩ : ∃ x,es[i]? = some x := ⟨_,List.getElem?_eq_getElem (by rw [HH.out.1];omega)⟩
                obtain ⟨q0,q1,q2,q3,q4⟩ := HH.out.2.1 i x hxi
                replace q0 := o0i.cell q0 (by simp)
                replace q1 := o0i.cell q1 (by simp)
                replace q2 := o0i.cell q2 (by simp)
                replace q3 := o0i.cell q3 (by simp)
                replace q4 := o0i.cell q4 (by simp)
                have hBi := World.block_lt_of_cell? _ _ q0
                simp only at hBi
                have hxr := chk_range es x i hxi (HX.out.2.2 i hil)
                have v1 : 0 ≤ x.addr ∧ x.addr ≤ 16384 := by
                 have hb := roomE_bd x.size x.way
                 change 0 ≤ x.room ∧ x.room ≤ 8192 at hb
                 unfold chkRange at hxr
                 simp only [decide_eq_false_iff_not] at hxr
                 omega
                have v2 : 0 ≤ x.room ∧ x.room ≤ 8192 := roomE_bd x.size x.way
                obtain ⟨v1a,v1b⟩ := v1
                obtain ⟨v2a,v2b⟩ := v2
                have HI := LH (AI hAi (AI oi (AI hia (AI hxi o0i))))
                clear hAi oi hia hxi o0i hxr
                go_upto_region 19 with fail
                obtain ⟨X,hX⟩ : ∃ X,X = wr.heap.size := ⟨_,rfl⟩
                obtain ⟨w3,hw3⟩ : ∃ w3,w3 = wr.alloc (.cells #[.string x.name,.int .i64 x.addr,.int .i64 x.size,.int .u32 x.print,.int .i64 x.way] 39) := ⟨_,rfl⟩
                have hX3 : w3.heap[X]? = some (.cells #[.string x.name,.int .i64 x.addr,.int .i64 x.size,.int .u32 x.print,.int .i64 x.way] 39 (0,0)) := by rw [hw3,hX];exact heap_alloc_new wr _
                have o3 : Only [] wr w3 := by rw [hw3];exact (Only.refl [] wr).alloc _
                rw [← hX,← hw3]
                have hA3 := o3.heap HI.out.1 (by simp)
                have a0 : w3.cell? ⟨A,0,none⟩ = some (.string e.name) := cell_at hA3 rfl
                have a1 : w3.cell? ⟨A,1,none⟩ = some (.int .i64 e.addr) := cell_at hA3 rfl
                have a2 : w3.cell? ⟨A,2,none⟩ = some (.int .i64 e.size) := cell_at hA3 rfl
                have a3 : w3.cell? ⟨A,3,none⟩ = some (.int .u32 e.print) := cell_at hA3 rfl
                have a4 : w3.cell? ⟨A,4,none⟩ = some (.int .i64 e.way) := cell_at hA3 rfl
                have x0 : w3.cell? ⟨X,0,none⟩ = some (.string x.name) := cell_at hX3 rfl
                have x1 : w3.cell? ⟨X,1,none⟩ = some (.int .i64 x.addr) := cell_at hX3 rfl
                have x2 : w3.cell? ⟨X,2,none⟩ = some (.int .i64 x.size) := cell_at hX3 rfl
                have x3 : w3.cell? ⟨X,3,none⟩ = some (.int .u32 x.print) := cell_at hX3 rfl
                have x4 : w3.cell? ⟨X,4,none⟩ = some (.int .i64 x.way) := cell_at hX3 rfl
                have HRX := LH (fun w => room_is x w)
                have O3 := LH o3
                clear hw3 hX hX3 o3 hA3 q0 q1 q2 q3 q4
                have wx1 : IntKind.i64.wrap (x.addr + x.room) = x.addr + x.room := IntWalk.i64_in _ (by omega)
                have wx2 : IntKind.i64.wrap (e.addr + e.room) = e.addr + e.room := IntWalk.i64_in _ (by omega)
                by_cases t1 : e.addr < x.addr + x.room
                ·have d1 : decide (e.addr < x.addr + x.room) = true := by simpa using t1
                 by_cases t2 : x.addr < e.addr + e.room
                 ·have d2 : decide (x.addr < e.addr + e.room) = true := by simpa using t2
                  have hc := over_err es e x j i HX.out.1 HNO.out HJ.out.2.2 HRG.out HI.out.2.2.2.1 hil (by unfold chkOver;simp only [decide_eq_true_eq];exact ⟨t1,t2⟩)
                  have hce := checkE_some es (by rw [HH.out.1];exact hn8) j 6 (by rw [HH.out.1];exact hlt) HX.out.2.2 hc (by decide)
                  have HC := LH hce
                  clear hc hce t1 t2
                  refine wp_region_held_drew (S := (fun w' => w'.cell? ⟨A,0,none⟩ = some (.string e.name) ∧ w'.cell? ⟨A,1,none⟩ = some (.int .i64 e.addr) ∧ w'.cell? ⟨A,2,none⟩ = some (.int .i64 e.size) ∧ w'.cell? ⟨A,3,none⟩ = some (.int .u32 e.print) ∧ w'.cell? ⟨A,4,none⟩ = some (.int .i64 e.way) ∧ w'.cell? ⟨X,0,none⟩ = some (.string x.name) ∧ w'.cell? ⟨X,1,none⟩ = some (.int .i64 x.addr) ∧ w'.cell? ⟨X,2,none⟩ = some (.int .i64 x.size) ∧ w'.cell? ⟨X,3,none⟩ = some (.int .u32 x.print) ∧ w'.cell? ⟨X,4,none⟩ = some (.int .i64 x.way))) (by kernel_rfl) (⟨a0,a1,a2,a3,a4,x0,x1,x2,x3,x4⟩) (fun hHeld => ?_)
                  refine wI 0 ?_
                  try simp only [Act.put,gs]
                  refine wI 1 ?_
                  try simp only [Act.put,gs]
                  refine wI 2 ?_
                  try simp only [Act.put,gs]
                  refine wI 3 ?_
                  try simp only [Act.put,gs]
                  refine wI 4 ?_
                  try simp only [Act.put,gs]
                  refine wpAnyH_ready (rs := [5]) (by kernel_rfl) (by simp) ?_
                  refine AllReadyH.cons (o := _) rfl (fun K hK => ?_) AllReadyH.nil
                  go_simp
                  refine (HRX.out _).mono ?_
                  rintro zz w4 ⟨rfl,o4⟩
                  refine hK.out _ _ (keep10 hHeld o4) (fun hHeld => ?_)
                  clear hK K
                  try simp only [Act.put,gs]
                  refine wI 6 ?_
                  try simp only [Act.put,gs]
                  refine wI 7 ?_
                  try simp only [Act.put,gs]
                  refine wI 8 ?_
                  try simp only [Act.put,gs]
                  refine wI 9 ?_
                  try simp only [Act.put,gs]
                  refine wI 10 ?_
                  try simp only [Act.put,gs]
                  refine wI 11 ?_
                  try simp only [Act.put,gs]
                  refine wI 12 ?_
                  try simp only [Act.put,gs]
                  refine wI 13 ?_
                  try simp only [Act.put,gs]
                  refine wpAnyH_ready (rs := [14]) (by kernel_rfl) (by simp) ?_
                  refine AllReadyH.cons (o := _) rfl (fun K hK => ?_) AllReadyH.nil
                  go_simp
                  refine (HR.out _).mono ?_
                  rintro zz w5 ⟨rfl,o5⟩
                  refine hK.out _ _ (keep10 hHeld o5) (fun hHeld => ?_)
                  clear hK K
                  try simp only [Act.put,gs]
                  refine wI 15 ?_
                  try simp only [Act.put,gs]
                  refine wI 16 ?_
                  try simp only [Act.put,gs]
                  refine wI 17 ?_
                  try simp only [Act.put,gs]
                  refine wpAnyH_done (by kernel_rfl) ?_ _
                  clear hHeld
                  clear d1 d2 wx1 wx2
                  go_wp2_with fail
                  go_ret2
                  exact ⟨j,by rw [HC.out];rfl,(((HI.out.2.2.2.2.trans O3.out).drew).trans o4).trans o5⟩
                 ·have d2 : decide (x.addr < e.addr + e.room) = false := by simpa using t2
                  have HT := LH t2
                  clear t1 t2
                  refine wp_region_held_drew (S := (fun w' => w'.cell? ⟨A,0,none⟩ = some (.string e.name) ∧ w'.cell? ⟨A,1,none⟩ = some (.int .i64 e.addr) ∧ w'.cell? ⟨A,2,none⟩ = some (.int .i64 e.size) ∧ w'.cell? ⟨A,3,none⟩ = some (.int .u32 e.print) ∧ w'.cell? ⟨A,4,none⟩ = some (.int .i64 e.way) ∧ w'.cell? ⟨X,0,none⟩ = some (.string x.name) ∧ w'.cell? ⟨X,1,none⟩ = some (.int .i64 x.addr) ∧ w'.cell? ⟨X,2,none⟩ = some (.int .i64 x.size) ∧ w'.cell? ⟨X,3,none⟩ = some (.int .u32 x.print) ∧ w'.cell? ⟨X,4,none⟩ = some (.int .i64 x.way))) (by kernel_rfl) (⟨a0,a1,a2,a3,a4,x0,x1,x2,x3,x4⟩) (fun hHeld => ?_)
                  refine wI 0 ?_
                  try simp only [Act.put,gs]
                  refine wI 1 ?_
                  try simp only [Act.put,gs]
                  refine wI 2 ?_
                  try simp only [Act.put,gs]
                  refine wI 3 ?_
                  try simp only [Act.put,gs]
                  refine wI 4 ?_
                  try simp only [Act.put,gs]
                  refine wpAnyH_ready (rs := [5]) (by kernel_rfl) (by simp) ?_
                  refine AllReadyH.cons (o := _) rfl (fun K hK => ?_) AllReadyH.nil
                  go_simp
                  refine (HRX.out _).mono ?_
                  rintro zz w4 ⟨rfl,o4⟩
                  refine hK.out _ _ (keep10 hHeld o4) (fun hHeld => ?_)
                  clear hK K
                  try simp only [Act.put,gs]
                  refine wI 6 ?_
                  try simp only [Act.put,gs]
                  refine wI 7 ?_
                  try simp only [Act.put,gs]
                  refine wI 8 ?_
                  try simp only [Act.put,gs]
                  refine wI 9 ?_
                  try simp only [Act.put,gs]
                  refine wI 10 ?_
                  try simp only [Act.put,gs]
                  refine wI 11 ?_
                  try simp only [Act.put,gs]
                  refine wI 12 ?_
                  try simp only [Act.put,gs]
                  refine wI 13 ?_
                  try simp only [Act.put,gs]
                  refine wpAnyH_ready (rs := [14]) (by kernel_rfl) (by simp) ?_
                  refine AllReadyH.cons (o := _) rfl (fun K hK => ?_) AllReadyH.nil
                  go_simp
                  refine (HR.out _).mono ?_
                  rintro zz w5 ⟨rfl,o5⟩
                  refine hK.out _ _ (keep10 hHeld o5) (fun hHeld => ?_)
                  clear hK K
                  try simp only [Act.put,gs]
                  refine wI 15 ?_
                  try simp only [Act.put,gs]
                  refine wI 16 ?_
                  try simp only [Act.put,gs]
                  refine wI 17 ?_
                  try simp only [Act.put,gs]
                  refine wpAnyH_done (by kernel_rfl) ?_ _
                  clear hHeld
                  clear d1 d2 wx1 wx2 a0 a1 a2 a3 a4 x0 x1 x2 x3 x4
                  go_wp2_with fail
                  refine ⟨⟨i + 1,by omega,by go_num,(((HI.out.2.1.trans O3.out).drew).trans o4).trans o5,fun q y hq hy => ?_⟩,by simp [intOf];omega⟩
                  by_cases hqi : q = i
                  ·subst hqi
                   have h := HI.out.2.2.2.1
                   rw [hy] at h
                   cases h
                   unfold chkOver
                   simp only [decide_eq_false_iff_not]
                   exact fun h => HT.out h.2
                  ·exact HI.out.2.2.1 q y (by omega) hy
                ·have d1 : decide (e.addr < x.addr + x.room) = false := by simpa using t1
                 have HT := LH t1
                 clear t1
                 refine wp_region_held_drew (S := (fun w' => w'.cell? ⟨A,0,none⟩ = some (.string e.name) ∧ w'.cell? ⟨A,1,none⟩ = some (.int .i64 e.addr) ∧ w'.cell? ⟨A,2,none⟩ = some (.int .i64 e.size) ∧ w'.cell? ⟨A,3,none⟩ = some (.int .u32 e.print) ∧ w'.cell? ⟨A,4,none⟩ = some (.int .i64 e.way) ∧ w'.cell? ⟨X,0,none⟩ = some (.string x.name) ∧ w'.cell? ⟨X,1,none⟩ = some (.int .i64 x.addr) ∧ w'.cell? ⟨X,2,none⟩ = some (.int .i64 x.size) ∧ w'.cell? ⟨X,3,none⟩ = some (.int .u32 x.print) ∧ w'.cell? ⟨X,4,none⟩ = some (.int .i64 x.way))) (by kernel_rfl) (⟨a0,a1,a2,a3,a4,x0,x1,x2,x3,x4⟩) (fun hHeld => ?_)
                 refine wI 0 ?_
                 try simp only [Act.put,gs]
                 refine wI 1 ?_
                 try simp only [Act.put,gs]
                 refine wI 2 ?_
                 try simp only [Act.put,gs]
                 refine wI 3 ?_
                 try simp only [Act.put,gs]
                 refine wI 4 ?_
                 try simp only [Act.put,gs]
                 refine wpAnyH_ready (rs := [5]) (by kernel_rfl) (by simp) ?_
                 refine AllReadyH.cons (o := _) rfl (fun K hK => ?_) AllReadyH.nil
                 go_simp
                 refine (HRX.out _).mono ?_
                 rintro zz w4 ⟨rfl,o4⟩
                 refine hK.out _ _ (keep10 hHeld o4) (fun hHeld => ?_)
                 clear hK K
                 try simp only [Act.put,gs]
                 refine wI 6 ?_
                 try simp only [Act.put,gs]
                 refine wI 7 ?_
                 try simp only [Act.put,gs]
                 refine wI 8 ?_
                 try simp only [Act.put,gs]
                 refine wK 9 ?_
                 try simp only [Act.put,gs]
                 refine wK 10 ?_
                 try simp only [Act.put,gs]
                 refine wK 11 ?_
                 try simp only [Act.put,gs]
                 refine wK 12 ?_
                 try simp only [Act.put,gs]
                 refine wK 13 ?_
                 try simp only [Act.put,gs]
                 refine wK 14 ?_
                 try simp only [Act.put,gs]
                 refine wK 15 ?_
                 try simp only [Act.put,gs]
                 refine wK 16 ?_
                 try simp only [Act.put,gs]
                 refine wI 17 ?_
                 try simp only [Act.put,gs]
                 refine wpAnyH_done (by kernel_rfl) ?_ _
                 clear hHeld
                 clear d1 wx1 wx2 a0 a1 a2 a3 a4 x0 x1 x2 x3 x4
                 go_wp2_with fail
                 refine ⟨⟨i + 1,by omega,by go_num,((HI.out.2.1.trans O3.out).drew).trans o4,fun q y hq hy => ?_⟩,by simp [intOf];omega⟩
                 by_cases hqi : q = i
                 ·subst hqi
                  have h := HI.out.2.2.2.1
                  rw [hy] at h
                  cases h
                  unfold chkOver
                  simp only [decide_eq_false_iff_not]
                  exact fun h => HT.out h.1
                 ·exact HI.out.2.2.1 q y (by omega) hy
               ·obtain rfl : i = j := by omega
                have kl2 : ¬ ((i : Int) < (i : Int)) := by omega
                have hc := all_ok es e i HX.out.1 HNO.out HJ.out.2.2 HRG.out hia
                have HC := LH (AI hc o0i)
                clear hc o0i hia oi hAi
                go_wp2_with fail
                refine ⟨⟨i + 1,by omega,by go_num,HC.out.2,fun q hq => ?_⟩,by simp [intOf];omega⟩
                by_cases hqi : q = i
                ·rw [hqi];exact HC.out.1
                ·exact HX.out.2.2 q (by omega)
     ·have hno' : nameOk e.name = false := by simpa using hno
      have hc : chkAt es k = 3 := by
       unfold chkAt
       rw [HX.out.1]
       unfold chk1
       simp only [hno',if_true]
      have hce := checkE_some es (by rw [HH.out.1];exact hn8) k 3 (by rw [HH.out.1];exact hlt) HX.out.2.2 hc (by decide)
      rw [hno'] at HN
      have HC := LH hce
      clear hno hno' hc hce
      go_wp2_with (go_at_call 34;go_loud (refine HN.out.mono ?_;rintro x w2 ⟨rfl,rfl⟩))
      go_ret2
      exact ⟨k,by rw [HC.out];rfl,H1.out.2⟩
    ·obtain rfl : k = n := by omega
     have kl : ¬ ((k : Int) < (k : Int)) := by omega
     have hce := checkE_none es (by rw [HH.out.1];exact hn0) (by rw [HH.out.1];exact hn8) (fun q hq => hj q (by rw [HH.out.1] at hq;exact hq))
     have HC := LH (AI hce ho)
     clear hce ho hj
     go_wp2_with fail
     go_ret2
     exact ⟨0,by rw [HC.out.1];rfl,HC.out.2⟩
end Go.Proofs.YtplaamfoeaaaiaaGreatDoor
