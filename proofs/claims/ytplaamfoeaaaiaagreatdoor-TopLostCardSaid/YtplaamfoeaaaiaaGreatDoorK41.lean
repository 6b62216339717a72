/- A part of the proofs of the laws of lifelinetop (TopNever, TopLost, TopRoom): contracts of functions that these laws reach. No condition of its own. -/
import Derived.Test.YtplaamfoeaaaiaaGreatDoorK02
import Derived.Test.YtplaamfoeaaaiaaGreatDoorK31
import Derived.Test.YtplaamfoeaaaiaaGreatDoorK40
set_option maxRecDepth 100000
set_option maxHeartbeats 8000000
set_option linter.unusedVariables false
namespace Go.Proofs.YtplaamfoeaaaiaaGreatDoor
open Go.RowKit
def fitsE (e : RE) (im : M.B) : Bool := decide ((im.length : Int) = e.size) && decide ((M.printOf im : Int) = e.print)
def rightE (es : List RE) (ims : List M.B) : Nat :=
 if checkE es ≠ 0 then checkE es else if ims.length ≠ es.length then 12 else if (es.zip ims).all (fun p => fitsE p.1 p.2) = true then 0 else 12
theorem rightE_chk (es : List RE) (ims : List M.B) (h : checkE es ≠ 0) : rightE es ims = checkE es := by unfold rightE;rw [if_pos h]
theorem rightE_len (es : List RE) (ims : List M.B) (h : checkE es = 0) (hl : ims.length ≠ es.length) : rightE es ims = 12 := by unfold rightE;rw [if_neg (by simp [h]),if_pos hl]
theorem rightE_bad (es : List RE) (ims : List M.B) (h : checkE es = 0) (hl : ims.length = es.length) (k : Nat) (e : RE) (im : M.B) (he : es[k]? = some e) (hi : ims[k]? = some im) (hb : fitsE e im = false) : rightE es ims = 12 := by
 unfold rightE
 rw [if_neg (by simp [h]),if_neg (by simp [hl]),if_neg ?_]
 rw [List.all_eq_true]
 intro hall
 have : fitsE e im = true := hall (e,im) (by
  apply List.mem_of_getElem? (i := k)
  rw [List.getElem?_zip_eq_some]
  exact ⟨he,hi⟩)
 rw [this] at hb
 cases hb
theorem rightE_ok (es : List RE) (ims : List M.B) (h : checkE es = 0) (hl : ims.length = es.length) (ha : ∀ (k : Nat) (e : RE) (im : M.B),es[k]? = some e → ims[k]? = some im → fitsE e im = true) : rightE es ims = 0 := by
 unfold rightE
 rw [if_neg (by simp [h]),if_neg (by simp [hl]),if_pos ?_]
 rw [List.all_eq_true]
 intro p hp
 obtain ⟨k,hk⟩ := List.getElem?_of_mem hp
 obtain ⟨e,im⟩ := p
 rw [List.getElem?_zip_eq_some] at hk
 exact ha k e im hk.1 hk.2
theorem ImRaw.at0 {w : World} {ro : List Nat} {a : Option Addr} {ims : List M.B} (h : ImRaw w ro a ims) (hn : 0 < ims.length) : ∃ B off,a = some ⟨B,off,none⟩ ∧ ∀ (k : Nat) (im : M.B),ims[k]? = some im → ∃ u,w.cell? ⟨B,off + k,none⟩ = some u ∧ SlcR w ro u im := by
 cases a with
 | none => rw [h.nil rfl] at hn;simp at hn
 | some ad =>
  obtain ⟨B,off,sp⟩ := ad
  have hsp : sp = none := by
   obtain ⟨e0,h0⟩ : ∃ e0,ims[0]? = some e0 := ⟨_,List.getElem?_eq_getElem hn⟩
   obtain ⟨u,hc,_⟩ := h.cell _ rfl _ _ h0
   simpa [Addr.add] using spot_of_cell hc
  subst hsp
  refine ⟨B,off,rfl,fun k im hk => ?_⟩
  obtain ⟨u,hc,hu⟩ := h.cell _ rfl k im hk
  rw [Addr.add_lit] at hc
  exact ⟨u,hc,hu⟩
def RightPost (es : List RE) (ims : List M.B) (w : World) (x : Ending) (w' : World) : Prop := x = .returned (errV (rightE es ims)) ∧ Only [] w w'
set_option maxHeartbeats 20000000 in
theorem right_is (ea : Option Addr) (n ec : Nat) (es : List RE) (ia : Option Addr) (m ic : Nat) (ims : List M.B) (ro : List Nat) (w : World) (he : EsRaw w ea es) (hn : es.length = n) (hec : n ≤ ec) (hnm : ∀ e,e ∈ es → e.name.size ≤ 9223372036854775807) (hi : ImRaw w ro ia ims) (hm : ims.length = m) (hic : m ≤ ic) (hm8 : m ≤ 1048576) (hib : ∀ im,im ∈ ims → im.length ≤ 1048576) (hlive : Live w ro) :
  Calls Tryz.prog 42 #[.slice ea n ec,.slice ia m ic] w (RightPost es ims w) := by
 have HCH := LH (mcheck_is ea n ec es w he hn hec hnm)
 have HH := LH (AI he (AI hn (AI hnm (AI hi (AI hm (AI hib hlive))))))
 clear he hn hnm hi hm hib hlive
 by_cases hc : checkE es = 0
 ·unfold ChkPost at HCH
  rw [hc,errV_zero] at HCH
  have hnn := fun w => neq_nn w
  have HC := LH hc
  clear hc
  by_cases hl : m = n
  ·subst hl
   have hd : ((m : Int) != (m : Int)) = false := by simp
   go_enter Tryz.func42,Tryz.ntmps42
   go_wp2_with (go_at_call 17;go_loud (refine HCH.out.mono ?_;rintro x w1 ⟨kk,rfl,o1⟩))
   have H1 := LH o1
   clear o1
   go_loopw [25] (fun s25 wr => ∃ k : Nat,k ≤ m ∧ s25 = .int .i64 k ∧ Only [] w wr ∧ ∀ (q : Nat) (e : RE) (im : M.B),q < k → es[q]? = some e → ims[q]? = some im → fitsE e im = true) (fun s25 _ => m - (intOf s25).toNat)
   case atStart => exact ⟨0,Nat.zero_le _,rfl,H1.out,fun q e im hq => by omega⟩
   case round =>
    obtain ⟨k,hk,rfl,ho,hall⟩ := hrel
    by_cases hlt : k < m
    ·obtain ⟨e,hek⟩ : ∃ e,es[k]? = some e := ⟨_,List.getElem?_eq_getElem (by rw [HH.out.2.1];exact hlt)⟩
     obtain ⟨im,him⟩ : ∃ im,ims[k]? = some im := ⟨_,List.getElem?_eq_getElem (by rw [HH.out.2.2.2.2.1];exact hlt)⟩
     obtain ⟨B,off,rfl,hcells⟩ := HH.out.1.at0 (by rw [HH.out.2.1];omega)
     obtain ⟨Bi,offi,rfl,hims⟩ := HH.out.2.2.2.1.at0 (by rw [HH.out.2.2.2.2.1];omega)
     obtain ⟨q0,q1,q2,q3,q4⟩ := hcells k e hek
     obtain ⟨u,hu,au,cu,rfl,bu,cu1,cu2,cu3,cu4⟩ := hims k im him
     have hB := World.block_lt_of_cell? w _ q0
     have hBi := World.block_lt_of_cell? w _ hu
     simp only at hB hBi
     replace q0 := ho.cell q0 (by simp)
     replace q1 := ho.cell q1 (by simp)
     replace q2 := ho.cell q2 (by simp)
     replace q3 := ho.cell q3 (by simp)
     replace q4 := ho.cell q4 (by simp)
     replace hu := ho.cell hu (by simp)
     have hBr : B < wr.heap.size := Nat.lt_of_lt_of_le hB ho.size
     have hBir : Bi < wr.heap.size := Nat.lt_of_lt_of_le hBi ho.size
     have haw : im = [] ∨ ∀ ad,au = some ad → ad.block < wr.heap.size := cu4.imp id (fun h ad ea => Nat.lt_of_lt_of_le (HH.out.2.2.2.2.2.2 _ (h ad ea)) ho.size)
     have hbl := HH.out.2.2.2.2.2.1 im (List.mem_of_getElem? him)
     obtain ⟨L,hL⟩ : ∃ L,im.length = L := ⟨_,rfl⟩
     rw [hL] at hbl cu1 hu
     have HX := LH (AI hek (AI him (AI ho (AI hall (AI (bu.of_only ho (.inr (fun ad e => by simp))) (AI haw (AI hL cu3)))))))
     clear hek him ho hall bu haw hL cu3 cu4 hcells hims
     go_upto_region 9 with fail
     obtain ⟨A,hA⟩ : ∃ A,A = wr.heap.size := ⟨_,rfl⟩
     obtain ⟨w2,hw2⟩ : ∃ w2,w2 = wr.alloc (.cells #[.string e.name,.int .i64 e.addr,.int .i64 e.size,.int .u32 e.print,.int .i64 e.way] 39) := ⟨_,rfl⟩
     have hA2 : w2.heap[A]? = some (.cells #[.string e.name,.int .i64 e.addr,.int .i64 e.size,.int .u32 e.print,.int .i64 e.way] 39 (0,0)) := by rw [hw2,hA];exact heap_alloc_new wr _
     have o2 : Only [] wr w2 := by rw [hw2];exact (Only.refl [] wr).alloc _
     rw [← hA,← hw2]
     have a2 : w2.cell? ⟨A,2,none⟩ = some (.int .i64 e.size) := cell_at hA2 rfl
     have a3 : w2.cell? ⟨A,3,none⟩ = some (.int .u32 e.print) := cell_at hA2 rfl
     have i0 : w2.cell? ⟨Bi,offi + k,none⟩ = some (.slice au L cu) := o2.cell hu (by simp)
     have k1 : (k : Int) < (m : Int) := by omega
     have k2 : (0 : Int) ≤ (k : Int) := by omega
     have HPR := LH (fun wx (o : Only [] w2 wx) => print_any au im L cu wx (HX.out.2.2.2.2.1.of_only (o2.trans o) (.inr (fun ad e => by simp))) (HX.out.2.2.2.2.2.1.imp id (fun h ad ea => Nat.lt_of_lt_of_le (h ad ea) (o2.trans o).size)) HX.out.2.2.2.2.2.2.1 (by omega))
     have O2 := LH (HX.out.2.2.1.trans o2)
     clear hw2 hA hA2 o2 q0 q1 q2 q3 q4 hu
     by_cases t1 : (L : Int) = e.size
     ·have d1 : ((L : Int) != e.size) = false := by simpa using t1
      by_cases t2 : (M.printOf im : Int) = e.print
      ·have d2 : ((M.printOf im : Int) != e.print) = false := by simpa using t2
       have hf : fitsE e im = true := by unfold fitsE;rw [HX.out.2.2.2.2.2.2.1];simp [t1,t2]
       have HF := LH hf
       clear t1 t2 hf
       refine wp_region_held_drew (S := (fun w' => w'.cell? ⟨Bi,offi + k,none⟩ = some (.slice au L cu) ∧ w'.cell? ⟨A,2,none⟩ = some (.int .i64 e.size) ∧ w'.cell? ⟨A,3,none⟩ = some (.int .u32 e.print))) (by kernel_rfl) (⟨i0,a2,a3⟩) (fun hHeld => ?_)
       refine wI 0 ?_
       try simp only [Act.put,gs]
       refine wI 1 ?_
       try simp only [Act.put,gs]
       refine wI 2 ?_
       try simp only [Act.put,gs]
       refine wI 3 ?_
       try simp only [Act.put,gs]
       refine wI 4 ?_
       try simp only [Act.put,gs]
       refine wI 5 ?_
       try simp only [Act.put,gs]
       refine wI 6 ?_
       try simp only [Act.put,gs]
       refine wI 7 ?_
       try simp only [Act.put,gs]
       refine wI 8 ?_
       try simp only [Act.put,gs]
       refine wI 9 ?_
       try simp only [Act.put,gs]
       refine wI 10 ?_
       try simp only [Act.put,gs]
       refine wI 11 ?_
       try simp only [Act.put,gs]
       refine wI 12 ?_
       try simp only [Act.put,gs]
       refine wI 14 ?_
       try simp only [Act.put,gs]
       refine wI 15 ?_
       try simp only [Act.put,gs]
       refine wpAnyH_ready (rs := [13]) (by kernel_rfl) (by simp) ?_
       refine AllReadyH.cons (o := _) rfl (fun K hK => ?_) AllReadyH.nil
       go_simp
       refine (HPR.out _ ((Only.refl [] w2).drew)).mono ?_
       rintro zz w4 ⟨rfl,o4⟩
       refine hK.out _ _ (⟨o4.cell hHeld.1 (by simp),o4.cell hHeld.2.1 (by simp),o4.cell hHeld.2.2 (by simp)⟩) (fun hHeld => ?_)
       clear hK K
       try simp only [Act.put,gs]
       refine wI 16 ?_
       try simp only [Act.put,gs]
       refine wI 17 ?_
       try simp only [Act.put,gs]
       refine wpAnyH_done (by kernel_rfl) ?_ _
       clear hHeld
       clear d1 d2 i0 a2 a3
       go_wp2_with fail
       refine ⟨⟨k + 1,by omega,by go_num,(O2.out.drew).trans o4,fun q e' im' hq h1 h2 => ?_⟩,by simp [intOf];omega⟩
       by_cases hqk : q = k
       ·subst hqk
        have g1 := HX.out.1
        have g2 := HX.out.2.1
        rw [h1] at g1
        rw [h2] at g2
        cases g1
        cases g2
        exact HF.out
       ·exact HX.out.2.2.2.1 q e' im' (by omega) h1 h2
      ·have d2 : ((M.printOf im : Int) != e.print) = true := by simpa using t2
       have hr := rightE_bad es ims HC.out (by rw [HH.out.2.2.2.2.1,HH.out.2.1]) k e im HX.out.1 HX.out.2.1 (by unfold fitsE;simp [t2])
       have HR := LH hr
       clear t1 t2 hr
       refine wp_region_held_drew (S := (fun w' => w'.cell? ⟨Bi,offi + k,none⟩ = some (.slice au L cu) ∧ w'.cell? ⟨A,2,none⟩ = some (.int .i64 e.size) ∧ w'.cell? ⟨A,3,none⟩ = some (.int .u32 e.print))) (by kernel_rfl) (⟨i0,a2,a3⟩) (fun hHeld => ?_)
       refine wI 0 ?_
       try simp only [Act.put,gs]
       refine wI 1 ?_
       try simp only [Act.put,gs]
       refine wI 2 ?_
       try simp only [Act.put,gs]
       refine wI 3 ?_
       try simp only [Act.put,gs]
       refine wI 4 ?_
       try simp only [Act.put,gs]
       refine wI 5 ?_
       try simp only [Act.put,gs]
       refine wI 6 ?_
       try simp only [Act.put,gs]
       refine wI 7 ?_
       try simp only [Act.put,gs]
       refine wI 8 ?_
       try simp only [Act.put,gs]
       refine wI 9 ?_
       try simp only [Act.put,gs]
       refine wI 10 ?_
       try simp only [Act.put,gs]
       refine wI 11 ?_
       try simp only [Act.put,gs]
       refine wI 12 ?_
       try simp only [Act.put,gs]
       refine wI 14 ?_
       try simp only [Act.put,gs]
       refine wI 15 ?_
       try simp only [Act.put,gs]
       refine wpAnyH_ready (rs := [13]) (by kernel_rfl) (by simp) ?_
       refine AllReadyH.cons (o := _) rfl (fun K hK => ?_) AllReadyH.nil
       go_simp
       refine (HPR.out _ ((Only.refl [] w2).drew)).mono ?_
       rintro zz w4 ⟨rfl,o4⟩
       refine hK.out _ _ (⟨o4.cell hHeld.1 (by simp),o4.cell hHeld.2.1 (by simp),o4.cell hHeld.2.2 (by simp)⟩) (fun hHeld => ?_)
       clear hK K
       try simp only [Act.put,gs]
       refine wI 16 ?_
       try simp only [Act.put,gs]
       refine wI 17 ?_
       try simp only [Act.put,gs]
       refine wpAnyH_done (by kernel_rfl) ?_ _
       clear hHeld
       clear d1 d2 i0 a2 a3
       go_wp2_with fail
       go_ret
       exact ⟨by rw [HR.out];rfl,(O2.out.drew).trans o4⟩
     ·have d1 : ((L : Int) != e.size) = true := by simpa using t1
      have hr := rightE_bad es ims HC.out (by rw [HH.out.2.2.2.2.1,HH.out.2.1]) k e im HX.out.1 HX.out.2.1 (by unfold fitsE;rw [HX.out.2.2.2.2.2.2.1];simp [t1])
      have HR := LH hr
      clear t1 hr
      refine wp_region_held_drew (S := (fun w' => w'.cell? ⟨Bi,offi + k,none⟩ = some (.slice au L cu) ∧ w'.cell? ⟨A,2,none⟩ = some (.int .i64 e.size) ∧ w'.cell? ⟨A,3,none⟩ = some (.int .u32 e.print))) (by kernel_rfl) (⟨i0,a2,a3⟩) (fun hHeld => ?_)
      refine wI 0 ?_
      try simp only [Act.put,gs]
      refine wI 1 ?_
      try simp only [Act.put,gs]
      refine wI 2 ?_
      try simp only [Act.put,gs]
      refine wI 3 ?_
      try simp only [Act.put,gs]
      refine wI 4 ?_
      try simp only [Act.put,gs]
      refine wI 5 ?_
      try simp only [Act.put,gs]
      refine wI 6 ?_
      try simp only [Act.put,gs]
      refine wI 7 ?_
      try simp only [Act.put,gs]
      refine wI 8 ?_
      try simp only [Act.put,gs]
      refine wK 9 ?_
      try simp only [Act.put,gs]
      refine wK 10 ?_
      try simp only [Act.put,gs]
      refine wK 11 ?_
      try simp only [Act.put,gs]
      refine wK 12 ?_
      try simp only [Act.put,gs]
      refine wK 13 ?_
      try simp only [Act.put,gs]
      refine wK 14 ?_
      try simp only [Act.put,gs]
      refine wK 15 ?_
      try simp only [Act.put,gs]
      refine wK 16 ?_
      try simp only [Act.put,gs]
      refine wI 17 ?_
      try simp only [Act.put,gs]
      refine wpAnyH_done (by kernel_rfl) ?_ _
      clear hHeld
      clear d1 i0 a2 a3
      go_wp2_with fail
      go_ret
      exact ⟨by rw [HR.out];rfl,O2.out.drew⟩
    ·obtain rfl : k = m := by omega
     have kl : ¬ ((k : Int) < (k : Int)) := by omega
     have hr := rightE_ok es ims HC.out (by rw [HH.out.2.2.2.2.1,HH.out.2.1]) (fun q e im h1 h2 => hall q e im (by have := (List.getElem?_eq_some_iff.1 h1).1;rw [HH.out.2.1] at this;exact this) h1 h2)
     have HR := LH (AI hr ho)
     clear hr ho hall
     go_wp2_with fail
     go_ret
     exact ⟨by rw [HR.out.1];rfl,HR.out.2⟩
  ·have hd : ((m : Int) != (n : Int)) = true := by simp;omega
   have hr := rightE_len es ims HC.out (by rw [HH.out.2.2.2.2.1,HH.out.2.1];exact hl)
   have HR := LH hr
   clear hr hl
   go_enter Tryz.func42,Tryz.ntmps42
   go_wp2_with (go_at_call 17;go_loud (refine HCH.out.mono ?_;rintro x w1 ⟨kk,rfl,o1⟩))
   go_ret
   exact ⟨by rw [HR.out];rfl,o1⟩
 ·unfold ChkPost at HCH
  have hr := rightE_chk es ims hc
  rw [errV_pos (by omega)] at HCH
  have hnn := fun w => neq_in w 57 (.int .i64 (checkE es))
  have hp := errV_pos (e := checkE es) (by omega)
  have HR := LH (AI hr hp)
  clear hr hp hc
  obtain ⟨v,hv⟩ : ∃ v,checkE es = v := ⟨_,rfl⟩
  rw [hv] at HCH hnn
  have HV := LH hv
  clear hv
  go_enter Tryz.func42,Tryz.ntmps42
  go_wp2_with (go_at_call 17;go_loud (refine HCH.out.mono ?_;rintro x w1 ⟨kk,rfl,o1⟩))
  go_ret
  exact ⟨by rw [HR.out.1,HR.out.2,HV.out];rfl,o1⟩
theorem Wired.base0 {w : World} {P base : Nat} {aa : Option Addr} {ca : Nat} {vm : Value} {x : M.Wire} (h : Wired w P base aa ca vm x) : Wired w P 0 aa ca vm x := by
 obtain ⟨xs,hm⟩ := h.marks
 refine ⟨h.str,fun k y hk => ?_,⟨xs,ownsRow_base hm (Nat.zero_le _)⟩,Nat.zero_le _,h.sep,h.nle,h.mle,h.ale⟩
 obtain ⟨g,e,_,g2,g3,y0,y1,y2,y3⟩ := h.acts k y hk
 exact ⟨g,e,Nat.zero_le _,g2,g3,y0,y1,y2,y3⟩
theorem wireIs_new {w : World} {P N : Nat} {aa : Option Addr} {ca : Nat} {xs : List M.WAct} (h : Wired w P N aa ca (.slice none 0 0) ⟨xs,0,0⟩) (ha : ∀ ad,aa = some ad → N ≤ ad.block ∧ ad.block < P) (hN : N ≤ P) (hp : ∀ y,y ∈ xs → y.insert = false) :
  ∃ fd,WireIs w P fd ⟨xs,0,0⟩ ∧ ∀ b,b ∈ fd → N ≤ b := by
 have hP := heap_lt h.str
 refine ⟨P :: (match aa with | none => [] | some ad => [ad.block]),⟨aa,ca,none,0,⟨h.base0,hp,by simp,fun ad e _ => by subst e;simp,fun g e => by simp [Value.ownBlock] at e,fun b hb => ?_⟩⟩,fun b hb => ?_⟩
 ·rcases List.mem_cons.1 hb with rfl | hb
  ·exact hP
  ·cases aa with
   | none => simp at hb
   | some ad => simp at hb;subst hb;have := (ha ad rfl).2;omega
 ·rcases List.mem_cons.1 hb with rfl | hb
  ·exact hN
  ·cases aa with
   | none => simp at hb
   | some ad => simp at hb;subst hb;exact (ha ad rfl).1
def sys0 (c : M.Cfg) (tries room : Nat) (es : List M.Entry) (ims : List M.B) (down : List M.WAct) : M.Sys :=
 ⟨(host0 c tries room es ims).send [13],board0 c,⟨down,0,0⟩,⟨[],0,0⟩,0⟩
def worldA (H T D U : Nat) : Array Value := #[.pointer (some ⟨H,0,none⟩),.pointer (some ⟨T,0,none⟩),.pointer (some ⟨D,0,none⟩),.pointer (some ⟨U,0,none⟩),.int .i64 0,.int .i64 0]
def WofPost (c : M.Cfg) (tries room : Nat) (es : List RE) (ims : List M.B) (down : List M.WAct) (r : Nat) (w : World) (e : Ending) (w' : World) : Prop :=
 ∃ W H T D U,e = .returned (.pointer (some ⟨W,0,none⟩)) ∧ Only [] w w' ∧ w.heap.size ≤ W ∧ (r = 0 → ∃ f,SysAt w' W H T D U f 0 (sys0 c tries room (es.map RE.toM) ims down) ∧ ∀ b,b ∈ allF f → w.heap.size ≤ b) ∧ (r ≠ 0 → w'.heap[W]? = some (.cells (worldA H T D U) 55 (0,0)) ∧ EndedAt w' H r ∧ w.heap.size ≤ H ∧ ∃ fd,WireIs w' D fd ⟨down,0,0⟩ ∧ ∀ b,b ∈ fd → w.heap.size ≤ b)
def sysF (W : Nat) (l1 l2 l3 l4 : List Nat) : Nat → List Nat
 | 0 => [W]
 | 1 => l1
 | 2 => l2
 | 3 => l3
 | 4 => l4
 | _ => []
theorem sys_make {w : World} {W H T D U N0 N1 N2 N3 N4 : Nat} {l1 l2 l3 l4 : List Nat} {s : M.Sys} (hs : w.heap[W]? = some (.cells (worldA H T D U) 55 (0,0))) (ht : s.ticks = 0) (hg : Glob w) (hgN : ∀ b,b ∈ glb → b < N0) (h1 : HostIs w H l1 s.host) (h2 : Boarded w T l2 0 s.board) (h3 : WireIs w D l3 s.down) (h4 : WireIs w U l4 s.up) (b1 : ∀ b,b ∈ l1 → N0 ≤ b ∧ b < N1) (b2 : ∀ b,b ∈ l2 → N1 ≤ b ∧ b < N2) (b3 : ∀ b,b ∈ l3 → N2 ≤ b ∧ b < N3) (b4 : ∀ b,b ∈ l4 → N3 ≤ b ∧ b < N4) (hW : N4 ≤ W) (n1 : N0 ≤ N1) (n2 : N1 ≤ N2) (n3 : N2 ≤ N3) (n4 : N3 ≤ N4) :
  SysAt w W H T D U (sysF W l1 l2 l3 l4) 0 s ∧ ∀ b,b ∈ allF (sysF W l1 l2 l3 l4) → N0 ≤ b := by
 have hall : ∀ j b,b ∈ sysF W l1 l2 l3 l4 j → N0 ≤ b := by
  intro j b hb
  unfold sysF at hb
  split at hb
  ·simp at hb;omega
  ·exact (b1 b hb).1
  ·have := b2 b hb;omega
  ·have := b3 b hb;omega
  ·have := b4 b hb;omega
  ·simp at hb
 refine ⟨⟨by rw [ht];exact hs,rfl,⟨fun b => if b < N1 then 1 else if b < N2 then 2 else if b < N3 then 3 else if b < N4 then 4 else 0,fun j b hb => ?_,fun j b hb => ?_⟩,hg,fun j b hb hx => ?_,h1,h2,h3,h4⟩,fun b hb => ?_⟩
 ·unfold sysF at hb
  split at hb
  ·simp at hb;rw [if_neg (by omega),if_neg (by omega),if_neg (by omega),if_neg (by omega)]
  ·have := b1 b hb;rw [if_pos (by omega)]
  ·have := b2 b hb;rw [if_neg (by omega),if_pos (by omega)]
  ·have := b3 b hb;rw [if_neg (by omega),if_neg (by omega),if_pos (by omega)]
  ·have := b4 b hb;rw [if_neg (by omega),if_neg (by omega),if_neg (by omega),if_pos (by omega)]
  ·simp at hb
 ·unfold sysF at hb
  split at hb
  ·simp at hb;subst hb;exact heap_lt hs
  ·exact h1.live b hb
  ·exact h2.live b hb
  ·exact h3.live b hb
  ·exact h4.live b hb
  ·simp at hb
 ·have := hall j b hb
  have := hgN b hx
  omega
 ·obtain ⟨j,_,hb⟩ := mem_allF.1 hb
  exact hall j b hb
theorem wof_fin {w w0 w1 w2 w3 w4 : World} {H T D U ca3 ca4 r tries room : Nat} {aa3 aa4 : Option Addr} {f2 : List Nat} {c : M.Cfg} {es : List RE} {ims : List M.B} {down : List M.WAct} (hgl : Glob w) (hdp : ∀ y,y ∈ down → y.insert = false) (o0 : Only [] w w0) (o1 : Only [] w0 w1) (hH : w0.heap.size ≤ H) (hr1 : r ≠ 0 → EndedAt w1 H r) (hr0 : r = 0 → ∃ fp,HostIs w1 H fp ((host0 c tries room (es.map RE.toM) ims).send [13]) ∧ ∀ b,b ∈ fp → w0.heap.size ≤ b) (hb2 : Boarded w2 T f2 0 (board0 c)) (hf2 : ∀ b,b ∈ f2 → w1.heap.size ≤ b) (o2 : Only [] w1 w2) (hD3 : w2.heap.size ≤ D) (hw3 : Wired w3 D w2.heap.size aa3 ca3 (.slice none 0 0) ⟨down,0,0⟩) (ha3 : ∀ ad,aa3 = some ad → w2.heap.size ≤ ad.block ∧ ad.block < D) (o3 : Only [] w2 w3) (hD4 : w3.heap.size ≤ U) (hw4 : Wired w4 U w3.heap.size aa4 ca4 (.slice none 0 0) ⟨[],0,0⟩) (ha4 : ∀ ad,aa4 = some ad → w3.heap.size ≤ ad.block ∧ ad.block < U) (o4 : Only [] w3 w4) :
  WofPost c tries room es ims down r w (.returned (.pointer (some ⟨w4.heap.size,0,none⟩))) (w4.alloc (.cells (worldA H T D U) 55)) := by
 have o5 : Only [] w4 (w4.alloc (.cells (worldA H T D U) 55)) := (Only.refl [] w4).alloc _
 have o04 := ((((o0.trans o1).trans o2).trans o3).trans o4)
 have hs := heap_alloc_new w4 (.cells (worldA H T D U) 55)
 obtain ⟨fd,hfd,hfdl⟩ := wireIs_new hw3 ha3 hD3 hdp
 obtain ⟨fu,hfu,hful⟩ := wireIs_new hw4 ha4 hD4 (fun y hy => by simp at hy)
 have s0 := o0.size
 have s1 := o1.size
 have s2 := o2.size
 have s3 := o3.size
 have s4 := o4.size
 refine ⟨w4.heap.size,H,T,D,U,rfl,o04.trans o5,o04.size,fun h0 => ?_,fun hne => ⟨hs,?_,by omega,fd,hfd.of_only (o4.trans o5) (fun b _ => by simp),fun b hb => by have := hfdl b hb;omega⟩⟩
 ·obtain ⟨fp,hI,hf⟩ := hr0 h0
  have h1 := hI.of_only (((o2.trans o3).trans o4).trans o5) (fun b _ => by simp)
  have hb := hb2.of_only ((o3.trans o4).trans o5) (fun b _ => by simp)
  obtain ⟨k1,k2⟩ := sys_make (N0 := w.heap.size) (N1 := w1.heap.size) (N2 := w2.heap.size) (N3 := w3.heap.size) (N4 := w4.heap.size) (s := sys0 c tries room (es.map RE.toM) ims down) hs rfl (hgl.of_none (o04.trans o5)) (glb_lt hgl) h1 hb (hfd.of_only (o4.trans o5) (fun b _ => by simp)) (hfu.of_only o5 (fun b _ => by simp)) (fun b hb => ⟨by have := hf b hb;omega,hI.live b hb⟩) (fun b hb => ⟨hf2 b hb,hb2.live b hb⟩) (fun b hb => ⟨hfdl b hb,hfd.live b hb⟩) (fun b hb => ⟨hful b hb,hfu.live b hb⟩) (Nat.le_refl _) (by omega) (by omega) (by omega) (by omega)
  exact ⟨_,k1,k2⟩
 ·obtain ⟨a1,a2,a3,a4,a5,a6,a7,a8,a9,a10,a11,a12,a13,a14,a15,a16,a17,h⟩ := hr1 hne
  exact ⟨a1,a2,a3,a4,a5,a6,a7,a8,a9,a10,a11,a12,a13,a14,a15,a16,a17,(((o2.trans o3).trans o4).trans o5).heap h (by simp)⟩
theorem wof_is (c : M.Cfg) (tries room : Nat) (ea : Option Addr) (n ec : Nat) (es : List RE) (ia : Option Addr) (m ic : Nat) (ims : List M.B) (ro : List Nat) (da : Option Addr) (dn dc : Nat) (down : List M.WAct) (w : World) (hc : CfgOk c) (h1 : 1 ≤ tries) (h2 : tries ≤ 9) (h3 : 1 ≤ room) (h4 : room ≤ 4096) (he : EsRaw w ea es) (hn : es.length = n) (hec : n ≤ ec) (hen : ea = none → ec = 0) (hn8 : n ≤ 1000000) (hnm : ∀ e,e ∈ es → e.name.size ≤ 9223372036854775807) (hi : ImRaw w ro ia ims) (hm : ims.length = m) (hic : m ≤ ic) (hm8 : m ≤ 1048576) (hib : ∀ im,im ∈ ims → im.length ≤ 1048576) (hlive : Live w ro) (hgl : Glob w) (hd : ActsIn w da dn dc down) (hdn : dn ≤ 65536) (hdp : ∀ y,y ∈ down → y.insert = false) (hgood : rightE es ims = 0 → n ≤ 8 ∧ ∀ e,e ∈ es → e.Pos) :
  Calls Tryz.prog 10 #[.agg #[.int .i64 c.tries,.int .i64 c.wait,.int .i64 tries,.int .i64 room,.slice none 0 0],.slice ea n ec,.slice ia m ic,.slice da dn dc,.slice none 0 0,.int .i64 0] w (WofPost c tries room es ims down (rightE es ims) w) := by
 have HOF := LH (fun wx (o : Only [] w wx) => hof_is c tries room ea n ec es ia m ic ims ro wx hc h1 h2 h3 h4 (he.of_only o (fun ad e _ => by simp)) hn hen hn8 (hi.of_only o (fun b _ => by simp)) hm hic hm8 hib (hgl.of_none o) (rightE es ims) (fun wy o2 => right_is ea n ec es ia m ic ims ro wy ((he.of_only o (fun ad e _ => by simp)).of_only o2 (fun ad e _ => by simp)) hn hec hnm ((hi.of_only o (fun b _ => by simp)).of_only o2 (fun b _ => by simp)) hm hic hm8 hib (hlive.ev (o.trans o2).size)) hgood)
 have HB := LH (fun wx => bof_any c wx hc)
 have HD := LH (fun wx (o : Only [] w wx) => wof_any da dn dc down wx (by
  obtain ⟨e1,e2⟩ := hd
  refine ⟨e1,?_⟩
  rcases e2 with e2 | ⟨g,eg,hpos,hcell⟩
  ·exact .inl e2
  ·exact .inr ⟨g,eg,hpos,fun k y hk => by
    obtain ⟨y0,y1,y2,y3⟩ := hcell k y hk
    exact ⟨o.cell y0 (by simp),o.cell y1 (by simp),o.cell y2 (by simp),o.cell y3 (by simp)⟩⟩) hdn)
 have HU := LH (fun wx => wof_any none 0 0 [] wx ⟨rfl,.inl ⟨rfl,rfl,rfl⟩⟩ (by omega))
 have HG := LH (AI hgl hdp)
 clear hc he hn hec hen hnm hi hm hic hib hlive hgl hd hdp hgood
 go_enter Tryz.func10,Tryz.ntmps10
 go_upto_region 1 with fail
 obtain ⟨C,hC⟩ : ∃ C,C = w.heap.size := ⟨_,rfl⟩
 obtain ⟨w0,hw0⟩ : ∃ w0,w0 = w.alloc (.cells #[.int .i64 c.tries,.int .i64 c.wait,.int .i64 tries,.int .i64 room,.slice none 0 0] 34) := ⟨_,rfl⟩
 have hC0 : w0.heap[C]? = some (.cells #[.int .i64 c.tries,.int .i64 c.wait,.int .i64 tries,.int .i64 room,.slice none 0 0] 34 (0,0)) := by rw [hw0,hC];exact heap_alloc_new w _
 have o0 : Only [] w w0 := by rw [hw0];exact (Only.refl [] w).alloc _
 rw [← hC,← hw0]
 have a0 : w0.cell? ⟨C,0,none⟩ = some (.int .i64 c.tries) := cell_at hC0 rfl
 have a1 : w0.cell? ⟨C,1,none⟩ = some (.int .i64 c.wait) := cell_at hC0 rfl
 have a2 : w0.cell? ⟨C,2,none⟩ = some (.int .i64 tries) := cell_at hC0 rfl
 have a3 : w0.cell? ⟨C,3,none⟩ = some (.int .i64 room) := cell_at hC0 rfl
 have a4 : w0.cell? ⟨C,4,none⟩ = some (.slice none 0 0) := cell_at hC0 rfl
 have H0 := LH (AI hC0 (AI o0 hC))
 clear hC0 o0 hw0 hC
 go_region_held3 (fun w' => w'.cell? ⟨C,0,none⟩ = some (.int .i64 c.tries) ∧ w'.cell? ⟨C,1,none⟩ = some (.int .i64 c.wait) ∧ w'.cell? ⟨C,2,none⟩ = some (.int .i64 tries) ∧ w'.cell? ⟨C,3,none⟩ = some (.int .i64 room) ∧ w'.cell? ⟨C,4,none⟩ = some (.slice none 0 0)) (first | exact ⟨a0,a1,a2,a3,a4⟩ | exact H6.out | exact keep5 ⟨a0,a1,a2,a3,a4⟩ H4.out.2.2.2.2.2 | exact keep5 ⟨a0,a1,a2,a3,a4⟩ H3.out.2.2.2.2.2 | exact keep5 ⟨a0,a1,a2,a3,a4⟩ H2.out.2.2.2 | exact keep5 ⟨a0,a1,a2,a3,a4⟩ H1.out.2.2.2.2 | go_keep) (first
  | (go_at_call 23;go_loud (refine (HOF.out w0.drew (H0.out.2.1.drew)).mono ?_;rintro e w1 ⟨H,rfl,o1,hHf,hr1,hr0⟩;have H1 := LH (AI o1 (AI hHf (AI hr1 (AI hr0 (((Only.refl [] w0).drew).trans o1)))));clear o1 hHf hr1 hr0))
  | (go_at_call 24;go_loud (refine (HB.out w1).mono ?_;rintro e w2 ⟨T,f2,rfl,hb2,hf2,hT2,o2⟩;have H2 := LH (AI hb2 (AI hf2 (AI o2 (H1.out.2.2.2.2.trans o2))));clear hb2 hf2 hT2 o2))
  | (go_at_call 25;go_loud (refine (HD.out w2 (H0.out.2.1.trans H2.out.2.2.2)).mono ?_;rintro e w3 ⟨D,aa3,ca3,rfl,hD3,hw3,ha3,o3⟩;have H3 := LH (AI hD3 (AI hw3 (AI ha3 (AI o3 (AI trivial (H2.out.2.2.2.trans o3))))));clear hD3 hw3 ha3 o3))
  | (go_at_call 25;go_loud (refine (HU.out w3).mono ?_;rintro e w4 ⟨U,aa4,ca4,rfl,hD4,hw4,ha4,o4⟩;have H6 := LH (keep5 (keep5 ⟨a0,a1,a2,a3,a4⟩ (H3.out.2.2.2.2.2.trans o4)) ((Only.refl [] w4).alloc (.cells (worldA H T D U) 55)));have H4 := LH (AI hD4 (AI hw4 (AI ha4 (AI o4 (AI trivial (H3.out.2.2.2.2.2.trans o4))))));clear hD4 hw4 ha4 o4)))
 all_goals go_wp2_with fail
 all_goals go_ret
 all_goals exact wof_fin HG.out.1 HG.out.2 (H0.out.2.1.drew) H1.out.1 H1.out.2.1 H1.out.2.2.1 H1.out.2.2.2.1 H2.out.1 H2.out.2.1 H2.out.2.2.1 H3.out.1 H3.out.2.1 H3.out.2.2.1 H3.out.2.2.2.1 H4.out.1 H4.out.2.1 H4.out.2.2.1 H4.out.2.2.2.1
def tbl : List UInt8 := [97,98,99,88,89,90,48,49,46,45,95]
def tb (c : UInt8) : UInt8 := tbl.getD (c.toNat % 11) 0
theorem tbl_at : ∀ r : Fin 11,(⟨#[97,98,99,88,89,90,48,49,46,45,95]⟩ : ByteArray).extract r.val (r.val + 1) = ⟨#[tbl.getD r.val 0]⟩ := by decide +kernel
def lawName (bs : List UInt8) : List UInt8 := 102 :: (bs.take 8).map tb
def lawPre (bs : List UInt8) (k : Nat) : List UInt8 := 102 :: (bs.take (min k 8)).map tb
theorem lawPre_end (bs : List UInt8) (k : Nat) (h : bs.length = k) : lawPre bs k = lawName bs := by
 have ht : bs.take (min k 8) = bs.take 8 := by
  rcases Nat.le_total k 8 with h' | h'
  ·rw [Nat.min_eq_left h',← h,List.take_length,List.take_of_length_le (by omega)]
  ·rw [Nat.min_eq_right h']
 unfold lawPre lawName
 rw [ht]
theorem lawPre_stay (bs : List UInt8) (k : Nat) (h : ¬ k < 8) : lawPre bs (k + 1) = lawPre bs k := by
 unfold lawPre
 rw [Nat.min_eq_right (by omega),Nat.min_eq_right (by omega)]
theorem name_step (bs : List UInt8) (k : Nat) (hk : k < bs.length) (h8 : k < 8) : lawPre bs (k + 1) = lawPre bs k ++ [tb (bs.getD k 0)] := by
 unfold lawPre
 rw [Nat.min_eq_left (by omega),Nat.min_eq_left (by omega),List.take_succ_eq_append_getElem hk,List.map_append]
 simp only [List.map_cons,List.map_nil,List.cons_append]
 simp [List.getD,hk]
theorem lname_is (a : Option Addr) (n c : Nat) (bs : List UInt8) (w : World) (hb : Bytes w a bs) (hn : bs.length = n) (hN : n ≤ 9223372036854775807) :
  Calls Tryz.prog 80 #[.slice a n c] w fun e w' => e = .returned (strB (lawName bs)) ∧ w = w' := by
 have HB := LH (AI hb hn)
 clear hb hn
 go_enter Tryz.func80,Tryz.ntmps80
 go_wp2_with fail
 go_loop [3,8] (fun s3 s8 => ∃ k : Nat,k ≤ n ∧ s8 = .int .i64 k ∧ s3 = strB (lawPre bs k)) (fun _ s8 => n - (intOf s8).toNat)
 case atStart => exact ⟨0,Nat.zero_le _,rfl,rfl⟩
 case round =>
  obtain ⟨k,hk,rfl,rfl⟩ := hrel
  by_cases hlt : k < n
  ·have hkb : k < bs.length := by rw [HB.out.2];exact hlt
   obtain ⟨B,off,rfl,hc⟩ := HB.out.1.at k hkb
   obtain ⟨x,hx⟩ : ∃ x,x = bs.getD k 0 := ⟨_,rfl⟩
   rw [← hx] at hc
   by_cases h8 : k < 8
   ·have hst := name_step bs k hkb h8
    rw [← hx] at hst
    obtain ⟨y,hy⟩ : ∃ y,y = lawPre bs k := ⟨_,rfl⟩
    rw [← hy] at hst
    rw [← hy]
    have hyl : y.length ≤ 9 := by rw [hy];unfold lawPre;simp;omega
    have HX := LH (AI hst trivial)
    clear hst hy hx hkb
    go_wp2_with fail
    refine ⟨⟨k + 1,by omega,by go_num,?_⟩,by simp [intOf];omega⟩
    rw [HX.out.1,tbl_at ⟨x.toNat % 11,by omega⟩]
    exact congrArg Value.string (strB_app y [tb x])
   ·have h8' : ¬ ((k : Int) < 8) := by omega
    have HX := LH (AI (lawPre_stay bs k h8) trivial)
    clear hx hkb h8
    go_wp2_with fail
    exact ⟨⟨k + 1,by omega,by go_num,by rw [HX.out.1]⟩,by simp [intOf];omega⟩
  ·obtain rfl : k = n := by omega
   have kl : ¬ ((k : Int) < (k : Int)) := by omega
   have HX := LH (AI (lawPre_end bs k HB.out.2) trivial)
   go_wp2_with fail
   go_ret
   exact ⟨by rw [HX.out.1];rfl,rfl⟩
def cfgOf (t u : UInt8) : M.Cfg := ⟨1 + t.toNat % 6,2 + u.toNat % 5⟩
def triesOf (t : UInt8) : Nat := 1 + t.toNat / 6 % 4
theorem config_is (t u : UInt8) (w : World) :
  Calls Tryz.prog 8 #[byteV t,byteV u] w fun e w' => e = .returned (.agg #[.int .i64 (cfgOf t u).tries,.int .i64 (cfgOf t u).wait,.int .i64 (triesOf t),.int .i64 (4096 : Nat),.slice none 0 0]) ∧ Only [] w w' := by
 have ht := t.toNat_lt
 have hu := u.toNat_lt
 obtain ⟨a,ha⟩ : ∃ a,t.toNat = a := ⟨_,rfl⟩
 obtain ⟨b,hb⟩ : ∃ b,u.toNat = b := ⟨_,rfl⟩
 have hc : cfgOf t u = ⟨1 + a % 6,2 + b % 5⟩ := by unfold cfgOf;rw [ha,hb]
 have hd : triesOf t = 1 + a / 6 % 4 := by unfold triesOf;rw [ha]
 rw [hc,hd]
 show Calls Tryz.prog 8 #[.int .u8 (t.toNat : Int),.int .u8 (u.toNat : Int)] w _
 rw [ha,hb] at *
 have e1 : ((1 + a % 6 : Nat) : Int) = 1 + (a : Int) % 6 := by omega
 have e2 : ((2 + b % 5 : Nat) : Int) = 2 + (b : Int) % 5 := by omega
 have e3 : ((1 + a / 6 % 4 : Nat) : Int) = 1 + (a : Int) / 6 % 4 := by omega
 have e4 : ((4096 : Nat) : Int) = 4096 := rfl
 simp only []
 rw [e1,e2,e3,e4]
 clear ha hb hc hd e1 e2 e3 e4
 go_enter Tryz.func8,Tryz.ntmps8
 go_wp2_with fail
 refine bodyPost_ret (results_cell_row (p := 4) (ty := 34) (cs := #[.int .i64 (1 + (a : Int) % 6),.int .i64 (2 + (b : Int) % 5),.int .i64 (1 + (a : Int) / 6 % 4),.int .i64 4096,.slice none 0 0]) rfl _ _ w.heap.size 34 (fr := (0,0)) _ rfl (heap_alloc_new w _) Tryz.underlying34 rfl size34) rfl ?_
 exact ⟨rfl,(Only.refl [] w).alloc _⟩
end Go.Proofs.YtplaamfoeaaaiaaGreatDoor
