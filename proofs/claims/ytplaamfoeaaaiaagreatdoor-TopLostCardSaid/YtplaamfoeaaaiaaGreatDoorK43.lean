/- A part of the proofs of the laws of lifelinetop (TopNever, TopLost, TopRoom): contracts of functions that these laws reach. No condition of its own. -/
import Derived.Test.YtplaamfoeaaaiaaGreatDoorK02
import Derived.Test.YtplaamfoeaaaiaaGreatDoorK42
set_option maxRecDepth 100000
set_option maxHeartbeats 8000000
set_option linter.unusedVariables false
namespace Go.Proofs.YtplaamfoeaaaiaaGreatDoor
open Go.RowKit
theorem Tryz.underlying26' : Tryz.prog.underlying 26 = some (.slice 22) := by kernel_rfl
def MkLoop (w : World) (B : Nat) (ea : Option Addr) (ec N : Nat) (b : M.B) (E : List RE) (k : Nat) (vi : Value) (wr : World) : Prop :=
 ∃ ro,wr.ownsRow w.heap.size 39 5 (.slice ea N ec) N (esCells (mkE b E k)) ∧ Parts wr B ro vi (mkI b E k) ∧ Only [] w wr ∧ B ≤ wr.heap.size
theorem mkI_step' (b : M.B) (E : List RE) (k : Nat) (im : M.B) (h : lawIm b E k = im) : mkI b E (k + 1) = mkI b E k ++ [im] := by rw [mkI_step,h]
theorem MkLoop.next {w wr w4 w8 : World} {B G D ec N s k cv c8 : Nat} {b : M.B} {E : List RE} {e : RE} {a8 av : Option Addr} {us0 : List Value} {ro : List Nat} {im : M.B} {o : Obj} (he : E[k]? = some e) (him : lawIm b E k = im) (hil : im.length = s) (hw : wr.ownsRow w.heap.size 39 5 (.slice (some ⟨G,0,none⟩) N ec) N (esCells (mkE b E k))) (hP : Parts wr B ro (.slice av k cv) (mkI b E k)) (ho : Only [] w wr) (hB : B ≤ D) (hD : D = wr.heap.size) (hGB : G < B) (o4 : Only [] wr w4) (hus0 : wr.ownsRow B 22 1 (.slice av k cv) k us0) (hus1 : ∀ (j : Nat) q,(mkI b E k)[j]? = some q → ∃ u,us0[j]? = some u ∧ Slc wr ro u q) (rowD : w4.ownsRow D 5 1 (.slice (some ⟨D,0,none⟩) s 1024) s (im.map byteV)) (own8 : w8.ownsRow B 22 1 (.slice a8 (k + 1) c8) (k + 1) (us0 ++ [.slice (some ⟨D,0,none⟩) s 1024])) (grow8 : ((w4.setCell ⟨G,k * 5 + 3,none⟩ (.int .u32 (M.printOf im))).alloc o).grownBy w8 (Value.slice av k cv).ownBlock) (at8 : ∀ g',(Value.slice a8 (k + 1) c8).ownBlock = some g' → (Value.slice av k cv).ownBlock = some g' ∨ ((w4.setCell ⟨G,k * 5 + 3,none⟩ (.int .u32 (M.printOf im))).alloc o).heap.size ≤ g') :
  MkLoop w B (some ⟨G,0,none⟩) ec N b E (k + 1) (.slice a8 (k + 1) c8) w8 := by
 subst hil
 obtain ⟨w5,hw5⟩ : ∃ w5,w5 = w4.setCell ⟨G,k * 5 + 3,none⟩ (.int .u32 (M.printOf im)) := ⟨_,rfl⟩
 rw [← hw5] at grow8 at8
 have hDl := (rowD.lt D rfl).2
 have hlo := fun g e => hus0.lt g e
 have o45 : Only [G] w4 w5 := by rw [hw5];exact only_set w4 G _ _
 have or5 : Only [G] wr w5 := (o4.weaken (by simp)).trans o45
 have es5 : w5.ownsRow w.heap.size 39 5 (.slice (some ⟨G,0,none⟩) N ec) N (esCells (mkE b E (k + 1))) := by
  rw [mkE_step b E k e he,← esCells_set (mkE b E k) k e _ (mkE_get b E k k e he (Nat.le_refl _)),him,hw5]
  exact ownsRow_set (ownsRow_only hw o4 (by simp)) _
 have hl : (mkI b E k).length = k := mkI_length b E k
 have hp := Parts.push (w := w5) (w1 := w8) (B1 := D) (n := k + 1) (o := o) (p := im) (u := .slice (some ⟨D,0,none⟩) im.length 1024) (hP.of_only or5 (fun b hb => by simp at hb;omega)) (ownsRow_base (ownsRow_only rowD o45 (fun g e => by simp [Value.ownBlock] at e;simp;omega)) (Nat.zero_le _)) (fun g e => by simp [Value.ownBlock] at e;omega) (fun g e => by rw [hD];exact (hlo g e).2) hB grow8 (fun g e => (at8 g e).imp id (fun h => Nat.le_trans (by simp) h)) us0 own8 (by rw [hl]) (by rw [hl];exact ownsRow_only hus0 or5 (fun g e => by have := hlo g e;simp;omega)) (fun j q hj => by
   obtain ⟨u,h1,h2⟩ := hus1 j q hj
   exact ⟨u,h1,h2.of_only or5 (fun x hx => by have := (hP.lo x hx).1;simp;omega)⟩)
 rw [← mkI_step' b E k im him] at hp
 have o58 : Only (ownL (.slice av k cv)) w5 w8 := ((Only.refl _ w5).alloc o).trans (only_grown grow8)
 have s58 := o58.size
 have sr5 := or5.size
 refine ⟨_,ownsRow_only es5 o58 (fun g e hm => ?_),hp,?_,by omega⟩
 ·have := (hlo g (mem_ownL.1 hm)).1
  simp [Value.ownBlock] at e
  omega
 ·have oo : Only [G] w w8 := (((ho.weaken (by simp)).trans or5).alloc o).grown grow8 (fun x hx => .inr (by have := (hlo x hx).1;have := (hw.lt G rfl).1;omega))
  exact only_new (Only.refl [] w) oo (fun x hx => by simp at hx;have := (hw.lt G rfl).1;omega)
def MakePost (b : M.B) (E : List RE) (w : World) (e : Ending) (w' : World) : Prop :=
 ∃ ea ec ia ic ro,e = .returned (.tuple #[.slice ea E.length ec,.slice ia E.length ic]) ∧ EsRaw w' ea (mkE b E E.length) ∧ ImRaw w' ro ia (mkI b E E.length) ∧ Only [] w w' ∧ Live w' ro ∧ E.length ≤ ec ∧ (ea = none → ec = 0) ∧ E.length ≤ ic ∧ (∀ x,x ∈ ro → w.heap.size ≤ x) ∧ w'.ownsRow w.heap.size 39 5 (.slice ea E.length ec) E.length (esCells (mkE b E E.length)) ∧ ∀ ad,ea = some ad → ad.block ∉ ro
theorem row_cap {w : World} {base e size n c : Nat} {a : Option Addr} {xs : List Value} (h : w.ownsRow base e size (.slice a n c) n xs) : n ≤ c ∧ (a = none → c = 0 ∧ n = 0) ∧ (∀ ad,a = some ad → ∃ g,ad = ⟨g,0,none⟩) := by
 rcases h.2 with ⟨q1,q2⟩ | ⟨g,cap,cur,q1,q2,q3,q4,q5⟩
 ·cases q1
  exact ⟨Nat.le_refl _,(fun _ => ⟨rfl,rfl⟩),(fun ad e => by cases e)⟩
 ·cases q1
  exact ⟨q4,(fun e => by cases e),(fun ad e => by cases e;exact ⟨g,rfl⟩)⟩
theorem MkLoop.done {w wr : World} {B N ec ic : Nat} {ea ia : Option Addr} {b : M.B} {E : List RE} (h : MkLoop w B ea ec N b E N (.slice ia N ic) wr) (hN : E.length = N) (hB : w.heap.size ≤ B) (hG : ∀ g,(Value.slice ea N ec).ownBlock = some g → g < B) : MakePost b E w (.returned (.tuple #[.slice ea N ec,.slice ia N ic])) wr := by
 subst hN
 obtain ⟨ro,hw,hP,ho,hBw⟩ := h
 obtain ⟨us,hu,hs⟩ := hP.own
 rw [mkI_length] at hu
 obtain ⟨c1,c2,c3⟩ := row_cap hw
 obtain ⟨d1,d2,d3⟩ := row_cap hu
 refine ⟨ea,ec,ia,ic,ro ++ ownL (.slice ia E.length ic),rfl,⟨fun e => ?_,fun ad e j u hj => ?_⟩,⟨fun e => ?_,fun ad e k im hk => ?_,fun ad e _ => ?_⟩,ho,fun x hx => ?_,c1,fun e => (c2 e).1,d1,fun x hx => ?_,hw,fun ad e hm => ?_⟩
 ·have := (c2 e).2
  exact List.eq_nil_of_length_eq_zero (by rw [mkE_length];exact this)
 ·obtain ⟨g,rfl⟩ := c3 ad e
  subst e
  have hjl := (List.getElem?_eq_some_iff.1 hj).1
  rw [esCells_length,mkE_length] at hjl
  rw [Addr.add_lit,Nat.zero_add]
  exact (hw.cellAt j (by omega)).trans hj
 ·have := (d2 e).2
  rw [this]
  rfl
 ·obtain ⟨g,rfl⟩ := d3 ad e
  subst e
  obtain ⟨u,q1,q2⟩ := hs k im hk
  have hkl := (List.getElem?_eq_some_iff.1 hk).1
  rw [mkI_length] at hkl
  refine ⟨u,?_,(q2.more (by intro x hx;simp [hx])).raw⟩
  rw [Addr.add_lit,Nat.zero_add]
  exact (hu.cellAt k (by omega)).trans q1
 ·subst e
  simp [ownL,Value.ownBlock]
 ·rcases List.mem_append.1 hx with h' | h'
  ·exact (hP.lo x h').2
  ·exact (hu.lt x (mem_ownL.1 h')).2
 ·rcases List.mem_append.1 hx with h' | h'
  ·exact Nat.le_trans hB (hP.lo x h').1
  ·exact Nat.le_trans hB (hu.lt x (mem_ownL.1 h')).1
 ·have hg := hG ad.block (by rw [e];rfl)
  rcases List.mem_append.1 hm with h' | h'
  ·have := (hP.lo _ h').1
   omega
  ·have := (hu.lt _ (mem_ownL.1 h')).1
   omega
theorem make_is (a : Option Addr) (n c : Nat) (ra : List RA) (ba : Option Addr) (m bc : Nat) (b : M.B) (w : World) (hr : RaRaw w a ra) (hn : ra.length = n) (hN : n ≤ 9223372036854775807) (hb : Bytes w ba b) (hba : b = [] ∨ ∀ ad,ba = some ad → ad.block < w.heap.size) (hm : b.length = m) (hM : m ≤ 9223372036854775807) :
  Calls Tryz.prog 16 #[.slice a n c,.slice ba m bc] w (MakePost b (lawEs ra) w) := by
 have HEN := LH (entries_is a n c ra w hr hn hN)
 unfold EntriesPost at HEN
 have hEl : (lawEs ra).length = min ra.length 8 := lawFst_length ra ra.length
 have hsz : ∀ e,e ∈ lawEs ra → 1 ≤ e.size ∧ e.size ≤ 600 := by
  intro e he
  unfold lawEs lawFst at he
  rw [List.mem_map] at he
  obtain ⟨j,_,rfl⟩ := he
  unfold lawEntry
  simp only
  omega
 obtain ⟨E,hE⟩ : ∃ E,E = lawEs ra := ⟨_,rfl⟩
 rw [← hE] at HEN hEl hsz ⊢
 rw [← hEl] at HEN
 obtain ⟨N,hNN⟩ : ∃ N,E.length = N := ⟨_,rfl⟩
 have hN8 : N ≤ 8 := by omega
 rw [hNN] at HEN
 have HB := LH (AI hb (AI hba hm))
 have HS := LH (AI hsz hNN)
 clear hr hn hb hba hm hE hEl hsz hNN
 obtain ⟨i22,y0,y1,y2,y3⟩ := info_parts Tryz.info22
 have HY := LH (AI y0 (AI y1 (AI y2 y3)))
 clear y0 y1 y2 y3
 go_enter Tryz.func16,Tryz.ntmps16
 go_upto_region 2 with (go_at_call 33;go_loud (refine HEN.out.mono ?_;rintro e w1 ⟨ea,ec,rfl,he,o1⟩))
 have hl0 := fun g e => (he.lt g e).2
 have hst : MkLoop w w1.heap.size ea ec N b E 0 (.slice none 0 0) w1 := ⟨[],by rw [mkE_zero];exact he,⟨⟨[],World.ownsRow_nil _ _ _ _,fun j p hj => by simp [mkI] at hj⟩,fun b hb => by simp at hb,fun g e => by simp [Value.ownBlock] at e⟩,o1,Nat.le_refl _⟩
 have HE1 := LH (AI hst (AI hl0 o1))
 have hNi : (N : Int) ≤ 8 := by omega
 clear he o1 hst hl0
 go_wp2_with fail
 go_loopw [7,14] (fun s7 s14 wr => ∃ k : Nat,k ≤ N ∧ s14 = .int .i64 k ∧ MkLoop w w1.heap.size ea ec N b E k s7 wr) (fun _ s14 _ => N - (intOf s14).toNat)
 case atStart => exact ⟨0,Nat.zero_le _,rfl,HE1.out.1⟩
 case round =>
  obtain ⟨k,hk,rfl,ro,hw,hP,ho,hB1⟩ := hrel
  by_cases hlt : k < N
  ·obtain ⟨e,he⟩ : ∃ e,E[k]? = some e := ⟨_,List.getElem?_eq_getElem (by rw [HS.out.2];exact hlt)⟩
   have hsz := HS.out.1 e (List.mem_of_getElem? he)
   obtain ⟨s,hs⟩ : ∃ s : Nat,(s : Int) = e.size := ⟨e.size.toNat,by omega⟩
   obtain ⟨G,cur,rfl,hGc⟩ : ∃ G cur,ea = some ⟨G,0,none⟩ ∧ wr.heap[G]? = some (.cells cur 39 (0,0)) := by
    rcases hw.2 with ⟨q1,q2⟩ | ⟨g,cap,cur,q1,q2,q3,q4⟩
    ·omega
    ·cases q1
     exact ⟨g,cur,rfl,q3⟩
   have c2 : wr.cell? ⟨G,k * 5 + 2,none⟩ = some (.int .i64 (s : Int)) := by
    rw [hs]
    exact (hw.cellAt (k * 5 + 2) (by omega)).trans (esCells_get _ k e (mkE_get b E k k e he (Nat.le_refl _))).2.2.1
   have c3 : wr.cell? ⟨G,k * 5 + 3,none⟩ = some (.int .u32 e.print) := (hw.cellAt (k * 5 + 3) (by omega)).trans (esCells_get _ k e (mkE_get b E k k e he (Nat.le_refl _))).2.2.2.1
   have hs1 : 1 ≤ s := by omega
   have hs6 : s ≤ 600 := by omega
   have hs10 : (s : Int) ≤ 1024 := by omega
   have hGl := heap_lt hGc
   have hGB : G < w1.heap.size := HE1.out.2.1 G rfl
   have hwB := HE1.out.2.2.size
   have fG : wr.frozen? ⟨G,k * 5 + 3,none⟩ = false := free_at hGc
   have him : lawIm b E k = M.imageOf b s k := by
    unfold lawIm
    rw [List.getD,he,Option.getD_some,← hs]
    rfl
   obtain ⟨us0,hus0,hus1⟩ := hP.own
   rw [mkI_length] at hus0
   obtain ⟨av,cv,rfl⟩ := own_slice hus0
   have HD := LH (fun wx (o : Only [] w wx) => data_any ba b m bc wx (HB.out.1.of_only o (.inr (fun ad e => by simp))) (HB.out.2.1.imp id (fun h ad e => Nat.lt_of_lt_of_le (h ad e) o.size)) HB.out.2.2 hM)
   have HX := LH (AI he (AI hs (AI hGc (AI him (AI hw (AI hP (AI ho (AI hus0 hus1))))))))
   have g1 := ho.size
   have HC3 := LH (AI c3 fG)
   clear he hs hGc him hw hP ho hus0 hus1 hsz c3 fG
   go_upto_region 6 with fail
   go_region_held3 (fun w' => w'.cell? ⟨G,k * 5 + 2,none⟩ = some (.int .i64 (s : Int))) (first | exact c2 | exact o2.cell c2 (by simp) | go_keep) ((go_at_call 20;go_loud (refine (HD.out _ (by first | exact HX.out.2.2.2.2.2.2.1 | exact HX.out.2.2.2.2.2.2.1.drew)).mono ?_;rintro e w2 ⟨rfl,hd2,o2⟩)))
   rename_i hHeld
   clear hHeld c2
   obtain ⟨D,hD⟩ : ∃ D,D = wr.heap.size := ⟨_,rfl⟩
   have hd3 : w2.heap[D]? = some (.cells (dataArr b 1024) 5 (0,0)) := by rw [hD];exact hd2
   have o3 : Only [] wr w2 := ((Only.refl [] wr).drew).trans o2
   obtain ⟨y,hy⟩ : ∃ y,y = (dataAt b 0).toNat := ⟨_,rfl⟩
   have hyl : y < 256 := by rw [hy];exact (dataAt b 0).toNat_lt
   have cD : w2.cell? ⟨D,0,none⟩ = some (.int .u8 (y : Int)) := by rw [hy];exact cell_at hd3 (by simp [dataArr,byteV])
   have fD : w2.frozen? ⟨D,0,none⟩ = false := free_at hd3
   have hDG : D ≠ G := by omega
   rw [← hD]
   have H2 := LH (AI hd3 (AI o3 (AI hD (AI hy hDG))))
   have hDB : w1.heap.size ≤ D := by omega
   have s2 := o3.size
   clear hd2 o2 hd3 o3 hD hy hDG
   go_upto_region 8 with fail
   obtain ⟨w3,ew3⟩ : ∃ w3,w3 = w2.setCell ⟨D,0,none⟩ (.int .u8 (((y : Int) + (k : Int)) % 256)) := ⟨_,rfl⟩
   rw [← ew3]
   obtain ⟨im,hIm⟩ : ∃ im,im = M.imageOf b s k := ⟨_,rfl⟩
   have hil : im.length = s := by rw [hIm];exact imageOf_length b s k (by omega) (by omega)
   have o3 : Only [] wr w3 := by rw [ew3];exact H2.out.2.1.setFresh (Nat.le_of_eq H2.out.2.2.1.symm) _
   have eb : (.int .u8 (((y : Int) + (k : Int)) % 256) : Value) = byteV (dataAt b 0 + UInt8.ofNat k) := by
    rw [H2.out.2.2.2.1]
    show Value.int .u8 _ = Value.int .u8 _
    congr 1
    rw [UInt8.toNat_add,UInt8.toNat_ofNat']
    omega
   have rowD : w3.ownsRow D 5 1 (.slice (some ⟨D,0,none⟩) s 1024) s (im.map byteV) := by
    rw [hIm,imageOf_is b s k (by omega) (by omega),ew3,eb]
    exact dataArr_row b _ s (by omega) (by omega) (hs_same H2.out.1 rfl)
   have hby : Bytes w3 (some ⟨D,0,none⟩) im := by
    have hr : RowB w3 (.slice (some ⟨D,0,none⟩) s 1024) im := by
     unfold RowB
     rw [hil]
     exact ownsRow_base rowD (Nat.zero_le _)
    obtain ⟨a',c',q1,q2,_⟩ := hr.slc
    injection q1 with e1 _ _
    rw [e1]
    exact q2
   have hDl := (rowD.lt D rfl).2
   have HPR := LH (print_any (some ⟨D,0,none⟩) im s 1024 w3 hby (.inr (fun ad e => by cases e;exact hDl)) hil (by omega))
   have hG3 := o3.heap HX.out.2.2.1 (by simp)
   have H3 := LH (AI o3 (AI rowD (AI hG3 (AI (o3.cell HC3.out.1 (by simp)) (AI hil hIm)))))
   have s3 := o3.size
   clear ew3 o3 rowD hby hG3 hil hIm eb cD fD
   go_upto_region 9 with (go_at_call 18;go_loud (refine HPR.out.mono ?_;rintro e4 w4 ⟨rfl,o4⟩;have hG4 := o4.heap H3.out.2.2.1 (by simp);have fG4 : w4.frozen? ⟨G,k * 5 + 3,none⟩ = false := free_at hG4;have cG4 := o4.cell H3.out.2.2.2.1 (by simp);have H4 := LH o4;have s4 := o4.size;clear hG4 o4))
   obtain ⟨w5,ew5⟩ : ∃ w5,w5 = w4.setCell ⟨G,k * 5 + 3,none⟩ (.int .u32 (M.printOf im)) := ⟨_,rfl⟩
   rw [← ew5]
   have or5 : Only [G] wr w5 := by rw [ew5];exact ((H3.out.1.trans H4.out).weaken (by simp)).trans (only_set w4 G _ _)
   have s5 := or5.size
   have own5 := ownsRow_only HX.out.2.2.2.2.2.2.2.1 or5 (fun g e => by have := HX.out.2.2.2.2.2.2.2.1.lt g e;simp;omega)
   have H5 := LH (AI own5 ew5)
   clear own5 ew5 or5 fG4 cG4
   go_upto_region 10 with (at_builtin;go_loud (refine wpList_appG _ rfl (.tmp 39) (.tmp 41) 26 rfl w1.heap.size 22 i22 (.slice none 0 0) 1 24 Tryz.underlying26' HY.out.1 HY.out.2.1 HY.out.2.2.1 HY.out.2.2.2 rfl (by omega) (.slice av k cv) k us0 rfl (H5.out.1.alloc _) (some ⟨w5.heap.size,0,none⟩) 1 1 rfl [.slice (some ⟨D,0,none⟩) s 1024] rfl (fun e => by cases e) (fun ad e j u hj => by cases e;exact World.news_of_block (cs := #[.slice (some ⟨D,0,none⟩) s 1024]) (t := 22) (fr := (0,0)) (heap_alloc_new w5 _) j u hj) (by simp [Value.oneCell']) (by unfold maxLen;omega) (by omega) (by simp;omega) ?_;intro a8 c8 w8 own8 grow8 at8))
   go_wp2_with fail
   refine ⟨⟨k + 1,by omega,by go_num,?_⟩,by simp [intOf];omega⟩
   have e5 := H5.out.2
   rw [e5] at grow8 at8
   exact MkLoop.next (im := im) HX.out.1 (HX.out.2.2.2.1.trans H3.out.2.2.2.2.2.symm) H3.out.2.2.2.2.1 HX.out.2.2.2.2.1 HX.out.2.2.2.2.2.1 HX.out.2.2.2.2.2.2.1 hDB H2.out.2.2.1 hGB (H3.out.1.trans H4.out) HX.out.2.2.2.2.2.2.2.1 HX.out.2.2.2.2.2.2.2.2 (ownsRow_only H3.out.2.1 H4.out (by simp)) own8 grow8 at8
  ·obtain rfl : k = N := by omega
   have kl : ¬ ((k : Int) < (k : Int)) := by omega
   obtain ⟨us0,hus0,hus1⟩ := hP.own
   rw [mkI_length] at hus0
   obtain ⟨av,cv,rfl⟩ := own_slice hus0
   have hdone := MkLoop.done (h := ⟨ro,hw,hP,ho,hB1⟩) HS.out.2 HE1.out.2.2.size HE1.out.2.1
   have HX := LH hdone
   clear hdone hw hP ho hB1 hus0 hus1
   go_wp2_with fail
   go_ret2
   exact HX.out
def fineC (s : M.Snd) : Bool := (s.phase != 1 || decide (s.at_ < s.blocks.length)) && (decide (1 ≤ s.left) || s.phase == 3)
theorem fineC_ok {s : M.Snd} (h : fineC s = true) : Fine s := by
 simp [fineC] at h
 refine ⟨fun e => ?_,h.2⟩
 rcases h.1 with h1 | h1
 ·exact absurd e h1
 ·exact h1
def watchC (y : M.Watch) : Bool := !y.over && y.lits.all (fun l => decide (0 < l.length))
theorem watchC_ok {y : M.Watch} (h : watchC y = true) : WatchOk y := by
 simp only [watchC,Bool.and_eq_true,Bool.not_eq_true',List.all_eq_true,decide_eq_true_eq] at h
 exact h
def giverC : M.Giver → Bool
 | .none => false
 | .one s => fineC s
 | .batch s => s.over || fineC s.part
theorem giverC_ok {g : M.Giver} (h : giverC g = true) : SndFine g := by
 cases g with
 | none => cases h
 | one s => exact fineC_ok h
 | batch s =>
  intro ho
  simp only [giverC,ho,Bool.false_or] at h
  exact fineC_ok h
def loadC (x : M.Host) : Bool :=
 match x.es[x.k]?,x.images[x.k]? with
 | some e,some im => decide (e.addr < 4294967296) && (decide (x.out.length ≤ 900000) && ((e.way == 3 && (e.name == fb && im.length == 100)) || ((e.way == 0 || e.way == 1) && (decide (0 < im.length) && decide (im.length < 1024)))))
 | _,_ => false
theorem loadC_ok {x : M.Host} (h : loadC x = true) : LoadOk x := by
 unfold loadC at h
 split at h
 ·rename_i e im h1 h2
  simp only [Bool.and_eq_true,Bool.or_eq_true,decide_eq_true_eq,beq_iff_eq] at h
  exact ⟨e,im,h1,h2,h⟩
 ·cases h
def sentC (x : M.Host) : Bool := (match x.giver with | .none => false | _ => true) && (!x.giver.over || x.giver.err == 0)
theorem sentC_ok {x : M.Host} (h : sentC x = true) : SentOk x := by
 simp only [sentC,Bool.and_eq_true,Bool.or_eq_true,Bool.not_eq_true',beq_iff_eq] at h
 refine ⟨fun e => ?_,fun e => ?_⟩
 ·rw [e] at h
  exact absurd h.1 (by simp)
 ·rcases h.2 with h2 | h2
  ·rw [e] at h2;cases h2
  ·exact h2
def plainb (c : Nat) : Bool := c != 40 && (c != 41 && (c != 91 && (c != 93 && (c != 46 && (c != 42 && (c != 43 && (c != 63 && (c != 124 && c != 92))))))))
theorem plainb_ok {c : Nat} (h : plainb c = true) : plainC c := by
 simp only [plainb,Bool.and_eq_true,bne_iff_ne] at h
 exact h
def askC (x : M.Host) (e : M.Entry) : Bool := decide (e.addr < 4294967296) && (decide (e.size < 4294967296) && (decide (e.print < 4294967296) && (decide ((M.lineOf e.addr e.size e.print).length ≤ 64) && ((M.lineOf e.addr e.size e.print).all (fun c => plainb c.toNat) && decide (x.out.length ≤ 900000)))))
theorem askC_ok {x : M.Host} {e : M.Entry} (h : askC x e = true) : AskOk x e := by
 simp only [askC,Bool.and_eq_true,decide_eq_true_eq,List.all_eq_true] at h
 obtain ⟨a,b,c,d,f,g⟩ := h
 exact ⟨a,b,c,d,fun y hy => plainb_ok (f y hy),g⟩
def nextC (x : M.Host) : Bool := x.k + 1 == x.es.length || (decide (x.k + 1 < x.es.length) && loadC { x with k := x.k + 1,up := 0 })
theorem nextC_ok {x : M.Host} (h : nextC x = true) : NextOk x := by
 simp only [nextC,Bool.and_eq_true,Bool.or_eq_true,decide_eq_true_eq,beq_iff_eq] at h
 exact h.imp id (fun h => ⟨h.1,loadC_ok h.2⟩)
def metC (x : M.Host) (arm : Nat) : Bool :=
 match x.es[x.k]? with
 | none => false
 | some e => (x.phase == 2 && askC x e) || ((x.phase == 3 && arm == 0) || (x.phase == 4 && nextC x))
theorem metC_ok {x : M.Host} {arm : Nat} (h : metC x arm = true) : MetOk x arm := by
 unfold metC at h
 split at h
 ·cases h
 ·rename_i e he
  simp only [Bool.and_eq_true,Bool.or_eq_true,beq_iff_eq] at h
  exact ⟨e,he,h.imp (fun h => ⟨h.1,askC_ok h.2⟩) (fun h => h.imp id (fun h => ⟨h.1,nextC_ok h.2⟩))⟩
def waitsC (p : Nat) : Bool := p == 2 || (p == 3 || p == 4)
theorem waitsC_ok {p : Nat} (h : waitsC p = true) : p = 2 ∨ p = 3 ∨ p = 4 := by
 simp only [waitsC,Bool.or_eq_true,beq_iff_eq] at h
 exact h
def takeC (x : M.Host) (c : UInt8) : Bool :=
 x.phase == 7 ||
 ((x.phase == 0 && (x.playState == 0 && (watchC x.playW && (match (x.playW.put c).1 with | none => true | some 0 => loadC { hear x with playW := (x.playW.put c).2,playState := 1 } | some (_ + 1) => false)))) ||
 ((x.phase == 1 && (giverC x.giver && (decide ((x.giver.put c).1.length ≤ 2000) && sentC (gave (hear x) (x.giver.put c))))) ||
 (waitsC x.phase && (watchC x.watch && (match (x.watch.put c).1 with | none => true | some k => metC { hear x with watch := (x.watch.put c).2 } k)))))
theorem takeC_ok {x : M.Host} {c : UInt8} (h : takeC x c = true) : TakeOk x c := by
 simp only [takeC,Bool.or_eq_true,Bool.and_eq_true,decide_eq_true_eq,beq_iff_eq] at h
 rcases h with h | ⟨h1,h2,h3,h4⟩ | ⟨h1,h2,h3,h4⟩ | ⟨h1,h2,h3⟩
 ·exact .over h
 ·cases hp : (x.playW.put c).1 with
  | none => exact .hears h1 h2 (watchC_ok h3) hp
  | some k =>
   rw [hp] at h4
   cases k with
   | zero => exact .wakes h1 h2 (watchC_ok h3) hp (loadC_ok h4)
   | succ k => cases h4
 ·exact .gives h1 (giverC_ok h2) h3 (sentC_ok h4)
 ·cases hp : (x.watch.put c).1 with
  | none => exact .waits (waitsC_ok h1) (watchC_ok h2) hp
  | some k =>
   rw [hp] at h3
   exact .meets k (waitsC_ok h1) (watchC_ok h2) hp (metC_ok h3)
def takesC : M.Host → M.B → Bool
 | _,[] => true
 | x,c :: r => decide (x.heard ≤ 1000000) && (decide (x.out.length ≤ 800000) && (takeC x c && takesC (x.take c) r))
theorem takesC_ok : ∀ {b : M.B} {x : M.Host},takesC x b = true → TakesOk x b
 | [],x,_ => trivial
 | c :: r,x,h => by
  simp only [takesC,Bool.and_eq_true,decide_eq_true_eq] at h
  exact ⟨h.1,h.2.1,takeC_ok h.2.2.1,takesC_ok h.2.2.2⟩
def lastC (x : M.Host) : Bool :=
 x.phase == 7 || ((x.phase == 0 && (x.playState == 0 && (decide (1 < x.playLeft) && decide (x.playLeft ≤ 1000)))) || ((x.phase == 1 && (giverC x.giver && (decide (x.giver.tick.1.length ≤ 2000) && sentC (gave x x.giver.tick)))) || (waitsC x.phase && (decide (1 < x.left) && decide (x.left ≤ 1000)))))
theorem lastC_ok {x : M.Host} (h : lastC x = true) : LastOk x := by
 simp only [lastC,Bool.or_eq_true,Bool.and_eq_true,decide_eq_true_eq,beq_iff_eq] at h
 rcases h with h | ⟨h1,h2,h3,h4⟩ | ⟨h1,h2,h3,h4⟩ | ⟨h1,h2,h3⟩
 ·exact .over h
 ·exact .hears h1 h2 h3 h4
 ·exact .gives h1 (giverC_ok h2) h3 (sentC_ok h4)
 ·exact .waits (waitsC_ok h1) h2 h3
def hTickC (x : M.Host) : Bool := takesC (drained x) x.ring.q && (decide ((List.foldl M.Host.take (drained x) x.ring.q).out.length ≤ 800000) && lastC (x.ring.q.foldl M.Host.take (drained x)))
theorem hTickC_ok {x : M.Host} (h : hTickC x = true) : HTickOk x := by
 simp only [hTickC,Bool.and_eq_true,decide_eq_true_eq] at h
 exact ⟨takesC_ok h.1,h.2.1,lastC_ok h.2.2⟩
def sayC (s : M.Sys) (b : M.B) : Bool := decide (s.up.n + b.length ≤ 1000000) && (decide (s.up.marks + b.length ≤ 1000000) && decide (s.host.ring.lost + (s.up.pass b).1.length ≤ 1000000))
theorem sayC_ok {s : M.Sys} {b : M.B} (h : sayC s b = true) : SayOk s b := by
 simp only [sayC,Bool.and_eq_true,decide_eq_true_eq] at h
 exact h
def comes4C (r : M.Rcv) (B : List UInt8) : Bool :=
 (B.getD 0 0 == 4 && r.close) || ((B.getD 0 0 == 1 || B.getD 0 0 == 2) && (decide (B.length ≤ 2) || ((decide (2 < B.length) && B.getD 1 0 != 255 - B.getD 2 0) || (decide (3 + (if B.getD 0 0 = 1 then 128 else 1024) + (if r.crc then 2 else 1) ≤ B.length) && (B.getD 1 0 == 255 - B.getD 2 0 && (B.getD 1 0 == r.number && M.trailer ((B.drop 3).take (if B.getD 0 0 = 1 then 128 else 1024)) r.crc == (B.drop (3 + (if B.getD 0 0 = 1 then 128 else 1024))).take (if r.crc then 2 else 1)))))))
theorem comes4C_ok {r : M.Rcv} {B : List UInt8} (h : comes4C r B = true) : Comes4 r B := by
 simp only [comes4C,Bool.and_eq_true,Bool.or_eq_true,decide_eq_true_eq,beq_iff_eq,bne_iff_ne] at h
 exact h.imp id (fun h => ⟨h.1,h.2.imp id (fun h => h.imp id (fun h => ⟨_,rfl,h⟩))⟩)
def afterC (r : M.BRcv) : Bool := !r.part.over || (r.part.err == 0 && ((r.stage == 0 && r.part.data == M.headerMake fb 100) || ((r.stage == 1 && decide (r.size ≤ r.part.data.length)) || (r.stage == 2 && (r.part.data.length == 128 && r.part.data.getD 0 0 == 0)))))
theorem afterC_ok {r : M.BRcv} (h : afterC r = true) : AfterOk r := by
 intro ho
 simp only [afterC,ho,Bool.not_true,Bool.false_or,Bool.and_eq_true,Bool.or_eq_true,decide_eq_true_eq,beq_iff_eq] at h
 exact h
def rputC (r : M.Rcv) (bs : List UInt8) : Bool := !r.over && (!bs.isEmpty && (decide (r.buffer.length + bs.length ≤ 1099511627776) && (decide (r.data.length + 1024 ≤ 1099511627776) && (decide (r.blocks + 1 ≤ 1099511627776) && comes4C r (r.buffer ++ bs)))))
theorem rputC_ok {r : M.Rcv} {bs : List UInt8} (h : rputC r bs = true) : RPutOk r bs := by
 simp only [rputC,Bool.and_eq_true,Bool.not_eq_true',decide_eq_true_eq] at h
 obtain ⟨a,b,c,d,e,f⟩ := h
 exact ⟨a,(fun hn => by rw [hn] at b;cases b),c,d,e,comes4C_ok f⟩
def bputC (r : M.BRcv) (bs : List UInt8) : Bool := r.over || (rputC r.part bs && afterC { r with part := (r.part.put bs).2 })
theorem bputC_ok {r : M.BRcv} {bs : List UInt8} (h : bputC r bs = true) : BPutOk r bs := by
 intro ho
 simp only [bputC,ho,Bool.false_or,Bool.and_eq_true] at h
 exact ⟨rputC_ok h.1,afterC_ok h.2⟩
def rtickC (r : M.Rcv) : Bool := r.begun || decide (1 ≤ r.tries)
theorem rtickC_ok {r : M.Rcv} (h : rtickC r = true) : RTickOk r := by
 intro ho
 simp only [rtickC,ho,Bool.false_or,decide_eq_true_eq] at h
 exact h
def btickC (r : M.BRcv) : Bool := r.over || (rtickC r.part && afterC { r with part := r.part.tick.2 })
theorem btickC_ok {r : M.BRcv} (h : btickC r = true) : BTickOk r := by
 intro ho
 simp only [btickC,ho,Bool.false_or,Bool.and_eq_true] at h
 exact ⟨rtickC_ok h.1,afterC_ok h.2⟩
def loadedC (t : M.Board) : Bool := !t.taker.over || (t.taker.err != 0 || (decide (t.addr < 16384) && (decide (t.taker.data.length ≤ 16384 - t.addr) && decide (0 < t.taker.data.length))))
theorem loadedC_ok {t : M.Board} (h : loadedC t = true) : LoadedOk t := by
 intro h1 h2
 simp only [loadedC,h1,h2,Bool.not_true,Bool.false_or,Bool.and_eq_true,decide_eq_true_eq,bne_self_eq_false] at h
 exact h
def takenC (t : M.Board) (bs : M.B) : Bool :=
 match t.taker with
 | .none => true
 | .one r => rputC r bs && (decide ((r.put bs).1.length ≤ 1000000) && loadedC { t with taker := .one (r.put bs).2 })
 | .batch r => bputC r bs && (decide ((r.put bs).1.length ≤ 1000000) && loadedC { t with taker := .batch (r.put bs).2 })
theorem takenC_ok {t : M.Board} {bs : M.B} (h : takenC t bs = true) : TakenOk t bs := by
 unfold takenC at h
 unfold TakenOk
 split at h
 ·rename_i e;rw [e];trivial
 ·rename_i r e
  rw [e]
  simp only [Bool.and_eq_true,decide_eq_true_eq] at h
  exact ⟨rputC_ok h.1,h.2.1,loadedC_ok h.2.2⟩
 ·rename_i r e
  rw [e]
  simp only [Bool.and_eq_true,decide_eq_true_eq] at h
  exact ⟨bputC_ok h.1,h.2.1,loadedC_ok h.2.2⟩
def tickC (t : M.Board) : Bool :=
 match t.taker with
 | .none => true
 | .one r => rtickC r && (decide (r.tick.1.length ≤ 1000000) && loadedC { t with taker := .one r.tick.2 })
 | .batch r => btickC r && (decide (r.tick.1.length ≤ 1000000) && loadedC { t with taker := .batch r.tick.2 })
theorem tickC_ok {t : M.Board} (h : tickC t = true) : TickOk t := by
 unfold tickC at h
 unfold TickOk
 split at h
 ·rename_i e;rw [e];trivial
 ·rename_i r e
  rw [e]
  simp only [Bool.and_eq_true,decide_eq_true_eq] at h
  exact ⟨rtickC_ok h.1,h.2.1,loadedC_ok h.2.2⟩
 ·rename_i r e
  rw [e]
  simp only [Bool.and_eq_true,decide_eq_true_eq] at h
  exact ⟨btickC_ok h.1,h.2.1,loadedC_ok h.2.2⟩
def LinesOk (L : List M.B) : Prop := ∀ l,l ∈ L → LineOk l
def put1C (L : List M.B) (t : M.Board) (c : UInt8) : Bool := t.asleep || (c != 13 || L.contains t.line)
theorem put1C_ok {L : List M.B} (hL : LinesOk L) {t : M.Board} {c : UInt8} (h : put1C L t c = true) : Put1Ok t c := by
 intro h1 h2
 simp only [put1C,h1,h2,Bool.false_or,bne_self_eq_false,List.contains_iff_mem] at h
 exact hL _ h
def putsC (L : List M.B) : M.B → M.Board → M.B → Bool
 | _,_,[] => true
 | out,t,c :: r => if t.isTaking then takenC t (c :: r) && decide ((out ++ (t.taken (c :: r)).1).length ≤ 1000000)
   else put1C L t c && (decide ((out ++ (t.put1 c).1).length ≤ 1000000) && putsC L (out ++ (t.put1 c).1) (t.put1 c).2 r)
theorem putsC_ok {L : List M.B} (hL : LinesOk L) : ∀ {b out : M.B} {t : M.Board},putsC L out t b = true → PutsOk out t b
 | [],out,t,_ => trivial
 | c :: r,out,t,h => by
  unfold putsC at h
  unfold PutsOk
  split
  ·rename_i ht
   rw [if_pos ht] at h
   simp only [Bool.and_eq_true,decide_eq_true_eq] at h
   exact ⟨takenC_ok h.1,h.2⟩
  ·rename_i ht
   rw [if_neg ht] at h
   simp only [Bool.and_eq_true,decide_eq_true_eq] at h
   exact ⟨put1C_ok hL h.1,h.2.1,putsC_ok hL h.2.2⟩
def boardC (L : List M.B) (t : M.Board) (bs : M.B) : Bool := if t.isTaking then takenC t bs else putsC L [] t bs
theorem boardC_ok {L : List M.B} (hL : LinesOk L) {t : M.Board} {bs : M.B} (h : boardC L t bs = true) : BoardOk t bs := by
 unfold boardC at h
 unfold BoardOk
 split
 ·rename_i ht
  rw [if_pos ht] at h
  exact takenC_ok h
 ·rename_i ht
  rw [if_neg ht] at h
  exact putsC_ok hL h
def sTickC (L : List M.B) (N : Nat) (s : M.Sys) : Bool :=
 decide (s.ticks ≤ 1000000) && (hTickC s.host && (decide (s.down.n + s.host.tick.out.length ≤ 1000000) && (decide (s.down.marks + s.host.tick.out.length ≤ 1000000) && (((downs s).isEmpty || (boardC L s.board (downs s) && sayC (sysB1 s) ((sysA s).board.put (downs s)).1)) && (decide (N + (downs s).length ≤ 1000000) && (tickC (sysB s).board && sayC (sysC s) (sysB s).board.tick.1))))))
theorem sTickC_ok {L : List M.B} (hL : LinesOk L) {N : Nat} {s : M.Sys} (h : sTickC L N s = true) : STickOk N s := by
 simp only [sTickC,Bool.and_eq_true,Bool.or_eq_true,decide_eq_true_eq,List.isEmpty_iff] at h
 obtain ⟨a,b,c,d,e,f,g,i⟩ := h
 refine ⟨a,hTickC_ok b,c,d,fun hn => ?_,f,tickC_ok g,sayC_ok i⟩
 rcases e with e | e
 ·exact absurd e hn
 ·exact ⟨boardC_ok hL e.1,sayC_ok e.2⟩
def runC (L : List M.B) : Nat → Nat → M.Sys → Bool
 | 0,_,_ => true
 | k + 1,N,s => s.host.phase == 7 || (sTickC L N s && runC L k (N + (downs s).length) s.tick)
theorem runC_ok {L : List M.B} (hL : LinesOk L) : ∀ {k N : Nat} {s : M.Sys},runC L k N s = true → RunOk k N s
 | 0,N,s,_ => trivial
 | k + 1,N,s,h => by
  simp only [runC,Bool.or_eq_true,beq_iff_eq,Bool.and_eq_true] at h
  by_cases hp : s.host.phase = 7
  ·exact .inl hp
  ·rcases h with h | h
   ·exact absurd h hp
   ·exact .inr ⟨hp,sTickC_ok hL h.1,runC_ok hL h.2⟩
def awIm (k : Nat) : M.B := M.imageOf [120] 100 k
def awEs : List M.Entry := [⟨[102,97],0,100,M.printOf (awIm 0),0⟩,⟨[102,98],2048,100,M.printOf (awIm 1),3⟩]
def awSys : M.Sys := sys0 ⟨4,2⟩ 1 4096 awEs [awIm 0,awIm 1] []
def awLines : List M.B := [M.str "load check 0",M.str "load batch 800",M.str "sum 0 64",M.str "sum 800 64"]
theorem aw_run : runC awLines 60 0 awSys = true := by decide +kernel
theorem aw_end : (let s := awSys.run 60;s.host.phase == 7 && s.host.err == 0 && (rd s.board.store 0 100 == awIm 0) && (rd s.board.store 2048 100 == awIm 1)) = true := by decide +kernel
theorem aw_lines : LinesOk awLines := by
 intro l hl
 simp only [awLines,List.mem_cons,List.not_mem_nil,or_false] at hl
 rcases hl with rfl | rfl | rfl | rfl
 ·exact .inl ⟨0,0,⟨by decide +kernel,by decide +kernel,by decide +kernel⟩,by omega,by omega,fun t => by kernel_rfl⟩
 ·exact .inl ⟨3,2048,⟨by decide +kernel,by decide +kernel,by decide +kernel⟩,by omega,by omega,fun t => by kernel_rfl⟩
 ·exact .inr ⟨0,100,⟨by decide +kernel,by decide +kernel,by decide +kernel⟩,by omega,by omega,fun t => by kernel_rfl⟩
 ·exact .inr ⟨2048,100,⟨by decide +kernel,by decide +kernel,by decide +kernel⟩,by omega,by omega,fun t => by kernel_rfl⟩
theorem aw_runOk : RunOk 60 0 awSys := runC_ok aw_lines aw_run
def awRa : List RA := [⟨[],0,99,0,0⟩,⟨[],0,99,0,3⟩]
def awRE : List RE := mkE [120] (lawEs awRa) 2
def awRI : List M.B := mkI [120] (lawEs awRa) 2
theorem aw_toM : awRE.map RE.toM = awEs := by kernel_rfl
theorem aw_ims : awRI = [awIm 0,awIm 1] := by kernel_rfl
theorem aw_right : rightE awRE awRI = 0 := by kernel_rfl
theorem aw_sizes : (awRI.all fun im => decide (im.length ≤ 1048576)) = true := by decide +kernel
theorem aw_names : (awRE.all fun e => decide (e.name.size ≤ 9223372036854775807)) = true := by decide +kernel
theorem aw_pos : (awRE.all fun e => decide (0 ≤ e.addr) && (decide (0 ≤ e.size) && (decide (0 ≤ e.print) && decide (0 ≤ e.way)))) = true := by decide +kernel
theorem aw_e0 : awRE[0]? = some ⟨⟨#[102,97]⟩,0,100,M.printOf (awIm 0),0⟩ := by kernel_rfl
theorem aw_e1 : awRE[1]? = some ⟨⟨#[102,98]⟩,2048,100,M.printOf (awIm 1),3⟩ := by kernel_rfl
theorem aw_l0 : (awIm 0).length = 100 := by decide +kernel
theorem aw_l1 : (awIm 1).length = 100 := by decide +kernel
theorem aw_len0 : awRE.length = 2 := rfl
theorem aw_len1 : awRI.length = 2 := rfl
theorem aw_cfg : cfgOf 3 5 = ⟨4,2⟩ := by kernel_rfl
theorem aw_tries : triesOf 3 = 1 := by decide +kernel
def awActs : Array Value := #[.slice none 0 0,.int .u16 0,.int .u16 99,.int .u32 0,.int .u8 0,.slice none 0 0,.int .u16 0,.int .u16 99,.int .u32 0,.int .u8 3]
theorem aw_raw {w : World} {A : Nat} (h : w.heap[A]? = some (.cells awActs 69 (0,0))) : RaRaw w (some ⟨A,0,none⟩) awRa := by
 refine ⟨fun _ => ⟨A,0,rfl,fun k x hx => ?_⟩⟩
 have hk := (List.getElem?_eq_some_iff.1 hx).1
 simp only [awRa,List.length_cons,List.length_nil] at hk
 have hb : Bytes w none [] := ⟨fun _ => rfl,fun ad e => by cases e⟩
 have : k = 0 ∨ k = 1 := by omega
 rcases this with rfl | rfl
 ·simp only [awRa,List.getElem?_cons_zero,Option.some.injEq] at hx
  subst hx
  exact ⟨none,0,0,cell_at h rfl,cell_at h rfl,cell_at h rfl,cell_at h rfl,cell_at h rfl,rfl,by omega,hb,⟨by simp,by simp,by simp⟩⟩
 ·simp only [awRa,List.getElem?_cons_succ,List.getElem?_cons_zero,Option.some.injEq] at hx
  subst hx
  exact ⟨none,0,0,cell_at h rfl,cell_at h rfl,cell_at h rfl,cell_at h rfl,cell_at h rfl,rfl,by omega,hb,⟨by simp,by simp,by simp⟩⟩
theorem aw_byte {w : World} {B : Nat} {fr : Nat × Nat} (h : w.heap[B]? = some (.cells #[.int .u8 120] 5 fr)) : Bytes w (some ⟨B,0,none⟩) [120] := by
 refine ⟨(fun e => by cases e),fun ad e i hi => ?_⟩
 cases e
 have : i = 0 := by simp at hi;omega
 subst this
 exact cell_at h rfl
def AwMade (w : World) (e : Ending) (w' : World) : Prop :=
 ∃ ea ec ia ic ro,e = .returned (.tuple #[.slice ea 2 ec,.slice ia 2 ic]) ∧ EsRaw w' ea awRE ∧ ImRaw w' ro ia awRI ∧ Only [] w w' ∧ Live w' ro ∧ 2 ≤ ec ∧ (ea = none → ec = 0) ∧ 2 ≤ ic
theorem aw_make {w : World} {A B : Nat} {fr : Nat × Nat} (h : w.heap[A]? = some (.cells awActs 69 (0,0))) (hb : w.heap[B]? = some (.cells #[.int .u8 120] 5 fr)) :
  Calls Tryz.prog 16 #[.slice (some ⟨A,0,none⟩) 2 2,.slice (some ⟨B,0,none⟩) 1 1] w (AwMade w) := by
 refine (make_is (some ⟨A,0,none⟩) 2 2 awRa (some ⟨B,0,none⟩) 1 1 [120] w (aw_raw h) rfl (by omega) (aw_byte hb) (.inr (fun ad e => by cases e;exact heap_lt hb)) rfl (by omega)).mono ?_
 rintro e w1 ⟨ea,ec,ia,ic,ro,rfl,he,hi,o1,hl,h1,h2,h3,h4⟩
 exact ⟨ea,ec,ia,ic,ro,rfl,he,hi,o1,hl,h1,h2,h3⟩
theorem aw_config (w : World) : Calls Tryz.prog 8 #[.int .u8 3,.int .u8 5] w fun e w' => e = .returned (.agg #[.int .i64 (4 : Nat),.int .i64 (2 : Nat),.int .i64 (1 : Nat),.int .i64 (4096 : Nat),.slice none 0 0]) ∧ Only [] w w' := by
 have h := config_is 3 5 w
 rw [aw_cfg,aw_tries] at h
 exact h
def AwOf (w : World) (e : Ending) (w' : World) : Prop :=
 ∃ W H T D U f,e = .returned (.pointer (some ⟨W,0,none⟩)) ∧ Only [] w w' ∧ SysAt w' W H T D U f 0 awSys ∧ ∀ b,b ∈ allF f → w.heap.size ≤ b
theorem aw_of {w : World} {ea ia : Option Addr} {ec ic : Nat} {ro : List Nat} (he : EsRaw w ea awRE) (hi : ImRaw w ro ia awRI) (hl : Live w ro) (h1 : 2 ≤ ec) (h2 : ea = none → ec = 0) (h3 : 2 ≤ ic) (hg : Glob w) :
  Calls Tryz.prog 10 #[.agg #[.int .i64 (4 : Nat),.int .i64 (2 : Nat),.int .i64 (1 : Nat),.int .i64 (4096 : Nat),.slice none 0 0],.slice ea 2 ec,.slice ia 2 ic,.slice none 0 0,.slice none 0 0,.int .i64 0] w (AwOf w) := by
 have hs := List.all_eq_true.1 aw_sizes
 have hn := List.all_eq_true.1 aw_names
 have hp := List.all_eq_true.1 aw_pos
 refine (wof_is ⟨4,2⟩ 1 4096 ea 2 ec awRE ia 2 ic awRI ro none 0 0 [] w (by unfold CfgOk;simp only;omega) (by omega) (by omega) (by omega) (by omega) he rfl h1 h2 (by omega) (fun e h => by simpa using hn e h) hi rfl h3 (by omega) (fun im h => by simpa using hs im h) hl hg ⟨rfl,.inl ⟨rfl,rfl,rfl⟩⟩ (by omega) (fun y hy => by simp at hy) (fun _ => ⟨by omega,fun e h => by
  have := hp e h
  simp only [Bool.and_eq_true,decide_eq_true_eq] at this
  exact this⟩)).mono ?_
 rw [aw_right]
 rintro e w1 ⟨W,H,T,D,U,rfl,o1,hW,hk,_⟩
 obtain ⟨f,hS,hf⟩ := hk rfl
 rw [aw_toM,aw_ims] at hS
 exact ⟨W,H,T,D,U,f,rfl,o1,hS,hf⟩
def AwRun (W H T D U : Nat) (e : Ending) (w' : World) : Prop :=
 e = .returned (.tuple #[.bool true,.nilIface]) ∧ ∃ f' N' s,SysAt w' W H T D U f' N' s ∧ rd s.board.store 0 100 = awIm 0 ∧ rd s.board.store 2048 100 = awIm 1
theorem aw_runs {W H T D U : Nat} {f : Nat → List Nat} {w : World} (h : SysAt w W H T D U f 0 awSys) :
  Calls Tryz.prog 11 #[.pointer (some ⟨W,0,none⟩),.int .i64 60] w fun e w' => AwRun W H T D U e w' ∧ Only (allF f) w w' := by
 refine (sysrun_is 60 W H T D U f 0 awSys w h (by omega) aw_runOk).mono ?_
 rintro e w1 ⟨rfl,f',N',hS,ev⟩
 have hE := aw_end
 simp only [Bool.and_eq_true,beq_iff_eq] at hE
 obtain ⟨s,hs⟩ : ∃ s,s = M.Sys.run 60 awSys := ⟨_,rfl⟩
 rw [← hs] at hE hS ⊢
 refine ⟨⟨?_,f',N',s,hS,hE.1.2,hE.2⟩,ev.only⟩
 rw [hE.1.1.1,hE.1.1.2,errV_zero]
 rfl
theorem aw_hold {nm : List UInt8} {addr : Nat} {size pr way : Int} {a : Option Addr} {c : Nat} {im : List UInt8} {W H T D U : Nat} {f : Nat → List Nat} {N : Nat} {s : M.Sys} {w : World} (h : SysAt w W H T D U f N s) (hb : Bytes w a im) (hm : im.length = 100) (h1 : addr < 16000) (hr : rd s.board.store addr 100 = im) :
  Calls Tryz.prog 12 #[.pointer (some ⟨W,0,none⟩),.agg #[strB nm,.int .i64 addr,.int .i64 size,.int .u32 pr,.int .i64 way],.slice a 100 c] w fun e w' => e = .returned (.bool true) ∧ Only [] w w' := by
 refine (holds_is nm addr size pr way a 100 c im W H T D U f N s w h hb hm (by omega) (by omega)).mono ?_
 rintro e w1 ⟨rfl,o⟩
 exact ⟨by rw [hr];simp,o⟩
end Go.Proofs.YtplaamfoeaaaiaaGreatDoor
