/- A part of the proofs of the laws of lifelinetop (TopNever, TopLost, TopRoom): contracts of functions that these laws reach. No condition of its own. -/
import Derived.Test.YtplaamfoeaaaiaaGreatDoorK02
import Derived.Test.YtplaamfoeaaaiaaGreatDoorK03
import Derived.Test.YtplaamfoeaaaiaaGreatDoorK08
import Derived.Test.YtplaamfoeaaaiaaGreatDoorK15
import Derived.Test.YtplaamfoeaaaiaaGreatDoorK25
import Derived.Lib.BufferWrite
import Derived.Deep.RegionHeld3
import Derived.Deep.RegionLaw
set_option maxRecDepth 100000
set_option maxHeartbeats 8000000
set_option linter.unusedVariables false
namespace Go.Proofs.YtplaamfoeaaaiaaGreatDoor
open Go.RowKit
abbrev fb : List UInt8 := [102,98]
abbrev fileV : Value := .agg #[strB fb,.int .i64 100,.int .i64 0,.int .i64 0]
theorem name_fb (w : World) : Calls Tryz.prog 34 #[strB fb] w fun e w' => e = .returned (.bool true) ∧ w = w' := by
 refine (name_any _ w (by simp [ByteArray.size])).mono ?_
 rintro e w' ⟨rfl,rfl⟩
 have h : nameOk ⟨fb.toArray⟩ = true := by decide +kernel
 rw [h]
 exact ⟨rfl,rfl⟩
theorem may_fb (w : World) : Calls Tryz.prog 126 #[fileV] w fun e w' => e = .returned (.bool true) ∧ Only [] w w' := by
 obtain ⟨A,hA⟩ : ∃ A,A = w.heap.size := ⟨_,rfl⟩
 obtain ⟨w0,hw0⟩ : ∃ w0,w0 = w.alloc (.cells #[strB fb,.int .i64 100,.int .i64 0,.int .i64 0] 203) := ⟨_,rfl⟩
 have hz : w0.heap[A]? = some (.cells #[strB fb,.int .i64 100,.int .i64 0,.int .i64 0] 203 (0,0)) := by rw [hw0,hA];exact heap_alloc_new w _
 have g0 : w0.cell? ⟨A,0,none⟩ = some (strB fb) := cell_at hz rfl
 have g1 : w0.cell? ⟨A,1,none⟩ = some (.int .i64 100) := cell_at hz rfl
 have g2 : w0.cell? ⟨A,2,none⟩ = some (.int .i64 0) := cell_at hz rfl
 have g3 : w0.cell? ⟨A,3,none⟩ = some (.int .i64 0) := cell_at hz rfl
 have o0 : Only [] w w0 := by rw [hw0];exact (Only.refl [] w).alloc _
 have HO := LH o0
 have HW := LH (AI hw0 hA)
 clear o0 hz hw0 hA
 go_enter Tryz.func126,Tryz.ntmps126
 go_upto_region 1 with fail
 rw [← HW.out.1,← HW.out.2]
 go_wp2_with (go_at_call 34;refine (name_fb _).mono ?_;rintro e w' ⟨rfl,rfl⟩)
 go_ret
 exact ⟨rfl,HO.out⟩
theorem hdr_eq : M.headerMake fb 100 = [102,98,0,49,48,48,32,48,32,48] ++ List.replicate 118 0 := by decide +kernel
theorem made_zero (n : Nat) : madeCells #[.int .u8 0] n = ((List.replicate n (0 : UInt8)).map byteV).toArray := by
 apply Array.ext
 ·simp [size_madeCells]
 ·intro i h1 h2
  simp [madeCells,Nat.mod_one]
theorem make_zeros (w : World) : (Instr.makeSlice 22 (.int .i64 128) (.int .i64 128)).run Tryz.prog w = .ok (.slice (some ⟨w.heap.size,0,none⟩) 128 128) (w.alloc (.cells (M.headerEmpty.map byteV).toArray 5)) := by
 have h := make_bytes w 128 (by omega)
 rw [made_zero] at h
 exact h
theorem empty_any (w : World) : Calls Tryz.prog 108 #[] w fun e w' => ∃ v,e = .returned v ∧ Out w w' v M.headerEmpty ∧ Only [] w w' := by
 have hz := fun w => make_zeros w
 obtain ⟨Z,hZ⟩ : ∃ Z,Z = M.headerEmpty := ⟨_,rfl⟩
 have hl : Z.length = 128 := by rw [hZ];rfl
 rw [← hZ] at hz
 rw [← hZ]
 have HL := LH hl
 clear hZ hl
 go_enter Tryz.func108,Tryz.ntmps108
 go_wp2_with fail
 go_ret
 refine ⟨_,rfl,?_,(Only.refl [] w).alloc _⟩
 have h := Out.block (w := w) (w1 := w) (bs := Z) (Nat.le_refl _) (by rw [HL.out];simp [maxLen])
 unfold Out at h ⊢
 rw [HL.out] at h ⊢
 exact h
theorem ends_any (a : Option Addr) (n c : Nat) (bs : List UInt8) (w : World) (hb : Bytes w a bs) (hn : bs.length = n) (h1 : n = 128) (h2 : bs.getD 0 0 = 0) :
  Calls Tryz.prog 252 #[.slice a n c] w fun e w' => e = .returned (.bool true) ∧ w = w' := by
 obtain ⟨B,o,rfl,hc⟩ := hb.at 0 (by omega)
 rw [h2,Nat.add_zero] at hc
 subst h1
 clear hb h2 hn
 go_enter Tryz.func252,Tryz.ntmps252
 go_wp2_with fail
 go_ret
 exact ⟨rfl,rfl⟩
theorem step_copy_str {ops : Array Oper} {o : Oper} {a : Act} {w : World} {K : Act → World → Prop} {Q : Exit → Act → World → Prop} {E : Prop} (hg : o.guard = none) (d x : Operand) (hop : o.op = Op.call { callee := Callee.builtin Builtin.copy,args := #[d,x],argTypes := #[22,9] }) (b n c : Nat) (hd : a.eval d = .slice (some ⟨b,0,none⟩) n c) (t : ByteArray) (hx : a.eval x = .string t) (cur : Array Value) (hb : w.heap[b]? = some (.cells cur 5 (0,0))) (hle : t.size ≤ n) (hn : n ≤ cur.size) (hK : ∀ w',w'.heap[b]? = some (.cells (Lib.byteCells t.data.toList ++ cur.toList.drop t.size).toArray 5 (0,0)) → Only [b] w w' → K (a.put o.dst (goInt t.size)) w') :
  if Region.wanted o (yielded ops a.tmps) = true then Oper.wp Tryz.prog o a w K Q else E := by
 have hw : Region.wanted o (yielded ops a.tmps) = true := by simp [Region.wanted,hg]
 rw [if_pos hw]
 have hs5 : (Tryz.prog.info? 5).map (·.size) = some 1 := by
  have h := Tryz.info5
  revert h
  cases Tryz.prog.info? 5 with
  | none => intro h;simp at h
  | some i => intro h;simp at h ⊢;exact h.2.1
 have hrun := Lib.run_copy_row_string (P := Tryz.prog) w 22 9 o.type 5 b 0 n c t cur 5 Tryz.underlying22 hs5 hb hle (by omega)
 unfold Oper.wp
 simp [execOp,hop,resolve,invoke,builtin,hd,hx,hrun,Result.andThen]
 refine hK _ ?_ ?_
 ·have := setRow_heap w b cur (Lib.byteCells t.data.toList ++ cur.toList.drop t.size).toArray 5 (0,0) hb
  simpa using this
 ·exact ⟨rfl,rfl,rfl,by simp,fun k _ hk => setRow_other w b k _ (by simpa using hk)⟩
theorem only_below {w w' : World} (h : Below w.heap.size w w') : Only [] w w' := ⟨h.os,h.tape,h.output,h.size,fun k hk _ => h.block k hk⟩
theorem keepM {w0 w1 w2 : World} {a b c d : Addr} {x y z u : Value} (h : Only [] w0 w1 ∧ w1.cell? a = some x ∧ w1.cell? b = some y ∧ w1.cell? c = some z ∧ w1.cell? d = some u) (o : Only [] w1 w2) : Only [] w0 w2 ∧ w2.cell? a = some x ∧ w2.cell? b = some y ∧ w2.cell? c = some z ∧ w2.cell? d = some u :=
 ⟨h.1.trans o,o.cell h.2.1 (by simp),o.cell h.2.2.1 (by simp),o.cell h.2.2.2.1 (by simp),o.cell h.2.2.2.2 (by simp)⟩
theorem join_words (w : World) (B : Nat) (hB : w.heap[B]? = some (.cells #[strB [49,48,48],strB [48],strB [48]] 71 (0,0)) ∨ ∃ t,w.heap[B]? = some (.cells #[strB [49,48,48],strB [48],strB [48]] t (0,0))) :
  Calls Tryz.prog 128 #[.slice (some ⟨B,0,none⟩) 3 3,strB [32]] w fun e w' => e = .returned (strB [49,48,48,32,48,32,48]) ∧ Only [] w w' := by
 have hB' : ∃ t,w.heap[B]? = some (.cells #[strB [49,48,48],strB [48],strB [48]] t (0,0)) := by
  rcases hB with h | h
  ·exact ⟨_,h⟩
  ·exact h
 obtain ⟨t,hb⟩ := hB'
 have h := Tryz.strings_Join B 0 3 [⟨#[49,48,48]⟩,⟨#[48]⟩,⟨#[48]⟩] ⟨#[32]⟩ w (by
  intro j x hj
  rw [Nat.zero_add]
  match j with
  | 0 => simp at hj;subst hj;exact cell_at hb rfl
  | 1 => simp at hj;subst hj;exact cell_at hb rfl
  | 2 => simp at hj;subst hj;exact cell_at hb rfl
  | j + 3 => simp at hj) (heap_lt hb) (by simp) (by simp) (by decide +kernel)
 refine h.mono ?_
 rintro e w' ⟨rfl,hbl⟩
 exact ⟨by congr 1,only_below hbl⟩
theorem Only.transFresh {w a b : World} {ks : List Nat} (h : Only [] w a) (k : Only ks a b) (hf : ∀ x,x ∈ ks → w.heap.size ≤ x) : Only [] w b :=
 ⟨k.os.trans h.os,k.tape.trans h.tape,k.output.trans h.output,Nat.le_trans h.size k.size,
  fun i hi _ => (k.block i (Nat.lt_of_lt_of_le hi h.size) (fun hx => by have := hf i hx;omega)).trans (h.block i hi (by simp))⟩
theorem hdr_own (w w4 : World) (C : Nat) (hC : w.heap.size ≤ C) (h : w4.heap[C]? = some (.cells (Lib.byteCells [102,98,0,49,48,48,32,48,32,48] ++ (M.headerEmpty.map byteV).toArray.toList.drop 10).toArray 5 (0,0))) :
  Out w w4 (.slice (some ⟨C,0,none⟩) 128 128) (M.headerMake fb 100) := by
 unfold Out
 rw [hdr_eq]
 refine ⟨by simp,.inr ⟨C,128,_,rfl,hC,h,by simp,by simp [maxLen],?_,?_⟩⟩
 ·simp [Lib.byteCells,M.headerEmpty]
 ·kernel_rfl
theorem hmake_any (w : World) (h : Glob w) :
  Calls Tryz.prog 107 #[fileV] w fun e w' => ∃ v,e = .returned (.tuple #[v,.bool true]) ∧ Out w w' v (M.headerMake fb 100) ∧ Only [] w w' := by
 obtain ⟨A,hA⟩ : ∃ A,A = w.heap.size := ⟨_,rfl⟩
 obtain ⟨wa,hwa⟩ : ∃ wa,wa = w.alloc (.cells #[strB fb,.int .i64 100,.int .i64 0,.int .i64 0] 203) := ⟨_,rfl⟩
 have hz : wa.heap[A]? = some (.cells #[strB fb,.int .i64 100,.int .i64 0,.int .i64 0] 203 (0,0)) := by rw [hwa,hA];exact heap_alloc_new w _
 have oa : Only [] w wa := by rw [hwa];exact (Only.refl [] w).alloc _
 have b0 : wa.cell? ⟨A,0,none⟩ = some (strB fb) := cell_at hz rfl
 have b1 : wa.cell? ⟨A,1,none⟩ = some (.int .i64 100) := cell_at hz rfl
 have b2 : wa.cell? ⟨A,2,none⟩ = some (.int .i64 0) := cell_at hz rfl
 have b3 : wa.cell? ⟨A,3,none⟩ = some (.int .i64 0) := cell_at hz rfl
 have HA := LH (AI hwa (AI hA (AI oa (AI hz h))))
 have hmay := fun w => may_fb w
 clear hwa hA oa hz h
 go_enter Tryz.func107,Tryz.ntmps107
 go_upto_region 1 with fail
 rw [← HA.out.1,← HA.out.2.1]
 go_upto_region 3 with (go_at_call 126;refine (hmay _).mono ?_;rintro e w0 ⟨rfl,ho0⟩;have HO0 := LH ho0;clear ho0)
 have g0 := HO0.out.cell b0 (by simp)
 have g1 := HO0.out.cell b1 (by simp)
 have g2 := HO0.out.cell b2 (by simp)
 have g3 := HO0.out.cell b3 (by simp)
 have oo : Only [] w0 w0 := Only.refl _ _
 have gl0 : Glob w0 := HA.out.2.2.2.2.of_none (HA.out.2.2.1.trans HO0.out)
 have HG := LH gl0
 have HI := fun wx (ho : Only [] w0 wx) => itoa_100 wx (HG.out.of_none ho)
 have HF := fun wx (ho : Only [] w0 wx) => fmt8_0 wx (HG.out.of_none ho).tabs
 clear b0 b1 b2 b3 hmay gl0
 go_region_held3 (fun w' => Only [] w0 w' ∧ w'.cell? ⟨A,0,none⟩ = some (strB fb) ∧ w'.cell? ⟨A,1,none⟩ = some (.int .i64 100) ∧ w'.cell? ⟨A,2,none⟩ = some (.int .i64 0) ∧ w'.cell? ⟨A,3,none⟩ = some (.int .i64 0)) (first
   | (exact keepM ‹_› ho2)
   | (exact keepM ‹_› ((Only.refl [] _).alloc _))
   | (exact ⟨oo.drew,‹_›,‹_›,‹_›,‹_›⟩)
   | go_keep)
  (first
   | (go_at_call 127;refine (HI _ (by first | exact oo.drew | exact (‹Only [] w0 _ ∧ _ ∧ _ ∧ _ ∧ _›).1)).mono ?_;rintro e w2 ⟨rfl,ho2⟩)
   | (go_at_call 22;refine (HF _ (by first | exact oo.drew | exact (‹Only [] w0 _ ∧ _ ∧ _ ∧ _ ∧ _›).1)).mono ?_;rintro e w2 ⟨rfl,ho2⟩))
 rename_i hk
 obtain ⟨wb,hwb⟩ : ∃ wb,wb = w2.alloc (.cells #[strB [49,48,48],strB [48],strB [48]] 9) := ⟨_,rfl⟩
 obtain ⟨B,hB⟩ : ∃ B,B = w2.heap.size := ⟨_,rfl⟩
 have hbB : wb.heap[B]? = some (.cells #[strB [49,48,48],strB [48],strB [48]] 9 (0,0)) := by rw [hwb,hB];exact heap_alloc_new w2 _
 rw [← hwb] at hk ⊢
 rw [← hB]
 obtain ⟨ok,k0,k1,k2,k3⟩ := hk
 obtain ⟨wc,hwc⟩ : ∃ wc,wc = wb.alloc (.cells (M.headerEmpty.map byteV).toArray 5) := ⟨_,rfl⟩
 obtain ⟨C,hC⟩ : ∃ C,C = wb.heap.size := ⟨_,rfl⟩
 have hcC : wc.heap[C]? = some (.cells (M.headerEmpty.map byteV).toArray 5 (0,0)) := by rw [hwc,hC];exact heap_alloc_new wb _
 have oc : Only [] wb wc := by rw [hwc];exact (Only.refl [] wb).alloc _
 have c0 := oc.cell k0 (by simp)
 have HZ := fun w => make_zeros w
 have HB := LH (AI hwb (AI hB (AI hbB (AI ok (AI hwc (AI hC (AI hcC oc)))))))
 clear hwb hB hbB ok hwc hC hcC oc k0 k1 k2 k3 HI HF g0 g1 g2 g3 oo
 go_upto_region 5 with fail
 rw [← HB.out.2.2.2.2.1,← HB.out.2.2.2.2.2.1]
 clear HZ HG
 have hbC : wc.heap[B]? = some (.cells #[strB [49,48,48],strB [48],strB [48]] 9 (0,0)) := HB.out.2.2.2.2.2.2.2.heap HB.out.2.2.1 (by simp)
 have HJ := fun wx (ho : Only [] wc wx) => join_words wx B (.inr ⟨_,ho.heap hbC (by simp)⟩)
 have oo : Only [] wc wc := Only.refl _ _
 have HK := LH (AI hbC (AI HB.out.2.2.2.2.2.2.1 oo))
 clear hbC oo
 have hcat : (⟨fb.toArray⟩ ++ ⟨#[0]⟩ ++ ⟨#[49,48,48,32,48,32,48]⟩ : ByteArray) = ⟨#[102,98,0,49,48,48,32,48,32,48]⟩ := by simp [ByteArray.mk_append_mk]
 go_region_law (first
  | (go_simp;go_at_call 128;refine (HJ _ (HK.out.2.2.drew)).mono ?_;rintro e w3 ⟨rfl,ho3⟩;have c03 := ho3.cell c0 (by simp))
  | (refine step_copy_str rfl (.tmp 20) (.tmp 26) rfl C 128 128 (by rfl) _ (by rfl) (M.headerEmpty.map byteV).toArray ((ho3.heap (HK.out.2.1) (by simp))) (by decide) (by decide) ?_;intro w4 h4 o4))
 all_goals go_wp2_with fail
 all_goals go_ret2
 all_goals (
  have o3 : Only [] w w3 := HA.out.2.2.1.trans (HO0.out.trans (HB.out.2.2.2.1.trans (HB.out.2.2.2.2.2.2.2.trans ((Only.refl [] wc).drew.trans ho3))))
  have hCw : w.heap.size ≤ C := by
   have h1 := (HA.out.2.2.1.trans (HO0.out.trans HB.out.2.2.2.1)).size
   have h2 := HB.out.2.2.2.2.2.1
   omega
  refine ⟨_,rfl,hdr_own w w4 C hCw h4,o3.transFresh o4 (fun k hk => by simp at hk;omega)⟩)
abbrev restB : List UInt8 := [49,48,48,32,48,32,48] ++ List.replicate 118 0
abbrev wordsB : List UInt8 := [49,48,48,32,48,32,48]
theorem cut_hdr (w : World) (h : Glob w) : Calls Tryz.prog 257 #[strB (M.headerMake fb 100),strB [0]] w fun e w' => e = .returned (.tuple #[strB fb,strB restB,.bool true]) ∧ Only [] w w' := by
 obtain ⟨m,hm⟩ := h.mx
 rw [hdr_eq]
 refine (Tryz.strings_Cut _ _ m w (by simp [ByteArray.size]) hm).mono ?_
 rintro e w' ⟨rfl,k,rfl⟩
 refine ⟨?_,only_drewN [] w k⟩
 have h1 : Lib.cut ([102,98,0,49,48,48,32,48,32,48] ++ List.replicate 118 0) [0] = (fb,restB,true) := by decide +kernel
 have h2 : (ByteArray.mk (List.toArray ([102,98,0,49,48,48,32,48,32,48] ++ List.replicate 118 0))).data.toList = [102,98,0,49,48,48,32,48,32,48] ++ List.replicate 118 0 := rfl
 have h3 : (ByteArray.mk #[0]).data.toList = [0] := rfl
 rw [h2,h3,h1]
theorem trim_hdr (w : World) : Calls Tryz.prog 258 #[strB restB,strB [0]] w fun e w' => e = .returned (strB wordsB) ∧ Only [] w w' := by
 refine (Tryz.strings_TrimRight_one ⟨restB.toArray⟩ 0 (by decide) w (by simp [ByteArray.size])).mono ?_
 rintro e w' ⟨rfl,rfl⟩
 refine ⟨?_,Only.refl _ _⟩
 have h1 : Lib.trimRightB restB 0 = wordsB := by decide +kernel
 have h2 : (ByteArray.mk restB.toArray).data.toList = restB := rfl
 rw [h2,h1]
theorem split_hdr (w : World) (h : Glob w) : Calls Tryz.prog 117 #[strB wordsB,strB [32]] w fun e w' => ∃ B,e = .returned (.slice (some ⟨B,0,none⟩) 3 3) ∧ Only [] w w' ∧ w'.cell? ⟨B,0,none⟩ = some (strB [49,48,48]) ∧ w'.cell? ⟨B,1,none⟩ = some (strB [48]) ∧ w'.cell? ⟨B,2,none⟩ = some (strB [48]) := by
 obtain ⟨m,hm⟩ := h.mx
 refine (Tryz.strings_Split ⟨wordsB.toArray⟩ ⟨#[32]⟩ m w (by simp [ByteArray.size]) hm (by decide)).mono ?_
 rintro e w' ⟨rfl,rfl⟩
 have h1 : Lib.countB ⟨wordsB.toArray⟩ ⟨#[32]⟩ = 2 := by decide +kernel
 have h2 : Lib.splitB ⟨#[32]⟩ 0 2 ⟨wordsB.toArray⟩ = [⟨#[49,48,48]⟩,⟨#[48]⟩,⟨#[48]⟩] := by decide +kernel
 rw [h1,h2]
 exact ⟨_,rfl,(Only.refl [] w).alloc _,cell_at (heap_alloc_new w _) rfl,cell_at (heap_alloc_new w _) rfl,cell_at (heap_alloc_new w _) rfl⟩
theorem size203 : (Tryz.prog.info? 203).map (·.size) = some 4 := by kernel_rfl
theorem hread_any (a : Option Addr) (c : Nat) (w : World) (h : Glob w) (hb : Bytes w a (M.headerMake fb 100)) :
  Calls Tryz.prog 251 #[.slice a 128 c] w fun e w' => e = .returned (.tuple #[fileV,.bool true]) ∧ Only [] w w' := by
 obtain ⟨D,hD⟩ : ∃ D,D = w.heap.size := ⟨_,rfl⟩
 obtain ⟨w0,hw0⟩ : ∃ w0,w0 = w.alloc (.cells #[strB [],.int .i64 0,.int .i64 0,.int .i64 0] 203) := ⟨_,rfl⟩
 have hz : w0.heap[D]? = some (.cells #[strB [],.int .i64 0,.int .i64 0,.int .i64 0] 203 (0,0)) := by rw [hw0,hD];exact heap_alloc_new w _
 have o0 : Only [] w w0 := by rw [hw0];exact (Only.refl [] w).alloc _
 have hs := run_str w0 a 128 c _ (hb.of_only o0 (.inr (fun ad _ => by simp))) (by rw [hdr_eq];rfl)
 have HA := LH (AI hw0 (AI hD (AI hz (AI o0 h))))
 have HC := fun w2 (ho : Only [] w w2) => cut_hdr w2 (h.of_none ho)
 have HP := fun w2 (ho : Only [] w w2) => split_hdr w2 (h.of_none ho)
 clear hb h hw0 hD hz o0
 go_enter Tryz.func251,Tryz.ntmps251
 go_upto_region 1 with fail
 rw [← HA.out.1,← HA.out.2.1]
 go_upto_region 7 with (first
  | (go_at_call 257;refine (HC _ HA.out.2.2.2.1).mono ?_;rintro e w1 ⟨rfl,ho1⟩;have HO1 := LH ho1;clear ho1)
  | (go_at_call 258;refine (trim_hdr _).mono ?_;rintro e w2 ⟨rfl,ho2⟩;have HO2 := LH (HO1.out.trans ho2);clear ho2)
  | (go_at_call 117;refine (HP _ (HA.out.2.2.2.1.trans HO2.out)).mono ?_;rintro e w3 ⟨B,rfl,ho3,c0,c1,c2⟩;have HO3 := LH (HO2.out.trans ho3);clear ho3))
 have gl3 : Glob w3 := HA.out.2.2.2.2.of_none (HA.out.2.2.2.1.trans HO3.out)
 have HG := LH gl3
 clear HC HP hs gl3
 have N1 := fun wx (ho : Only [] w3 wx) => number_size wx (HG.out.of_none ho)
 have N2 := fun wx (ho : Only [] w3 wx) => number_zero 4294967295 wx (HG.out.of_none ho)
 have N3 := fun wx (ho : Only [] w3 wx) => number_zero 65535 wx (HG.out.of_none ho)
 go_upto_region 8 with (go_at_call 259;refine (N1 _ (Only.refl _ _)).mono ?_;rintro e w4 ⟨rfl,ho4⟩;have HO4 := LH ho4;have c14 := ho4.cell c1 (by simp);have c24 := ho4.cell c2 (by simp);clear ho4)
 clear N1 c0 c1 c2
 go_upto_region 9 with (go_at_call 259;refine (N2 _ HO4.out).mono ?_;rintro e w5 ⟨rfl,ho5⟩;have HO5 := LH (HO4.out.trans ho5);have c25 := ho5.cell c24 (by simp);clear ho5)
 clear N2 c14 c24
 go_upto_region 10 with (go_at_call 259;refine (N3 _ HO5.out).mono ?_;rintro e w6 ⟨rfl,ho6⟩;have HO6 := LH (HO3.out.trans (HO5.out.trans ho6));clear ho6)
 clear N3 c25 HO4 HO5
 have hDl : D < w6.heap.size := by
  have h1 := heap_lt HA.out.2.2.1
  have h2 := HO6.out.size
  omega
 go_upto_region 11 with fail
 obtain ⟨w7,hw7⟩ : ∃ w7,w7 = w6.alloc (.cells #[strB fb,.int .i64 100,.int .i64 0,.int .i64 0] 203) := ⟨_,rfl⟩
 obtain ⟨E,hE⟩ : ∃ E,E = w6.heap.size := ⟨_,rfl⟩
 have h7 : w7.heap[E]? = some (.cells #[strB fb,.int .i64 100,.int .i64 0,.int .i64 0] 203 (0,0)) := by rw [hw7,hE];exact heap_alloc_new w6 _
 have o7 : Only [] w0 w7 := by rw [hw7];exact HO6.out.alloc _
 rw [← hw7,← hE]
 have e0 := cell_at h7 (i := 0) rfl
 have e1 := cell_at h7 (i := 1) rfl
 have e2 := cell_at h7 (i := 2) rfl
 have e3 := cell_at h7 (i := 3) rfl
 have HY := fun w => may_fb w
 have H7 := LH (AI o7 h7)
 clear hw7 hE o7 h7 HG
 go_upto_region 13 with (go_at_call 126;refine (HY _).mono ?_;rintro e w8 ⟨rfl,ho8⟩;have HO8 := LH (H7.out.1.trans ho8);have j0 := ho8.cell e0 (by simp);have j1 := ho8.cell e1 (by simp);have j2 := ho8.cell e2 (by simp);have j3 := ho8.cell e3 (by simp);clear ho8)
 clear HY e0 e1 e2 e3
 have h8 : w8.heap[D]? = some (.cells #[strB [],.int .i64 0,.int .i64 0,.int .i64 0] 203 (0,0)) := HO8.out.heap HA.out.2.2.1 (by simp)
 have f0 : w8.frozen? ⟨D,0,none⟩ = false := free_at h8
 have f1 : w8.frozen? ⟨D,1,none⟩ = false := free_at h8
 have f2 : w8.frozen? ⟨D,2,none⟩ = false := free_at h8
 have f3 : w8.frozen? ⟨D,3,none⟩ = false := free_at h8
 have d0 := cell_at h8 (i := 0) rfl
 have d1 := cell_at h8 (i := 1) rfl
 have d2 := cell_at h8 (i := 2) rfl
 have d3 := cell_at h8 (i := 3) rfl
 have H8 := LH h8
 clear h8
 go_wp2_with fail
 refine bodyPost_ret (results_row_tmp (p := 2) (u := 3) (ty := 203) (cs := #[strB fb,.int .i64 100,.int .i64 0,.int .i64 0]) rfl _ _ D 203 (fr := (0,0)) _ rfl (hs_same (hs_same (hs_same (hs_same H8.out rfl) rfl) rfl) rfl) Tryz.underlying203 rfl size203) rfl ?_
 have o8 : Only [] w w8 := HA.out.2.2.2.1.trans HO8.out
 have hDw : w.heap.size ≤ D := by have := HA.out.2.1;omega
 exact ⟨rfl,(((o8.setFresh hDw _).setFresh hDw _).setFresh hDw _).setFresh hDw _⟩
end Go.Proofs.YtplaamfoeaaaiaaGreatDoor
