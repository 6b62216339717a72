/- A part of the proofs of the laws of lifelinetop (TopNever, TopLost, TopRoom): contracts of functions that these laws reach. No condition of its own. -/
import Derived.Test.YtplaamfoeaaaiaaGreatDoorK02
import Derived.Test.YtplaamfoeaaaiaaGreatDoorK03
import Derived.Test.YtplaamfoeaaaiaaGreatDoorK04
import Derived.Test.YtplaamfoeaaaiaaGreatDoorK12
import Derived.Deep.RegionLaw
import Derived.WalkMore
import Derived.Deep.DeepCutAuto
import Derived.ScopeJumps
import Derived.Maps.RangeRun
import Derived.LoopN
set_option maxRecDepth 100000
set_option maxHeartbeats 8000000
set_option linter.unusedVariables false
namespace Go.Proofs.YtplaamfoeaaaiaaGreatDoor
open Go.RowKit
theorem results_row_tmp {P : Program} {fn : Func} {p u : Tmp} {ty : TypeId} (h : fn.results = #[.cell p ty,.tmp u]) (tmps : Array Value) (w : World) (g : Nat) (t : TypeId) (cs : Array Value) (fr : Nat × Nat) (d : TypeDesc) (hp : tmps.getD p undef = .pointer (some ⟨g,0,none⟩)) (hg : w.heap[g]? = some (.cells cs t fr)) (hu : P.underlying ty = some d) (hd : (match d with | .struct _ | .array _ _ => true | _ => false) = true) (hi : (P.info? ty).map (·.size) = some cs.size) : (results fn tmps).run P w = .ok (.tuple #[.agg cs,tmps.getD u undef]) w := by
 rw [results_cell_tmp h,hp]
 simp [asAddr,Result.andThen,run_loadVar_row w g t ty cs fr d hg hu hd hi]
theorem size234 : (Tryz.prog.info? 234).map (·.size) = some 2 := by kernel_rfl
theorem run_mid (w : World) (B off n c lo hi : Nat) (h1 : lo ≤ hi) (h2 : hi ≤ c) (h3 : lo < c) : (Instr.slice 22 (.slice (some ⟨B,off,none⟩) n c) (some (.int .i64 (lo : Int))) (some (.int .i64 (hi : Int))) none).run Tryz.prog w = .ok (.slice (some ⟨B,off + lo,none⟩) (hi - lo) (c - lo)) w := by
 rw [run_slice_lh w 22 (some ⟨B,off,none⟩) n c Tryz.elem22 .i64 .i64 lo hi (by omega) (by omega) (by omega),Tryz.size5]
 simp only [Result.andThen,sliced,Int.toNat_natCast]
 rw [if_neg (by omega)]
 simp [Addr.add_lit]
theorem Bytes.mid {w : World} {B off : Nat} {bs : List UInt8} (h : Bytes w (some ⟨B,off,none⟩) bs) (lo n : Nat) : Bytes w (some ⟨B,off + lo,none⟩) ((bs.drop lo).take n) := by
 refine ⟨fun e => (by cases e),fun ad e i hi => ?_⟩
 cases e
 simp at hi
 have := h.cell _ rfl (lo + i) (by omega)
 rw [Addr.add_lit] at this ⊢
 rw [Nat.add_assoc,this]
 simp [List.getD,List.getElem?_drop,show i < n by omega]
theorem wp_scope_thru {P : Program} {a : Act} {w : World} {Q : Exit → Act → World → Prop} {c rest : Code} (l : Nat) (hf : findLabel c l = some rest) (h : c.wp P (Exit.jump l (fun a w => rest.wp P (Exit.noGoto Q) a w) Q) a w) : (Code.scope c).wp P Q a w :=
 wp_scope_jumps l (fun a w => rest.wp P (Exit.noGoto Q) a w) (fun _ _ => 0) hf h (fun a w hJ => Code.wp_mono (fun e a w hq => by
  cases e <;> first | exact hq | exact absurd hq (by simp [Exit.noGoto])) hJ)
theorem scan_need (B off : Nat) (bs : List UInt8) (n c : Nat) (k : Bool) (w : World) (hb : Bytes w (some ⟨B,off,none⟩) bs) (hn : bs.length = n) (h0 : 1 ≤ n) (h2 : n ≤ 2) (he : M.sizeB (bs.getD 0 0) k ≠ 0) :
  Calls Tryz.prog 254 #[.slice (some ⟨B,off,none⟩) n c,.bool k] w fun e w' => e = .returned (.tuple #[.agg #[.int .u8 0,.slice none 0 0],.int .i64 0]) ∧ Only [] w w' := by
 have hbnd : M.sizeB (bs.getD 0 0) k ≤ 1029 ∧ 132 ≤ M.sizeB (bs.getD 0 0) k := by
  unfold M.sizeB at he ⊢
  cases k <;> (split <;> (try split) <;> simp_all)
 obtain ⟨x,hx⟩ : ∃ x,x = bs.getD 0 0 := ⟨_,rfl⟩
 have hx0 := hb.cell _ rfl 0 (by omega)
 rw [Addr.add_lit,Nat.add_zero,← hx] at hx0
 have hB : B < w.heap.size := World.block_lt_of_cell? w _ hx0
 rw [← hx] at he hbnd
 obtain ⟨e,hee⟩ : ∃ e,e = M.sizeB x k := ⟨_,rfl⟩
 have hcall := fun w => size_any x k w
 rw [← hee] at he hbnd
 simp only [← hee] at hcall
 have HC := LH hcall
 have d1 : ((e : Int) == 0) = false := by simp;omega
 have d2 : ((n : Int) == 0) = false := by simp;omega
 have d3 : decide ((n : Int) > 2) = false := by simp;omega
 have d4 : ((n : Int) < (e : Int)) = True := by simp;omega
 have d5 : (0 : Int) < (n : Int) := by omega
 clear hb hn hcall hee hx he h2
 go_enter Tryz.func254,Tryz.ntmps254
 go_wp2_with (first | (go_at_call 260;refine (HC.out _).mono ?_;rintro z w' ⟨rfl,rfl⟩))
 refine wp_scope_thru 0 rfl ?_
 go_wp2_with (first | (go_at_call 260;refine (HC.out _).mono ?_;rintro z w' ⟨rfl,rfl⟩))
 go_quiet (fail)
 go_wp2_with fail
 go_step3
 refine ⟨rfl,?_⟩
 go_wp2_with fail
 have o2 : Only [] w ((w.alloc (.cells #[.int .u8 0,.slice none 0 0] 234)).alloc (.cells #[.int .u8 0,.slice none 0 0] 234)) := ((Only.refl [] w).alloc _).alloc _
 have h0b : ((w.alloc (.cells #[.int .u8 0,.slice none 0 0] 234)).alloc (.cells #[.int .u8 0,.slice none 0 0] 234)).heap[w.heap.size]? = some (.cells #[.int .u8 0,.slice none 0 0] 234 (0,0)) := by rw [Below.heap_alloc _ _ _ (by simp)];exact heap_alloc_new w _
 rw [Exit.noGoto_ret]
 refine bodyPost_ret (results_row_tmp (p := 4) (u := 5) (ty := 234) (cs := #[.int .u8 0,.slice none 0 0]) rfl _ _ w.heap.size 234 (fr := (0,0)) _ rfl (hs_same (hs_same (by exact h0b) rfl) rfl) Tryz.underlying234 rfl size234) rfl ?_
 exact ⟨rfl,((o2.drewN nq).setFresh (Nat.le_refl _) _).setFresh (Nat.le_refl _) _⟩
theorem scan_bad (B off : Nat) (bs : List UInt8) (n c : Nat) (k : Bool) (w : World) (hb : Bytes w (some ⟨B,off,none⟩) bs) (hn : bs.length = n) (h2 : 2 < n) (he : M.sizeB (bs.getD 0 0) k ≠ 0) (hne : bs.getD 1 0 ≠ 255 - bs.getD 2 0) :
  Calls Tryz.prog 254 #[.slice (some ⟨B,off,none⟩) n c,.bool k] w fun e w' => e = .returned (.tuple #[.agg #[.int .u8 0,.slice none 0 0],.int .i64 1]) ∧ Only [] w w' := by
 have hbnd : M.sizeB (bs.getD 0 0) k ≤ 1029 ∧ 132 ≤ M.sizeB (bs.getD 0 0) k := by
  unfold M.sizeB at he ⊢
  cases k <;> (split <;> (try split) <;> simp_all)
 obtain ⟨x,hx⟩ : ∃ x,x = bs.getD 0 0 := ⟨_,rfl⟩
 obtain ⟨y,hy⟩ : ∃ y,y = bs.getD 1 0 := ⟨_,rfl⟩
 obtain ⟨z,hz⟩ : ∃ z,z = bs.getD 2 0 := ⟨_,rfl⟩
 have hx0 := hb.cell _ rfl 0 (by omega)
 have hx1 := hb.cell _ rfl 1 (by omega)
 have hx2 := hb.cell _ rfl 2 (by omega)
 rw [Addr.add_lit,Nat.add_zero,← hx] at hx0
 rw [Addr.add_lit,← hy] at hx1
 rw [Addr.add_lit,← hz] at hx2
 have hB : B < w.heap.size := World.block_lt_of_cell? w _ hx0
 rw [← hx] at he hbnd
 rw [← hy,← hz] at hne
 obtain ⟨e,hee⟩ : ∃ e,e = M.sizeB x k := ⟨_,rfl⟩
 have hcall := fun w => size_any x k w
 rw [← hee] at he hbnd
 simp only [← hee] at hcall
 have HC := LH hcall
 have d1 : ((e : Int) == 0) = false := by simp;omega
 have d2 : ((n : Int) == 0) = false := by simp;omega
 have d3 : decide ((n : Int) > 2) = true := by simp;omega
 have d5 : (0 : Int) < (n : Int) := by omega
 have d6 : (1 : Int) < (n : Int) := by omega
 have d7 : (2 : Int) < (n : Int) := by omega
 have d8 : ((y.toNat : Int) != bits .xor .u8 IntKind.u8.max (z.toNat : Int)) = true := by
  rw [not_u8]
  have : y.toNat ≠ (255 - z).toNat := fun e => hne (UInt8.toNat_inj.1 e)
  simp only [bne_iff_ne,ne_eq]
  omega
 have HD8 := LH d8
 clear hb hn hcall hee hx hy hz hne he d8
 go_enter Tryz.func254,Tryz.ntmps254
 go_wp2_with (first | (go_at_call 260;refine (HC.out _).mono ?_;rintro z w' ⟨rfl,rfl⟩))
 refine wp_scope_thru 1 rfl ?_
 go_wp2_with (first | (go_at_call 260;refine (HC.out _).mono ?_;rintro z w' ⟨rfl,rfl⟩))
 go_quiet (fail)
 rw [show (if IntKind.u8.signed = true then (-1 : Int) else IntKind.u8.max) = IntKind.u8.max from rfl,HD8.out]
 go_wp2_with fail
 go_step3
 refine ⟨rfl,?_⟩
 go_wp2_with fail
 have o2 : Only [] w ((w.alloc (.cells #[.int .u8 0,.slice none 0 0] 234)).alloc (.cells #[.int .u8 0,.slice none 0 0] 234)) := ((Only.refl [] w).alloc _).alloc _
 have h0b : ((w.alloc (.cells #[.int .u8 0,.slice none 0 0] 234)).alloc (.cells #[.int .u8 0,.slice none 0 0] 234)).heap[w.heap.size]? = some (.cells #[.int .u8 0,.slice none 0 0] 234 (0,0)) := by rw [Below.heap_alloc _ _ _ (by simp)];exact heap_alloc_new w _
 rw [Exit.noGoto_ret]
 refine bodyPost_ret (results_row_tmp (p := 4) (u := 5) (ty := 234) (cs := #[.int .u8 0,.slice none 0 0]) rfl _ _ w.heap.size 234 (fr := (0,0)) _ rfl (hs_same (hs_same (by exact h0b) rfl) rfl) Tryz.underlying234 rfl size234) rfl ?_
 exact ⟨rfl,((o2.drewN nq).setFresh (Nat.le_refl _) _).setFresh (Nat.le_refl _) _⟩
theorem trailer_len (k : Bool) (t : Nat) (ht : ∀ d',(M.trailer d' k).length = t) (w : World) :
  Calls Tryz.prog 235 #[.slice none 0 0,.bool k] w fun e w' => ∃ a c,e = .returned (.slice a t c) ∧ Only [] w w' := by
 refine (trailer_any none [] 0 0 k w ⟨fun _ => rfl,fun ad e => by cases e⟩ rfl (by omega)).mono ?_
 rintro e w' ⟨v,rfl,ho,hn⟩
 obtain ⟨a,c,rfl,_⟩ := ho.read
 exact ⟨a,c,by rw [ht],hn⟩
theorem trailer_to (k : Bool) (t : Nat) (d : List UInt8) (ht : (M.trailer d k).length = t) (a : Option Addr) (n c : Nat) (w : World) (hb : Bytes w a d) (hn : d.length = n) (hN : n ≤ 9223372036854775807) :
  Calls Tryz.prog 235 #[.slice a n c,.bool k] w fun e w' => ∃ a c,e = .returned (.slice a t c) ∧ Bytes w' a (M.trailer d k) ∧ Only [] w w' := by
 refine (trailer_any a d n c k w hb hn hN).mono ?_
 rintro e w' ⟨v,rfl,ho,hn⟩
 obtain ⟨a,c,rfl,h1,_⟩ := ho.read
 exact ⟨a,c,by rw [ht],h1,hn⟩
theorem scan_good (B off : Nat) (bs : List UInt8) (n c e L t : Nat) (k : Bool) (w : World) (hb : Bytes w (some ⟨B,off,none⟩) bs) (hn : bs.length = n) (hc : n ≤ c) (he : M.sizeB (bs.getD 0 0) k = e) (ht : t = if k then 2 else 1) (hL : e = 3 + L + t) (hL1 : 1 ≤ L) (hL2 : L ≤ 1024) (hen : e ≤ n) (hne : bs.getD 1 0 = 255 - bs.getD 2 0) (d : List UInt8) (hd : d = (bs.drop 3).take L) (htr : M.trailer d k = (bs.drop (3 + L)).take t) :
  Calls Tryz.prog 254 #[.slice (some ⟨B,off,none⟩) n c,.bool k] w fun x w' => ∃ v,x = .returned (.tuple #[.agg #[byteV (bs.getD 1 0),v],.int .i64 2]) ∧ Out w w' v d ∧ Only [] w w' := by
 obtain ⟨x,hx⟩ : ∃ x,x = bs.getD 0 0 := ⟨_,rfl⟩
 obtain ⟨y,hy⟩ : ∃ y,y = bs.getD 1 0 := ⟨_,rfl⟩
 obtain ⟨z,hz⟩ : ∃ z,z = bs.getD 2 0 := ⟨_,rfl⟩
 have hx0 := hb.cell _ rfl 0 (by omega)
 have hx1 := hb.cell _ rfl 1 (by omega)
 have hx2 := hb.cell _ rfl 2 (by omega)
 rw [Addr.add_lit,Nat.add_zero,← hx] at hx0
 rw [Addr.add_lit,← hy] at hx1
 rw [Addr.add_lit,← hz] at hx2
 have hB : B < w.heap.size := World.block_lt_of_cell? w _ hx0
 rw [← hx] at he
 rw [← hy,← hz] at hne
 rw [← hy]
 have hcall := fun w => size_any x k w
 simp only [he] at hcall
 have hdl : d.length = L := by rw [hd];simp;omega
 have hms : (bs.drop (3 + L)).take t = M.trailer d k := htr.symm
 have htl : (M.trailer d k).length = t := by rw [htr];simp;omega
 have ht1 : 1 ≤ t ∧ t ≤ 2 := by rw [ht];cases k <;> simp
 have hbd : Bytes w (some ⟨B,off + 3,none⟩) d := by rw [hd];exact hb.mid 3 L
 have hbt : Bytes w (some ⟨B,off + (3 + L),none⟩) (M.trailer d k) := by rw [htr];exact hb.mid (3 + L) t
 have htn : ∀ d',(M.trailer d' k).length = t := by intro d';rw [ht];unfold M.trailer;cases k <;> simp
 have HC := LH (AI hcall (AI hdl (AI htl (AI hbd (AI hbt htn)))))
 have d1 : ((e : Int) == 0) = false := by simp;omega
 have d2 : ((n : Int) == 0) = false := by simp;omega
 have d3 : decide ((n : Int) > 2) = true := by simp;omega
 have d4 : ((n : Int) < (e : Int)) = False := by simp;omega
 have d5 : (0 : Int) < (n : Int) := by omega
 have d6 : (1 : Int) < (n : Int) := by omega
 have d7 : (2 : Int) < (n : Int) := by omega
 have d8 : ((y.toNat : Int) != bits .xor .u8 IntKind.u8.max (z.toNat : Int)) = false := by
  rw [not_u8,hne]
  simp
 obtain ⟨N,hN⟩ : ∃ N,N = 3 + L := ⟨_,rfl⟩
 have hNL : 3 + (L : Int) = (N : Int) := by omega
 have he1 : (e : Int) - (t : Int) = (N : Int) := by omega
 rw [← hN] at hbt
 have heN : (M.trailer d k).length = e - N := by omega
 have HNN := LH (AI hN heN)
 have hN3 : 3 ≤ N := by omega
 have hNe : N ≤ e := by omega
 have hNc : N < c := by omega
 have hN4 : (0 : Int) ≤ (N : Int) := by omega
 have hN5 : (N : Int) ≤ (e : Int) := by omega
 have hN6 : (e : Int) ≤ (c : Int) := by omega
 have HD8 := LH d8
 clear hb hn hcall hx hy hz hne he hd htr hdl hms htl hbd hbt htn ht hL d8 hN heN
 go_enter Tryz.func254,Tryz.ntmps254
 go_wp2_with fail
 refine wp_scope_straight ?_
 go_wp2_with (first | (go_at_call 260;refine (HC.out.1 _).mono ?_;rintro z w' ⟨rfl,rfl⟩))
 go_quiet (fail)
 rw [show (if IntKind.u8.signed = true then (-1 : Int) else IntKind.u8.max) = IntKind.u8.max from rfl,HD8.out]
 obtain ⟨w1,hw1⟩ : ∃ w1,w1 = ((w.alloc (.cells #[.int .u8 0,.slice none 0 0] 234)).alloc (.cells #[.int .u8 0,.slice none 0 0] 234)).drewN nq := ⟨_,rfl⟩
 rw [← hw1]
 have o1 : Only [] w w1 := by rw [hw1];exact (((Only.refl [] w).alloc _).alloc _).drewN _
 have b4 : w1.heap[w.heap.size]? = some (.cells #[.int .u8 0,.slice none 0 0] 234 (0,0)) := by
  rw [hw1]
  show ((w.alloc _).alloc _).heap[w.heap.size]? = _
  rw [Below.heap_alloc _ _ _ (by simp)];exact heap_alloc_new w _
 have b6 : w1.heap[w.heap.size + 1]? = some (.cells #[.int .u8 0,.slice none 0 0] 234 (0,0)) := by
  rw [hw1]
  have := heap_alloc_new (w.alloc (.cells #[.int .u8 0,.slice none 0 0] 234)) (.cells #[.int .u8 0,.slice none 0 0] 234)
  simpa using this
 have x1 := o1.cell hx1 (by simp)
 have x6 : w1.cell? ⟨w.heap.size + 1,0,none⟩ = some (.int .u8 0) := cell_at b6 rfl
 have x7 : w1.cell? ⟨w.heap.size + 1,1,none⟩ = some (.slice none 0 0) := cell_at b6 rfl
 have f6 : w1.frozen? ⟨w.heap.size + 1,0,none⟩ = false := free_at b6
 have f7 : w1.frozen? ⟨w.heap.size + 1,1,none⟩ = false := free_at b6
 have H1 := LH (AI o1 (AI b4 b6))
 have hB1 : B < w.heap.size := hB
 clear hx0 hx1 hx2 hw1 o1 b4 b6 d1 d2 d3
 go_wp2_with (first
  | (at_builtin;go_loud (refine wpList_appAt _ rfl (.const (.slice none 0 0)) (.tmp 45) rfl (w.heap.size + 2) (.slice none 0 0) 0 [] rfl (World.ownsRow_nil _ _ _ _) (some ⟨B,off + 3,none⟩) (N - 3) (c - 3) d rfl (HC.out.2.2.2.1.of_only ((H1.out.1.setFresh (by simp) _).trans (Only.weaken HO2.out (by simp))) (.inr (by intro ad e;simp))) (by rw [HC.out.2.1];have := HNN.out.1;omega) (by intro e;cases e) d rfl L (by have := HNN.out.1;omega) (by omega) HS2.out ?_);intro a' c' w3 q1 q2 q3;have h3 : w3.heap[w.heap.size + 1]? = some (.cells #[.int .u8 y.toNat,.slice none 0 0] 234 (0,0)) := (only_grown q2).heap (HO2.out.heap (hs_same H1.out.2.2 rfl) (by simp)) (by simp [Value.ownBlock]);have x73 : w3.cell? ⟨w.heap.size + 1,1,none⟩ = some (.slice none 0 0) := cell_at h3 rfl;have f73 : w3.frozen? ⟨w.heap.size + 1,1,none⟩ = false := free_at h3;have HQ := LH (AI q1 (AI q2 h3));clear q1 q2 q3 h3)
  | (go_at_call 235;refine (trailer_len k t HC.out.2.2.2.2.2 _).mono ?_;rintro z w2 ⟨at_,ct,rfl,ho2⟩;have hs2 : w.heap.size + 2 ≤ w2.heap.size := heap_lt (ho2.heap (hs_same H1.out.2.2 rfl) (by simp));have HS2 := LH hs2;have HO2 := LH ho2;clear ho2 hs2))
 obtain ⟨w4,hw4⟩ : ∃ w4,w4 = w3.setCell ⟨w.heap.size + 1,1,none⟩ (.slice a' L c') := ⟨_,rfl⟩
 rw [← hw4]
 have o12 : Only [] w w2 := (H1.out.1.setFresh (by simp) _).trans (Only.weaken HO2.out (by simp))
 have o13 : Only [] w w3 := o12.trans ((only_grown HQ.out.2.1).weaken (by simp [Value.ownBlock]))
 have o14 : Only [] w w4 := by rw [hw4];exact o13.setFresh (by simp) _
 have hsz2 : w.heap.size + 1 < w2.heap.size := heap_lt (HO2.out.heap (hs_same H1.out.2.2 rfl) (by simp))
 have r4 : w4.ownsRow (w.heap.size + 2) 5 1 (.slice a' L c') L (d.map byteV) := by
  rw [hw4]
  refine ownsRow_only HQ.out.1 (only_set _ _ _ _) (fun g e => ?_)
  have := (HQ.out.1.lt g e).1
  simp;omega
 have b64 : w4.heap[w.heap.size + 1]? = some (.cells #[.int .u8 y.toNat,.slice a' L c'] 234 (0,0)) := by rw [hw4];exact hs_same HQ.out.2.2 rfl
 have b44 : w4.heap[w.heap.size]? = some (.cells #[.int .u8 0,.slice none 0 0] 234 (0,0)) := by
  rw [hw4,heap_set_other (by simp)]
  exact (only_grown HQ.out.2.1).heap (HO2.out.heap (by rw [heap_set_other (by simp)];exact H1.out.2.1) (by simp)) (by simp [Value.ownBlock])
 have HR4 := LH (AI r4 (AI b64 (AI b44 o14)))
 have y1 : w4.cell? ⟨w.heap.size + 1,1,none⟩ = some (.slice a' L c') := cell_at b64 rfl
 have HB4 := LH (Bytes.of_owns r4).1
 have HBT : Hid (Bytes w4 (some ⟨B,off + N,none⟩) (M.trailer d k)) := by rw [HNN.out.1];exact HC.out.2.2.2.2.1.of_only o14 (.inr (by intro ad e;simp))
 have hst : (convert 22 9 (.slice (some ⟨B,off + N,none⟩) (e - N) (c - N))).run Tryz.prog w4 = .ok (.string ⟨(M.trailer d k).toArray⟩) w4 := run_str _ _ _ _ _ HBT.out HNN.out.2
 have HSZ := LH hsz2
 clear hw4 o12 o13 o14 hsz2 r4 b64 b44 x1 x6 x7 f6 f7 x73 f73
 have hsl : ∀ w,(Instr.slice 22 (.slice (some ⟨B,off,none⟩) n c) (some (.int .i64 (N : Int))) (some (.int .i64 (e : Int))) none).run Tryz.prog w = .ok (.slice (some ⟨B,off + N,none⟩) (e - N) (c - N)) w := fun w => run_mid w B off n c N e hNe (by omega) hNc
 have hw1 : wrap64 (N : Int) = (N : Int) := by unfold wrap64;omega
 have hw2 : IntKind.i64.wrap (N : Int) = (N : Int) := by rw [IntKind.wrap_i64];omega
 have hcN : ¬ c = N := by omega
 go_cut [61] (fun s61 wx => s61 = .bool false ∧ Only [] w4 wx)
 case first =>
  have hstd : (convert 22 9 (.slice (some ⟨B,off + N,none⟩) (e - N) (c - N))).run Tryz.prog w4.drew = .ok (.string ⟨(M.trailer d k).toArray⟩) w4.drew := run_str _ _ _ _ _ HBT.out.drew HNN.out.2
  go_region_law (first | (go_simp;go_at_call 235;refine (trailer_to k t d HC.out.2.2.1 a' L c' _ (by exact ⟨HB4.out.nil,HB4.out.cell⟩) HC.out.2.1 (by omega)).mono ?_;rintro z w5 ⟨a5,c5,rfl,hb5,ho5⟩;have hs5 := run_str w5 a5 t c5 _ hb5 HC.out.2.2.1;have y15 : w5.cell? ⟨w.heap.size + 1,1,none⟩ = some (.slice a' L c') := ho5.cell y1 (by simp);have hst5 : (convert 22 9 (.slice (some ⟨B,off + N,none⟩) (e - N) (c - N))).run Tryz.prog w5 = .ok (.string ⟨(M.trailer d k).toArray⟩) w5 := run_str _ _ _ _ _ (by refine Bytes.of_only ?_ ho5 (.inr (by intro ad e;simp));exact ⟨HBT.out.nil,HBT.out.cell⟩) HNN.out.2))
  all_goals go_wp2_with fail
  all_goals go_meet
  all_goals exact ⟨rfl,((Only.refl [] w4).drew).trans ho5⟩
 case rest =>
  obtain ⟨rfl,hO⟩ := hcut
  have g6 := hO.heap HR4.out.2.1 (by simp)
  have g4 := hO.heap HR4.out.2.2.1 (by simp)
  have z0 : wc.cell? ⟨w.heap.size + 1,0,none⟩ = some (.int .u8 y.toNat) := cell_at g6 rfl
  have z1 : wc.cell? ⟨w.heap.size + 1,1,none⟩ = some (.slice a' L c') := cell_at g6 rfl
  have v0 : wc.cell? ⟨w.heap.size,0,none⟩ = some (.int .u8 0) := cell_at g4 rfl
  have v1 : wc.cell? ⟨w.heap.size,1,none⟩ = some (.slice none 0 0) := cell_at g4 rfl
  have fv0 : wc.frozen? ⟨w.heap.size,0,none⟩ = false := free_at g4
  have fv1 : wc.frozen? ⟨w.heap.size,1,none⟩ = false := free_at g4
  have HG := LH (AI g4 hO)
  clear g4 g6 hO y1 hst hsl hw1 hw2 hcN
  go_wp2_with fail
  try rw [Exit.noGoto_ret]
  refine bodyPost_ret (results_row_tmp (p := 4) (u := 5) (ty := 234) (cs := #[byteV y,.slice a' L c']) rfl _ _ w.heap.size 234 (fr := (0,0)) _ rfl (hs_same (hs_same HG.out.1 rfl) rfl) Tryz.underlying234 rfl size234) rfl ?_
  have oF : Only [] w ((wc.setCell ⟨w.heap.size,0,none⟩ (.int .u8 y.toNat)).setCell ⟨w.heap.size,1,none⟩ (.slice a' L c')) := ((HR4.out.2.2.2.trans HG.out.2).setFresh (Nat.le_refl _) _).setFresh (Nat.le_refl _) _
  refine ⟨_,rfl,?_,oF⟩
  have r5 := ownsRow_only HR4.out.1 HG.out.2 (by simp)
  have r6 := ownsRow_only r5 (only_set wc w.heap.size 0 (.int .u8 y.toNat)) (fun g e => by have := (r5.lt g e).1;simp;omega)
  have r7 := ownsRow_only r6 (only_set _ w.heap.size 1 (.slice a' L c')) (fun g e => by have := (r5.lt g e).1;simp;omega)
  unfold Out
  rw [HC.out.2.1]
  exact ownsRow_base r7 (by omega)
end Go.Proofs.YtplaamfoeaaaiaaGreatDoor
namespace Go.Proofs.YtplaamfoeaaaiaaGreatDoor
open Go.RowKit
abbrev entI (k : Int) : MapEntry := { key := .int .i64 k,val := .bool true,born := 0 }
abbrev OneMap (w : World) (A : Nat) (k : Int) : Prop := w.heap[A]? = some (.map #[entI k] 1)
open Go.ChangeMaps (setBlock)
theorem only_setBlock (w : World) (b : Nat) (o : Obj) : Only [b] w (setBlock w b o) :=
 ⟨rfl,rfl,rfl,by simp [setBlock],fun k _ hn => by
  simp at hn
  simp [setBlock,Array.getElem?_setIfInBounds]
  intro h;exact absurd h.symm hn⟩
theorem heap_setBlock (w : World) (b : Nat) (o : Obj) (h : b < w.heap.size) : (setBlock w b o).heap[b]? = some o := by
 simp [setBlock,h]
theorem u269 : Tryz.prog.underlying 269 = some (.map 3 4) := by kernel_rfl
theorem range_one (w : World) (A : Nat) (k : Int) (h : OneMap w A k) : (Instr.range 269 (.map (some A))).run Tryz.prog w = .ok (.pointer (some ⟨w.heap.size,0,none⟩)) (w.alloc (.mapIter (some A) 1 #[] 1)) := by
 simp [Instr.range,run_underlying u269,Sem.run_bind,Result.andThen,getObj,h,newObj,Sem.run]
theorem range_none (w : World) : (Instr.range 269 (.map none)).run Tryz.prog w = .ok (.pointer (some ⟨w.heap.size,0,none⟩)) (w.alloc (.mapIter none 0 #[] 0)) := by
 simp [Instr.range,run_underlying u269,Sem.run_bind,Result.andThen,newObj,Sem.run]
theorem next_none (w : World) (r : Nat) (ty : TypeId) (h : w.heap[r]? = some (.mapIter none 0 #[] 0)) : (Instr.next (.pointer (some ⟨r,0,none⟩)) false ty).run Tryz.prog w = .ok (.tuple #[.bool false]) w := by
 simp [Instr.next,Sem.run_bind,Result.andThen,getObj,h,Sem.run]
theorem next_one (w : World) (r A : Nat) (k : Int) (ty : TypeId) (h : w.heap[r]? = some (.mapIter (some A) 1 #[] 1)) (hA : OneMap w A k) : (Instr.next (.pointer (some ⟨r,0,none⟩)) false ty).run Tryz.prog w = .ok (.tuple #[.bool true,.int .i64 k,.bool true]) (setBlock w r (.mapIter (some A) 1 #[0] 1)) := by
 simp [Instr.next,Sem.run_bind,Result.andThen,getObj,h,hA,Sem.run,choose,Question.forced,setObj,setBlock]
theorem next_over (w : World) (r A : Nat) (k : Int) (ty : TypeId) (h : w.heap[r]? = some (.mapIter (some A) 1 #[0] 1)) (hA : OneMap w A k) : (Instr.next (.pointer (some ⟨r,0,none⟩)) false ty).run Tryz.prog w = .ok (.tuple #[.bool false]) w := by
 simp [Instr.next,Sem.run_bind,Result.andThen,getObj,h,hA,Sem.run,choose,Question.forced]
theorem entry_one (w : World) (r A : Nat) (k : Int) (h : w.heap[r]? = some (.mapIter (some A) 1 #[0] 1)) (hA : OneMap w A k) : (Instr.entry (.pointer (some ⟨r,0,none⟩))).run Tryz.prog w = .ok (.tuple #[.int .i64 k,.bool true]) w := by
 simp [Instr.entry,Sem.run_bind,Result.andThen,getObj,h,hA,Sem.run]
theorem checkI (b : Bool) (k : Int) (w : World) : (Instr.checkKey b 10000 3 (.int .i64 k)).run Tryz.prog w = .ok () w := by
 have h : ∀ n : Nat,(Instr.checkKey b (n + 1) 3 (.int .i64 k)).run Tryz.prog w = .ok () w := fun n => by
  rw [Instr.checkKey]
  simp [run_underlying Tryz.underlying3,Sem.run_bind,Result.andThen]
 exact h 9999
theorem findI_nil (k : Int) (w : World) : (Instr.findKey 3 (.int .i64 k) []).run Tryz.prog w = .ok none w := by
 simp [Instr.findKey,Instr.findNow,run_underlying Tryz.underlying3,Result.andThen]
theorem update_new (w : World) (X : Nat) (k : Int) (h : w.heap[X]? = some (.map #[] 0)) : (Instr.mapUpdate 269 (.map (some X)) (.int .i64 k) (.bool true)).run Tryz.prog w = .ok () (setBlock w X (.map #[entI k] 1)) := by
 simp only [Instr.mapUpdate,Sem.run_bind,run_underlying u269,Result.andThen,MapKept.run_getObj_map h,checkI,findI_nil,MapKept.run_setObj_map _ h]
 rfl
theorem both_any (A : Nat) (k : Int) (w : World) (h : OneMap w A k) :
  Calls Tryz.prog 142 #[.map (some A),.map none] w fun e w' => ∃ X,e = .returned (.map (some X)) ∧ w.heap.size ≤ X ∧ OneMap w' X k ∧ Only [] w w' := by
 have hmk := fun w => run_makeMap (P := Tryz.prog) 269 w
 have hrn := fun w => range_none w
 obtain ⟨w0,hw0⟩ : ∃ w0,w0 = w.alloc (.map #[] 0) := ⟨_,rfl⟩
 obtain ⟨X,hX⟩ : ∃ X,X = w.heap.size := ⟨_,rfl⟩
 have hx0 : w0.heap[X]? = some (.map #[] 0) := by rw [hw0,hX];exact heap_alloc_new w _
 have o0 : Only [] w w0 := by rw [hw0];exact (Only.refl [] w).alloc _
 have hA0 := o0.heap h (by simp)
 have hAX : A ≠ X := by have := heap_lt h;omega
 have hr0 := range_one w0 A k hA0
 have HH := LH (AI hw0 (AI hX (AI hx0 (AI o0 (AI hA0 hAX)))))
 clear hw0 hX hx0 o0 hA0 h
 go_enter Tryz.func142,Tryz.ntmps142
 go_upto_region 2 with fail
 rw [← HH.out.1,← HH.out.2.1]
 go_wp2_with fail
 obtain ⟨w1,hw1⟩ : ∃ w1,w1 = w0.alloc (.mapIter (some A) 1 #[] 1) := ⟨_,rfl⟩
 obtain ⟨r,hr⟩ : ∃ r,r = w0.heap.size := ⟨_,rfl⟩
 rw [← hw1,← hr]
 have h1r : w1.heap[r]? = some (.mapIter (some A) 1 #[] 1) := by rw [hw1,hr];exact heap_alloc_new w0 _
 have o1 : Only [] w0 w1 := by rw [hw1];exact (Only.refl [] w0).alloc _
 have hA1 : OneMap w1 A k := o1.heap HH.out.2.2.2.2.1 (by simp)
 have hX1 := o1.heap HH.out.2.2.1 (by simp)
 have hAr : A ≠ r := by have := heap_lt HH.out.2.2.2.2.1;omega
 have hXr : X ≠ r := by have := heap_lt HH.out.2.2.1;omega
 have hn1 := fun ty => next_one w1 r A k ty h1r hA1
 obtain ⟨w2,hw2⟩ : ∃ w2,w2 = setBlock w1 r (.mapIter (some A) 1 #[0] 1) := ⟨_,rfl⟩
 rw [← hw2] at hn1
 have o2 : Only [r] w1 w2 := by rw [hw2];exact only_setBlock _ _ _
 have h2r : w2.heap[r]? = some (.mapIter (some A) 1 #[0] 1) := by rw [hw2];exact heap_setBlock _ _ _ (heap_lt h1r)
 have hA2 : OneMap w2 A k := o2.heap hA1 (by simpa using hAr)
 have hX2 := o2.heap hX1 (by simpa using hXr)
 have he2 := entry_one w2 r A k h2r hA2
 have hu2 := update_new w2 X k hX2
 obtain ⟨w3,hw3⟩ : ∃ w3,w3 = setBlock w2 X (.map #[entI k] 1) := ⟨_,rfl⟩
 rw [← hw3] at hu2
 have o3 : Only [X] w2 w3 := by rw [hw3];exact only_setBlock _ _ _
 have h3X : OneMap w3 X k := by unfold OneMap;rw [hw3];exact heap_setBlock _ _ _ (heap_lt hX2)
 have hn3 := fun ty => next_over w3 r A k ty (o3.heap h2r (by simpa using hXr.symm)) (o3.heap hA2 (by simpa using HH.out.2.2.2.2.2))
 have h4 := heap_alloc_new w3 (.mapIter none 0 #[] 0)
 have hn4 := fun ty => next_none (w3.alloc (.mapIter none 0 #[] 0)) w3.heap.size ty h4
 have hfin : Only [] w (w3.alloc (.mapIter none 0 #[] 0)) := by
  have h0s := HH.out.2.2.2.1.size
  have h1s := (HH.out.2.2.2.1.trans o1)
  refine Only.alloc ?_ _
  refine (h1s.fresh' o2 ?_).fresh' o3 ?_
  ·intro b hb;simp at hb;omega
  ·intro b hb;simp at hb;have := HH.out.2.1;omega
 have HF := LH (AI hfin h3X)
 clear hw1 hr h1r o1 hA1 hX1 hAr hXr hw2 o2 h2r hA2 hX2 hw3 o3 h3X h4 hfin hr0
 refine wp_loop_rounds 2 ?_
 show Code.wp _ _ (Exit.then (Code.rounds _ _ _ 1) _) _ _
 go_wp2_with fail
 show Code.wp _ _ (Exit.then (Code.rounds _ _ _ 0) _) _ _
 go_wp2_with fail
 refine wp_loop_rounds 1 ?_
 show Code.wp _ _ (Exit.then (Code.rounds _ _ _ 0) _) _ _
 go_wp2_with fail
 go_ret
 exact ⟨X,rfl,by rw [HH.out.2.1];exact Nat.le_refl _,((Only.refl [] w3).alloc _).heap HF.out.2 (by simp),HF.out.1⟩
end Go.Proofs.YtplaamfoeaaaiaaGreatDoor
