/- A part of the proofs of the laws of lifelinetop (TopNever, TopLost, TopRoom): contracts of functions that these laws reach. No condition of its own. -/
import Derived.Test.YtplaamfoeaaaiaaGreatDoorK02
import Derived.Test.YtplaamfoeaaaiaaGreatDoorK04
import Derived.Deep.DeepCutAuto
import Derived.StillTailTactics
import Derived.Laws.ResultCell
set_option maxRecDepth 100000
set_option maxHeartbeats 8000000
set_option linter.unusedVariables false
namespace Go.Proofs.YtplaamfoeaaaiaaGreatDoor
open Go.RowKit
def bitN (c : UInt8) (k : Nat) : Nat := if c.toNat / 64 = k then 2 ^ (c.toNat % 64) else 0
abbrev bitV (c : UInt8) (k : Nat) : Value := .int .u64 (bitN c k)
theorem or_pow (r : Nat) (h : r < 64) : bits BinOp.or IntKind.u64 0 (IntKind.u64.wrap (2 ^ r)) = ((2 ^ r : Nat) : Int) := by
 have : ∀ r : Fin 64,bits BinOp.or IntKind.u64 0 (IntKind.u64.wrap (2 ^ r.val)) = ((2 ^ r.val : Nat) : Int) := by decide +kernel
 exact this ⟨r,h⟩
theorem size224 : (Tryz.prog.info? 224).map (·.size) = some 4 := by kernel_rfl
theorem with_case (n q r : Nat) (hn : n < 256) (hq0 : n / 64 = q) (hr0 : n % 64 = r) (w : World) :
  Calls Tryz.prog 180 #[.agg #[.int .u64 0,.int .u64 0,.int .u64 0,.int .u64 0],.int .u8 n] w fun e w' => e = .returned (.agg (((List.replicate 4 (Value.int .u64 0)).set q (.int .u64 (2 ^ r : Nat)))).toArray) ∧ Only [] w w' := by
 have hr : r < 64 := by omega
 have hq : q < 4 := by omega
 have e1 : ((n : Int) / 64 % 256) = q := by omega
 have e2 : ((n : Int) % 64 % 256) = r := by omega
 have hb : bits BinOp.or IntKind.u64 0 (IntKind.u64.wrap (2 ^ (n % 64))) = ((2 ^ r : Nat) : Int) := by rw [hr0];exact or_pow r hr
 have HB := LH hb
 clear hq0 hr0 hn hb
 match q,hq with
 | 0,_ =>
  go_enter Tryz.func180,Tryz.ntmps180
  go_wp2_with fail
  rw [HB.out]
  have o2 : Only [] w ((w.alloc (.cells #[.int .u64 (2 ^ r : Nat),.int .u64 0,.int .u64 0,.int .u64 0] 224)).alloc (.cells #[.int .u64 (2 ^ r : Nat),.int .u64 0,.int .u64 0,.int .u64 0] 224)) := ((Only.refl [] w).alloc _).alloc _
  refine bodyPost_ret (results_cell_row (p := 4) (ty := 224) (cs := #[.int .u64 (2 ^ r : Nat),.int .u64 0,.int .u64 0,.int .u64 0]) rfl _ _ (w.heap.size + 1) 224 (fr := (0,0)) _ rfl (by have := heap_alloc_new (w.alloc (.cells #[.int .u64 (2 ^ r : Nat),.int .u64 0,.int .u64 0,.int .u64 0] 224)) (.cells #[.int .u64 (2 ^ r : Nat),.int .u64 0,.int .u64 0,.int .u64 0] 224);simpa using this) Tryz.underlying224 rfl size224) rfl ?_
  exact ⟨rfl,o2⟩
 | 1,_ =>
  go_enter Tryz.func180,Tryz.ntmps180
  go_wp2_with fail
  rw [HB.out]
  have o2 : Only [] w ((w.alloc (.cells #[.int .u64 0,.int .u64 (2 ^ r : Nat),.int .u64 0,.int .u64 0] 224)).alloc (.cells #[.int .u64 0,.int .u64 (2 ^ r : Nat),.int .u64 0,.int .u64 0] 224)) := ((Only.refl [] w).alloc _).alloc _
  refine bodyPost_ret (results_cell_row (p := 4) (ty := 224) (cs := #[.int .u64 0,.int .u64 (2 ^ r : Nat),.int .u64 0,.int .u64 0]) rfl _ _ (w.heap.size + 1) 224 (fr := (0,0)) _ rfl (by have := heap_alloc_new (w.alloc (.cells #[.int .u64 0,.int .u64 (2 ^ r : Nat),.int .u64 0,.int .u64 0] 224)) (.cells #[.int .u64 0,.int .u64 (2 ^ r : Nat),.int .u64 0,.int .u64 0] 224);simpa using this) Tryz.underlying224 rfl size224) rfl ?_
  exact ⟨rfl,o2⟩
 | 2,_ =>
  go_enter Tryz.func180,Tryz.ntmps180
  go_wp2_with fail
  rw [HB.out]
  have o2 : Only [] w ((w.alloc (.cells #[.int .u64 0,.int .u64 0,.int .u64 (2 ^ r : Nat),.int .u64 0] 224)).alloc (.cells #[.int .u64 0,.int .u64 0,.int .u64 (2 ^ r : Nat),.int .u64 0] 224)) := ((Only.refl [] w).alloc _).alloc _
  refine bodyPost_ret (results_cell_row (p := 4) (ty := 224) (cs := #[.int .u64 0,.int .u64 0,.int .u64 (2 ^ r : Nat),.int .u64 0]) rfl _ _ (w.heap.size + 1) 224 (fr := (0,0)) _ rfl (by have := heap_alloc_new (w.alloc (.cells #[.int .u64 0,.int .u64 0,.int .u64 (2 ^ r : Nat),.int .u64 0] 224)) (.cells #[.int .u64 0,.int .u64 0,.int .u64 (2 ^ r : Nat),.int .u64 0] 224);simpa using this) Tryz.underlying224 rfl size224) rfl ?_
  exact ⟨rfl,o2⟩
 | 3,_ =>
  go_enter Tryz.func180,Tryz.ntmps180
  go_wp2_with fail
  rw [HB.out]
  have o2 : Only [] w ((w.alloc (.cells #[.int .u64 0,.int .u64 0,.int .u64 0,.int .u64 (2 ^ r : Nat)] 224)).alloc (.cells #[.int .u64 0,.int .u64 0,.int .u64 0,.int .u64 (2 ^ r : Nat)] 224)) := ((Only.refl [] w).alloc _).alloc _
  refine bodyPost_ret (results_cell_row (p := 4) (ty := 224) (cs := #[.int .u64 0,.int .u64 0,.int .u64 0,.int .u64 (2 ^ r : Nat)]) rfl _ _ (w.heap.size + 1) 224 (fr := (0,0)) _ rfl (by have := heap_alloc_new (w.alloc (.cells #[.int .u64 0,.int .u64 0,.int .u64 0,.int .u64 (2 ^ r : Nat)] 224)) (.cells #[.int .u64 0,.int .u64 0,.int .u64 0,.int .u64 (2 ^ r : Nat)] 224);simpa using this) Tryz.underlying224 rfl size224) rfl ?_
  exact ⟨rfl,o2⟩
theorem bitV_eq (c : UInt8) (k q r : Nat) (hq : c.toNat / 64 = q) (hr : c.toNat % 64 = r) : bitV c k = if q = k then .int .u64 (2 ^ r : Nat) else .int .u64 0 := by
 unfold bitV bitN
 rw [hq,hr]
 split <;> rfl
theorem with_any (c : UInt8) (w : World) :
  Calls Tryz.prog 180 #[.agg #[.int .u64 0,.int .u64 0,.int .u64 0,.int .u64 0],byteV c] w fun e w' => e = .returned (.agg #[bitV c 0,bitV c 1,bitV c 2,bitV c 3]) ∧ Only [] w w' := by
 have hc : c.toNat < 256 := c.toNat_lt
 refine (with_case c.toNat _ _ hc rfl rfl w).mono ?_
 rintro e w' ⟨rfl,ho⟩
 refine ⟨?_,ho⟩
 rw [bitV_eq c 0 _ _ rfl rfl,bitV_eq c 1 _ _ rfl rfl,bitV_eq c 2 _ _ rfl rfl,bitV_eq c 3 _ _ rfl rfl]
 have hq : c.toNat / 64 < 4 := by omega
 generalize c.toNat / 64 = q at hq
 match q,hq with
 | 0,_ => rfl
 | 1,_ => rfl
 | 2,_ => rfl
 | 3,_ => rfl
abbrev RdAt (w : World) (R : Nat) (s : ByteArray) (k : Nat) : Prop := w.heap[R]? = some (.cells #[.string s,.int .i64 k] 262 (0,0))
def plainC (c : Nat) : Prop := c ≠ 40 ∧ c ≠ 41 ∧ c ≠ 91 ∧ c ≠ 93 ∧ c ≠ 46 ∧ c ≠ 42 ∧ c ≠ 43 ∧ c ≠ 63 ∧ c ≠ 124 ∧ c ≠ 92
theorem more_yes (R : Nat) (s : ByteArray) (k : Nat) (w : World) (h : RdAt w R s k) (hk : k < s.size) :
  Calls Tryz.prog 123 #[.pointer (some ⟨R,0,none⟩)] w fun e w' => e = .returned (.bool true) ∧ ∃ m,w' = w.drewN m := by
 have c0 : w.cell? ⟨R,0,none⟩ = some (.string s) := cell_at h rfl
 have c1 : w.cell? ⟨R,1,none⟩ = some (.int .i64 k) := cell_at h rfl
 have k1 : ((k : Int) < (s.size : Int)) := by omega
 clear h
 go_enter Tryz.func123,Tryz.ntmps123
 go_wp2_with fail
 go_quiet (fail)
 go_wp2_with fail
 go_ret
 exact ⟨rfl,_,rfl⟩
theorem more_no (R : Nat) (s : ByteArray) (w : World) (h : RdAt w R s s.size) :
  Calls Tryz.prog 123 #[.pointer (some ⟨R,0,none⟩)] w fun e w' => e = .returned (.bool false) ∧ ∃ m,w' = w.drewN m := by
 have c0 : w.cell? ⟨R,0,none⟩ = some (.string s) := cell_at h rfl
 have c1 : w.cell? ⟨R,1,none⟩ = some (.int .i64 s.size) := cell_at h rfl
 clear h
 go_enter Tryz.func123,Tryz.ntmps123
 go_wp2_with fail
 go_quiet (fail)
 go_wp2_with fail
 go_ret
 exact ⟨by simp,_,rfl⟩
theorem is_no (R : Nat) (s : ByteArray) (k : Nat) (c : Int) (w : World) (h : RdAt w R s k) (hk : k < s.size) (hne : ((s[k].toNat : Nat) : Int) ≠ c) :
  Calls Tryz.prog 140 #[.pointer (some ⟨R,0,none⟩),.int .u8 c] w fun e w' => e = .returned (.bool false) ∧ ∃ m,w' = w.drewN m := by
 have c0 : w.cell? ⟨R,0,none⟩ = some (.string s) := cell_at h rfl
 have c1 : w.cell? ⟨R,1,none⟩ = some (.int .i64 k) := cell_at h rfl
 have k1 : ((k : Int) < (s.size : Int)) := by omega
 have k2 : (0 : Int) ≤ (k : Int) := by omega
 have HM := fun n => more_yes R s k (w.drewN n) h hk
 have hf : (((s[k].toNat : Nat) : Int) == c) = false := by simpa using hne
 have HF := LH hf
 clear h hf hne
 go_enter Tryz.func140,Tryz.ntmps140
 go_wp2_with fail
 go_quiet ((go_at_call 123;exact Calls.quiet_of (HM _)))
 go_wp2_with fail
 go_ret
 exact ⟨by show Ending.returned (Value.bool (((s[k].toNat : Nat) : Int) == c)) = _;rw [HF.out],_,rfl⟩
theorem is_end (R : Nat) (s : ByteArray) (c : Int) (w : World) (h : RdAt w R s s.size) :
  Calls Tryz.prog 140 #[.pointer (some ⟨R,0,none⟩),.int .u8 c] w fun e w' => e = .returned (.bool false) ∧ ∃ m,w' = w.drewN m := by
 have HM := fun n => more_no R s (w.drewN n) h
 clear h
 go_enter Tryz.func140,Tryz.ntmps140
 go_wp2_with fail
 go_quiet ((go_at_call 123;exact Calls.quiet_of (HM _)))
 go_wp2_with fail
 go_ret
 exact ⟨rfl,_,rfl⟩
theorem rplain_any (R : Nat) (s : ByteArray) (k : Nat) (w : World) (h : RdAt w R s k) (hk : k < s.size) (hs : s.size ≤ 1000) (hne : s[k].toNat ≠ 92) :
  Calls Tryz.prog 179 #[.pointer (some ⟨R,0,none⟩)] w fun e w' => e = .returned (.tuple #[byteV s[k],.nilIface]) ∧ RdAt w' R s (k + 1) ∧ Only [R] w w' := by
 have c0 : w.cell? ⟨R,0,none⟩ = some (.string s) := cell_at h rfl
 have c1 : w.cell? ⟨R,1,none⟩ = some (.int .i64 k) := cell_at h rfl
 have f1 : w.frozen? ⟨R,1,none⟩ = false := free_at h
 have k1 : ((k : Int) < (s.size : Int)) := by omega
 have k2 : (0 : Int) ≤ (k : Int) := by omega
 have HM := more_yes R s k w h hk
 have hf : (((s[k].toNat : Nat) : Int) == 92) = false := by simp;omega
 have HH := LH h
 clear h hne
 go_enter Tryz.func179,Tryz.ntmps179
 go_upto_region 3 with (go_at_call 123;refine (HM).mono ?_;rintro e w1 ⟨rfl,m,rfl⟩)
 go_quiet (fail)
 go_wp2_with fail
 go_ret2
 have ho : Only [R] w ((w.drewN (m + nq)).setCell ⟨R,1,none⟩ (.int .i64 ((k : Int) + 1))) := ((Only.refl [R] w).drewN _).setCell (by simp) _
 exact ⟨rfl,hs_same (by exact HH.out) (by simp),ho⟩
theorem results_two {P : Program} {fn : Func} {p u : Tmp} {ty : TypeId} (h : fn.results = #[.cell p ty,.tmp u]) (tmps : Array Value) (w : World) (g : Nat) (t : TypeId) (cs : Array Value) (fr : Nat × Nat) (d : TypeDesc) (v : Value) (hp : tmps.getD p undef = .pointer (some ⟨g,0,none⟩)) (hv : tmps.getD u undef = v) (hg : w.heap[g]? = some (.cells cs t fr)) (hu : P.underlying ty = some d) (hd : (match d with | .struct _ | .array _ _ => true | _ => false) = true) (hi : (P.info? ty).map (·.size) = some cs.size) : (results fn tmps).run P w = .ok (.tuple #[.agg cs,v]) w := by
 rw [results_cell_tmp h,hp,hv]
 simp only [asAddr,Result.andThen]
 simp [run_loadVar_row w g t ty cs fr d hg hu hd hi]
theorem size227 : (Tryz.prog.info? 227).map (·.size) = some 6 := by kernel_rfl
theorem node_cells {w : World} {N : Nat} {x0 x1 x2 x3 x4 x5 : Value} {t : TypeId} (h : w.heap[N]? = some (.cells #[x0,x1,x2,x3,x4,x5] t (0,0))) :
  w.cell? ⟨N,0,none⟩ = some x0 ∧ w.cell? ⟨N,1,none⟩ = some x1 ∧ w.cell? ⟨N,2,none⟩ = some x2 ∧ w.cell? ⟨N,3,none⟩ = some x3 ∧ w.cell? ⟨N,4,none⟩ = some x4 ∧ w.cell? ⟨N,5,none⟩ = some x5 :=
 ⟨cell_at h rfl,cell_at h rfl,cell_at h rfl,cell_at h rfl,cell_at h rfl,cell_at h rfl⟩
theorem node_free {w : World} {N : Nat} {c : Array Value} {t : TypeId} (h : w.heap[N]? = some (.cells c t (0,0))) :
  w.frozen? ⟨N,0,none⟩ = false ∧ w.frozen? ⟨N,1,none⟩ = false ∧ w.frozen? ⟨N,2,none⟩ = false ∧ w.frozen? ⟨N,3,none⟩ = false ∧ w.frozen? ⟨N,4,none⟩ = false ∧ w.frozen? ⟨N,5,none⟩ = false :=
 ⟨free_at h,free_at h,free_at h,free_at h,free_at h,free_at h⟩
theorem six_set {w : World} {g : Nat} {x0 x1 x2 x3 x4 x5 : Value} {t : TypeId} (h : w.heap[g]? = some (.cells #[x0,x1,x2,x3,x4,x5] t (0,0))) (a b c d e f : Value) : ((((((w.setCell ⟨g,0,none⟩ a).setCell ⟨g,1,none⟩ b).setCell ⟨g,2,none⟩ c).setCell ⟨g,3,none⟩ d).setCell ⟨g,4,none⟩ e).setCell ⟨g,5,none⟩ f).heap[g]? = some (.cells #[a,b,c,d,e,f] t (0,0)) :=
 hs_same (hs_same (hs_same (hs_same (hs_same (hs_same h rfl) rfl) rfl) rfl) rfl) rfl
theorem six_only (w : World) (N : Nat) (v0 v1 v2 v3 v4 v5 : Value) : Only [N] w ((((((w.setCell ⟨N,0,none⟩ v0).setCell ⟨N,1,none⟩ v1).setCell ⟨N,2,none⟩ v2).setCell ⟨N,3,none⟩ v3).setCell ⟨N,4,none⟩ v4).setCell ⟨N,5,none⟩ v5) :=
 (((((((Only.refl [N] w).setCell (by simp) v0).setCell (by simp) v1).setCell (by simp) v2).setCell (by simp) v3).setCell (by simp) v4).setCell (by simp) v5)
abbrev zeroNode : Array Value := #[.int .i64 0,.int .u64 0,.int .u64 0,.int .u64 0,.int .u64 0,.slice none 0 0]
theorem rone_any (R : Nat) (s : ByteArray) (k : Nat) (dp : Int) (w : World) (h : RdAt w R s k) (hk : k < s.size) (hs : s.size ≤ 1000) (hne : plainC s[k].toNat) :
  Calls Tryz.prog 169 #[.pointer (some ⟨R,0,none⟩),.int .i64 dp] w fun e w' => e = .returned (.tuple #[.agg #[.int .i64 1,bitV s[k] 0,bitV s[k] 1,bitV s[k] 2,bitV s[k] 3,.slice none 0 0],.nilIface]) ∧ RdAt w' R s (k + 1) ∧ Only [R] w w' := by
 have c0 : w.cell? ⟨R,0,none⟩ = some (.string s) := cell_at h rfl
 have c1 : w.cell? ⟨R,1,none⟩ = some (.int .i64 k) := cell_at h rfl
 have k1 : ((k : Int) < (s.size : Int)) := by omega
 have k2 : (0 : Int) ≤ (k : Int) := by omega
 have hR := heap_lt h
 have HP := fun wx (ho : Only [] w wx) => rplain_any R s k wx (ho.heap h (by simp)) hk hs hne.2.2.2.2.2.2.2.2.2
 have HW := fun wx => with_any s[k] wx
 obtain ⟨n,hn⟩ : ∃ n : Int,n = ((s[k].toNat : Nat) : Int) := ⟨_,rfl⟩
 obtain ⟨d1,d2,d3,d4,d5,d6,d7,d8,d9,d10⟩ := hne
 have a1 : (n == 40) = false := by simp;omega
 have a2 : (n == 91) = false := by simp;omega
 have a3 : (n == 46) = false := by simp;omega
 have a4 : (n == 42) = false := by simp;omega
 have a5 : (n == 43) = false := by simp;omega
 have a6 : (n == 63) = false := by simp;omega
 have a7 : (n == 93) = false := by simp;omega
 rw [hn] at a1 a2 a3 a4 a5 a6 a7
 clear h d1 d2 d3 d4 d5 d6 d7 d8 d9 d10 hn
 go_enter Tryz.func169,Tryz.ntmps169
 go_wp2_with fail
 go_quiet (fail)
 obtain ⟨w0,hw0⟩ : ∃ w0,w0 = (w.alloc (.cells #[.int .i64 0,.int .u64 0,.int .u64 0,.int .u64 0,.int .u64 0,.slice none 0 0] 227)).drewN nq := ⟨_,rfl⟩
 obtain ⟨N,hN⟩ : ∃ N,N = w.heap.size := ⟨_,rfl⟩
 have hz : w0.heap[N]? = some (.cells zeroNode 227 (0,0)) := by rw [hw0,hN];exact heap_alloc_new w _
 have o0 : Only [] w w0 := by rw [hw0];exact ((Only.refl [] w).alloc _).drewN _
 rw [← hw0,← hN]
 have hRN : R ≠ N := by omega
 have HZ := LH (AI o0 (AI hz (AI hN hRN)))
 clear hw0 o0 hz hN c0 c1
 go_upto_region 25 with (go_at_call 179;refine (HP _ HZ.out.1).mono ?_;rintro e w1 ⟨rfl,hr1,ho1⟩;have HO1 := LH (AI hr1 ho1);clear hr1 ho1)
 go_upto_region 27 with fail
 go_wp2_with (first | (go_at_call 180;refine (HW _).mono ?_;rintro e w2 ⟨rfl,ho2⟩;have hz2 := ho2.heap (HO1.out.2.heap HZ.out.2.1 (by simpa using hRN.symm)) (by simp);obtain ⟨y0,y1,y2,y3,y4,y5⟩ := node_cells hz2;obtain ⟨z0,z1,z2,z3,z4,z5⟩ := node_free hz2;have HO2 := LH (AI ho2 hz2);clear ho2 hz2))
 have h9 := six_set HO2.out.2 (.int .i64 1) (bitV s[k] 0) (bitV s[k] 1) (bitV s[k] 2) (bitV s[k] 3) (.slice none 0 0)
 refine bodyPost_ret (results_two (p := 4) (ty := 227) (u := 5) (cs := #[.int .i64 1,bitV s[k] 0,bitV s[k] 1,bitV s[k] 2,bitV s[k] 3,.slice none 0 0]) rfl _ _ N 227 (fr := (0,0)) _ _ rfl rfl h9 Tryz.underlying227 rfl size227) rfl ?_
 have o9 : ∀ v0 v1 v2 v3 v4 v5,Only [R] w ((((((w2.setCell ⟨N,0,none⟩ v0).setCell ⟨N,1,none⟩ v1).setCell ⟨N,2,none⟩ v2).setCell ⟨N,3,none⟩ v3).setCell ⟨N,4,none⟩ v4).setCell ⟨N,5,none⟩ v5) := by
  intro v0 v1 v2 v3 v4 v5
  have hN : w.heap.size ≤ N := by have := HZ.out.2.2.1;omega
  exact (((((((HZ.out.1.weaken (by simp)).trans (HO1.out.2.trans (HO2.out.1.weaken (by simp)))).setFresh hN v0).setFresh hN v1).setFresh hN v2).setFresh hN v3).setFresh hN v4).setFresh hN v5
 refine ⟨rfl,?_,o9 _ _ _ _ _ _⟩
 exact (six_only w2 N _ _ _ _ _ _).heap (HO2.out.1.heap HO1.out.1 (by simp)) (by simpa using hRN)
abbrev oneNode (c : UInt8) : Array Value := #[.int .i64 1,bitV c 0,bitV c 1,bitV c 2,bitV c 3,.slice none 0 0]
theorem ragain_any (R : Nat) (s : ByteArray) (k j : Nat) (hj : j = k + 1) (dp : Int) (w : World) (h : RdAt w R s k) (hk : k < s.size) (hs : s.size ≤ 1000) (hne : plainC s[k].toNat) (hne2 : ∀ (h : j < s.size),plainC s[j].toNat) :
  Calls Tryz.prog 155 #[.pointer (some ⟨R,0,none⟩),.int .i64 dp] w fun e w' => e = .returned (.tuple #[.agg (oneNode s[k]),.nilIface]) ∧ RdAt w' R s j ∧ Only [R] w w' := by
 have hR := heap_lt h
 have HO := fun wx (ho : Only [] w wx) => (rone_any R s k dp wx (ho.heap h (by simp)) hk hs hne).mono (R' := fun e w' => e = .returned (.tuple #[.agg (oneNode s[k]),.nilIface]) ∧ RdAt w' R s j ∧ Only [R] wx w') (fun e w' q => by rw [hj];exact q)
 have q1 := fun w => neq_nn w
 have k1 : (0 : Int) ≤ (j : Int) := by omega
 have hjs : j ≤ s.size := by omega
 obtain ⟨w0,hw0⟩ : ∃ w0,w0 = w.alloc (.cells zeroNode 227) := ⟨_,rfl⟩
 obtain ⟨N,hN⟩ : ∃ N,N = w.heap.size := ⟨_,rfl⟩
 have hz : w0.heap[N]? = some (.cells zeroNode 227 (0,0)) := by rw [hw0,hN];exact heap_alloc_new w _
 have o0 : Only [] w w0 := by rw [hw0];exact (Only.refl [] w).alloc _
 have hRN : R ≠ N := by omega
 have HH := LH (AI hw0 (AI hN (AI hz (AI o0 h))))
 clear h hne hw0 hN hz o0 hj
 by_cases hlt : j < s.size
 ·obtain ⟨d1,d2,d3,d4,d5,d6,d7,d8,d9,d10⟩ := hne2 hlt
  obtain ⟨n,hn⟩ : ∃ n : Int,n = ((s[j].toNat : Nat) : Int) := ⟨_,rfl⟩
  have a4 : (n == 42) = false := by simp;omega
  have a5 : (n == 43) = false := by simp;omega
  have a6 : (n == 63) = false := by simp;omega
  rw [hn] at a4 a5 a6
  have k2 : ((j : Int) < (s.size : Int)) := by omega
  have HM := fun wx (hr : RdAt wx R s j) => more_yes R s j wx hr hlt
  clear hne2 d1 d2 d3 d4 d5 d6 d7 d8 d9 d10 hn
  go_enter Tryz.func155,Tryz.ntmps155
  go_upto_region 1 with fail
  rw [← HH.out.1,← HH.out.2.1]
  go_upto_region 2 with (go_at_call 169;refine (HO _ HH.out.2.2.2.1).mono ?_;rintro e w1 ⟨rfl,hr1,ho1⟩;have HO1 := LH (AI hr1 ho1);clear hr1 ho1)
  obtain ⟨w2,hw2⟩ : ∃ w2,w2 = w1.alloc (.cells (oneNode s[k]) 227) := ⟨_,rfl⟩
  obtain ⟨A,hA⟩ : ∃ A,A = w1.heap.size := ⟨_,rfl⟩
  have hA2 : w2.heap[A]? = some (.cells (oneNode s[k]) 227 (0,0)) := by rw [hw2,hA];exact heap_alloc_new w1 _
  have o2 : Only [] w1 w2 := by rw [hw2];exact (Only.refl [] w1).alloc _
  rw [← hw2,← hA]
  have hN1 : w1.heap[N]? = some (.cells zeroNode 227 (0,0)) := HO1.out.2.heap HH.out.2.2.1 (by simpa using hRN.symm)
  have hN2 := o2.heap hN1 (by simp)
  have hR2 := o2.heap HO1.out.1 (by simp)
  have hAN : A ≠ N := by have := heap_lt hN1;omega
  have HM2 := HM w2 hR2
  obtain ⟨x0,x1,x2,x3,x4,x5⟩ := node_cells hA2
  obtain ⟨y0,y1,y2,y3,y4,y5⟩ := node_cells hN2
  obtain ⟨z0,z1,z2,z3,z4,z5⟩ := node_free hN2
  have c0 : w2.cell? ⟨R,0,none⟩ = some (.string s) := cell_at hR2 rfl
  have c1 : w2.cell? ⟨R,1,none⟩ = some (.int .i64 j) := cell_at hR2 rfl
  have HA := LH (AI hA2 (AI o2 (AI hN2 (AI hR2 hAN))))
  clear hw2 hA hA2 o2 hN1 hN2 hR2 HM hAN HO
  go_upto_region 4 with (go_at_call 123;refine (HM2).mono ?_;rintro e w3 ⟨rfl,m,rfl⟩)
  go_quiet (fail)
  go_wp2_with fail
  have hNw : w.heap.size ≤ N := by rw [HH.out.2.1];exact Nat.le_refl _
  have o9 : ∀ m v0 v1 v2 v3 v4 v5,Only [R] w (((((((w2.drewN m).setCell ⟨N,0,none⟩ v0).setCell ⟨N,1,none⟩ v1).setCell ⟨N,2,none⟩ v2).setCell ⟨N,3,none⟩ v3).setCell ⟨N,4,none⟩ v4).setCell ⟨N,5,none⟩ v5) := by
   intro m v0 v1 v2 v3 v4 v5
   exact ((((((((HH.out.2.2.2.1.weaken (by simp)).trans (HO1.out.2.trans (HA.out.2.1.weaken (by simp)))).drewN m).setFresh hNw v0).setFresh hNw v1).setFresh hNw v2).setFresh hNw v3).setFresh hNw v4).setFresh hNw v5
  have h9 := fun m => six_set (w := w2.drewN m) HA.out.2.2.1 (.int .i64 1) (bitV s[k] 0) (bitV s[k] 1) (bitV s[k] 2) (bitV s[k] 3) (.slice none 0 0)
  refine bodyPost_ret (results_two (p := 4) (ty := 227) (u := 5) (cs := oneNode s[k]) rfl _ _ N 227 (fr := (0,0)) _ _ rfl rfl (h9 _) Tryz.underlying227 rfl size227) rfl ?_
  refine ⟨rfl,?_,o9 _ _ _ _ _ _ _⟩
  exact (six_only (w2.drewN _) N _ _ _ _ _ _).heap (by exact HA.out.2.2.2.1) (by simpa using hRN)
 ·obtain rfl : j = s.size := by omega
  have HM := fun wx (hr : RdAt wx R s s.size) => more_no R s wx hr
  clear hne2 hlt
  go_enter Tryz.func155,Tryz.ntmps155
  go_upto_region 1 with fail
  rw [← HH.out.1,← HH.out.2.1]
  go_upto_region 2 with (go_at_call 169;refine (HO _ HH.out.2.2.2.1).mono ?_;rintro e w1 ⟨rfl,hr1,ho1⟩;have HO1 := LH (AI hr1 ho1);clear hr1 ho1)
  obtain ⟨w2,hw2⟩ : ∃ w2,w2 = w1.alloc (.cells (oneNode s[k]) 227) := ⟨_,rfl⟩
  obtain ⟨A,hA⟩ : ∃ A,A = w1.heap.size := ⟨_,rfl⟩
  have hA2 : w2.heap[A]? = some (.cells (oneNode s[k]) 227 (0,0)) := by rw [hw2,hA];exact heap_alloc_new w1 _
  have o2 : Only [] w1 w2 := by rw [hw2];exact (Only.refl [] w1).alloc _
  rw [← hw2,← hA]
  have hN1 : w1.heap[N]? = some (.cells zeroNode 227 (0,0)) := HO1.out.2.heap HH.out.2.2.1 (by simpa using hRN.symm)
  have hN2 := o2.heap hN1 (by simp)
  have hR2 := o2.heap HO1.out.1 (by simp)
  have hAN : A ≠ N := by have := heap_lt hN1;omega
  have HM2 := HM w2 hR2
  obtain ⟨x0,x1,x2,x3,x4,x5⟩ := node_cells hA2
  obtain ⟨y0,y1,y2,y3,y4,y5⟩ := node_cells hN2
  obtain ⟨z0,z1,z2,z3,z4,z5⟩ := node_free hN2
  have c0 : w2.cell? ⟨R,0,none⟩ = some (.string s) := cell_at hR2 rfl
  have c1 : w2.cell? ⟨R,1,none⟩ = some (.int .i64 s.size) := cell_at hR2 rfl
  have HA := LH (AI hA2 (AI o2 (AI hN2 (AI hR2 hAN))))
  clear hw2 hA hA2 o2 hN1 hN2 hR2 HM hAN HO
  go_wp2_with (go_at_call 123;refine (HM2).mono ?_;rintro e w3 ⟨rfl,m,rfl⟩)
  have hNw : w.heap.size ≤ N := by rw [HH.out.2.1];exact Nat.le_refl _
  have o9 : ∀ m v0 v1 v2 v3 v4 v5,Only [R] w (((((((w2.drewN m).setCell ⟨N,0,none⟩ v0).setCell ⟨N,1,none⟩ v1).setCell ⟨N,2,none⟩ v2).setCell ⟨N,3,none⟩ v3).setCell ⟨N,4,none⟩ v4).setCell ⟨N,5,none⟩ v5) := by
   intro m v0 v1 v2 v3 v4 v5
   exact ((((((((HH.out.2.2.2.1.weaken (by simp)).trans (HO1.out.2.trans (HA.out.2.1.weaken (by simp)))).drewN m).setFresh hNw v0).setFresh hNw v1).setFresh hNw v2).setFresh hNw v3).setFresh hNw v4).setFresh hNw v5
  have h9 := fun m => six_set (w := w2.drewN m) HA.out.2.2.1 (.int .i64 1) (bitV s[k] 0) (bitV s[k] 1) (bitV s[k] 2) (bitV s[k] 3) (.slice none 0 0)
  refine bodyPost_ret (results_two (p := 4) (ty := 227) (u := 5) (cs := oneNode s[k]) rfl _ _ N 227 (fr := (0,0)) _ _ rfl rfl (h9 _) Tryz.underlying227 rfl size227) rfl ?_
  refine ⟨rfl,?_,o9 _ _ _ _ _ _ _⟩
  exact (six_only (w2.drewN _) N _ _ _ _ _ _).heap (by exact HA.out.2.2.2.1) (by simpa using hRN)
abbrev thenNode (g : Nat) : Array Value := #[.int .i64 2,.int .u64 0,.int .u64 0,.int .u64 0,.int .u64 0,.slice (some ⟨g,0,none⟩) 2 2]
inductive NodeAt (w : World) (lo : Nat) : Array Value → List UInt8 → Prop where
 | one (c : UInt8) : NodeAt w lo (oneNode c) [c]
 | snoc (g : Nat) (x : Array Value) (l : List UInt8) (c : UInt8) : NodeAt w lo x l → lo ≤ g → w.heap[g]? = some (.cells (x ++ oneNode c) 227 (0,0)) → NodeAt w lo (thenNode g) (l ++ [c])
theorem NodeAt.of_only {w w' : World} {lo : Nat} {x : Array Value} {l : List UInt8} {ks : List Nat} (h : NodeAt w lo x l) (ho : Only ks w w') (hk : ∀ b,b ∈ ks → b < lo) : NodeAt w' lo x l := by
 induction h with
 | one c => exact .one c
 | snoc g x l c _ hg hh ih => exact .snoc g x l c ih hg (ho.heap hh (fun hm => by have := hk g hm;omega))
theorem NodeAt.lower {w : World} {lo lo' : Nat} {x : Array Value} {l : List UInt8} (h : NodeAt w lo x l) (hl : lo' ≤ lo) : NodeAt w lo' x l := by
 induction h with
 | one c => exact .one c
 | snoc g x l c _ hg hh ih => exact .snoc g x l c ih (Nat.le_trans hl hg) hh
abbrev nodeA (kd : Int) (n1 n2 n3 n4 : Int) (a : Option Addr) (m c : Nat) : Array Value := #[.int .i64 kd,.int .u64 n1,.int .u64 n2,.int .u64 n3,.int .u64 n4,.slice a m c]
theorem NodeAt.form {w : World} {lo : Nat} {x : Array Value} {l : List UInt8} (h : NodeAt w lo x l) : ∃ kd n1 n2 n3 n4 a m c,x = nodeA kd n1 n2 n3 n4 a m c := by
 cases h with
 | one c => exact ⟨_,_,_,_,_,_,_,_,rfl⟩
 | snoc g x l c => exact ⟨_,_,_,_,_,_,_,_,rfl⟩
theorem NodeAt.ne {w : World} {lo : Nat} {x : Array Value} {l : List UInt8} (h : NodeAt w lo x l) : l ≠ [] := by
 cases h <;> simp
def readAt (R : Nat) (w : World) : Nat := match w.cell? ⟨R,1,none⟩ with
 | some (.int _ n) => n.toNat
 | _ => 0
theorem readAt_eq {R k : Nat} {s : ByteArray} {w : World} (h : RdAt w R s k) : readAt R w = k := by
 unfold readAt
 have c1 : w.cell? ⟨R,1,none⟩ = some (.int .i64 k) := cell_at h rfl
 rw [c1];simp
theorem take_snocB (s : ByteArray) (k : Nat) (h : k < s.size) : s.data.toList.take (k + 1) = s.data.toList.take k ++ [s[k]] := by
 rw [List.take_succ_eq_append_getElem (by simpa using h)];rfl
theorem rd_drewN {w : World} {R k : Nat} {s : ByteArray} (h : RdAt w R s k) (m : Nat) : RdAt (w.drewN m) R s k := h
def ThenAt (w : World) (R N O : Nat) (s : ByteArray) (first : Value) (wr : World) : Prop :=
 ∃ k x,k ≤ s.size ∧ RdAt wr R s k ∧ Only [R] w wr ∧ wr.heap[N]? = some (.cells zeroNode 227 (0,0)) ∧ wr.heap[O]? = some (.cells x 227 (0,0)) ∧ ((k = 0 ∧ first = .bool true ∧ x = zeroNode) ∨ (0 < k ∧ first = .bool false ∧ NodeAt wr (O + 1) x (s.data.toList.take k)))
theorem node_loads {w : World} {N : Nat} {kd n1 n2 n3 n4 : Int} {a : Option Addr} {m c : Nat} (h : w.heap[N]? = some (.cells (nodeA kd n1 n2 n3 n4 a m c) 227 (0,0))) :
  w.cell? ⟨N,0,none⟩ = some (.int .i64 kd) ∧ w.cell? ⟨N,1,none⟩ = some (.int .u64 n1) ∧ w.cell? ⟨N,2,none⟩ = some (.int .u64 n2) ∧ w.cell? ⟨N,3,none⟩ = some (.int .u64 n3) ∧ w.cell? ⟨N,4,none⟩ = some (.int .u64 n4) ∧ w.cell? ⟨N,5,none⟩ = some (.slice a m c) := node_cells h
def Plain (s : ByteArray) : Prop := ∀ k,(h : k < s.size) → plainC s[k].toNat
theorem rthen_any (R : Nat) (s : ByteArray) (dp : Int) (w : World) (h : RdAt w R s 0) (hs : s.size ≤ 1000) (h0 : 0 < s.size) (hp : Plain s) :
  Calls Tryz.prog 139 #[.pointer (some ⟨R,0,none⟩),.int .i64 dp] w fun e w' => ∃ x,e = .returned (.tuple #[.agg x,.nilIface]) ∧ NodeAt w' w.heap.size x s.data.toList ∧ RdAt w' R s s.size ∧ Only [R] w w' := by
 have hR := heap_lt h
 have HH := LH (AI h (AI hp h0))
 clear h hp h0
 go_enter Tryz.func139,Tryz.ntmps139
 go_upto_region 2 with fail
 go_wp2_with fail
 obtain ⟨N,hN⟩ : ∃ N,N = w.heap.size := ⟨_,rfl⟩
 obtain ⟨O,hO⟩ : ∃ O,O = N + 1 := ⟨_,rfl⟩
 obtain ⟨wb,hwb⟩ : ∃ wb,wb = (w.alloc (.cells zeroNode 227)).alloc (.cells zeroNode 227) := ⟨_,rfl⟩
 have hbO : wb.heap[O]? = some (.cells zeroNode 227 (0,0)) := by
  have := heap_alloc_new (w.alloc (.cells zeroNode 227)) (.cells zeroNode 227)
  rw [hwb,hO,hN];simpa using this
 have ob : Only [] w wb := by rw [hwb];exact ((Only.refl [] w).alloc _).alloc _
 have hsz : wb.heap.size = O + 1 := by rw [hwb,hO,hN];simp
 have hRw : R < w.heap.size := hR
 have hNO : N < O := by omega
 have hRN : R < N := by omega
 have hNw : w.heap.size ≤ N := by omega
 have hOw : w.heap.size ≤ O := by omega
 have hbN : wb.heap[N]? = some (.cells zeroNode 227 (0,0)) := by
  rw [hwb]
  exact ((Only.refl [] _).alloc _).heap (by rw [hN];exact heap_alloc_new w _) (by simp)
 have hat : ThenAt w R N O s (.bool true) wb := ⟨0,zeroNode,Nat.zero_le _,ob.heap HH.out.1 (by simp),ob.weaken (by simp),hbN,hbO,.inl ⟨rfl,rfl,rfl⟩⟩
 have HB := LH hat
 rw [← hwb,← hN,← hO]
 clear hat hwb hbO ob hsz hbN hN hO hR
 go_loopw [7] (fun s7 wr => ThenAt w R N O s s7 wr) (fun _ wr => s.size - readAt R wr)
 case atStart => exact HB.out
 case round =>
  obtain ⟨k,x,hk,hr,ho,hn,hO,hx⟩ := hrel
  have hrk := readAt_eq hr
  by_cases hlt : k < s.size
  ·have hpk := HH.out.2.1 k hlt
   have HM := fun wx (h : RdAt wx R s k) => more_yes R s k wx h hlt
   have HI1 := fun wx (h : RdAt wx R s k) => is_no R s k 124 wx h hlt (by have := hpk.2.2.2.2.2.2.2.2.1;omega)
   have HI2 := fun wx (h : RdAt wx R s k) => is_no R s k 41 wx h hlt (by have := hpk.2.1;omega)
   obtain ⟨j,hj⟩ : ∃ j,j = k + 1 := ⟨_,rfl⟩
   have HG := fun wx (h : RdAt wx R s k) => ragain_any R s k j hj dp wx h hlt hs hpk (fun h => HH.out.2.1 j h)
   have q1 := fun w => neq_nn w
   have HX := LH (AI hr (AI ho (AI hn (AI hO (AI hpk (AI hj hrk))))))
   clear hr ho hn hO hpk hj hrk
   rcases hx with ⟨h0,rfl,rfl⟩ | ⟨h0,rfl,hnode⟩
   ·have H0 := LH h0
    clear h0
    go_upto_region 5 with (first
     | (go_at_call 123;refine (HM _ HX.out.1).mono ?_;rintro e w1 ⟨rfl,m1,rfl⟩;clear HM)
     | (go_at_call 140;(with_reducible refine (HI1 _ (rd_drewN HX.out.1 _)).mono ?_);rintro e w1 ⟨rfl,m2,rfl⟩;clear HI1)
     | (go_at_call 140;(with_reducible refine (HI2 _ (rd_drewN HX.out.1 _)).mono ?_);rintro e w1 ⟨rfl,m3,rfl⟩;clear HI2))
    go_upto_region 6 with (go_at_call 155;refine (HG _ (rd_drewN HX.out.1 _)).mono ?_;rintro e w1 ⟨rfl,hr1,ho1⟩;have HO1 := LH (AI hr1 ho1);clear hr1 ho1)
    obtain ⟨A,hA⟩ : ∃ A,A = w1.heap.size := ⟨_,rfl⟩
    obtain ⟨w2,hw2⟩ : ∃ w2,w2 = w1.alloc (.cells (oneNode s[k]) 227) := ⟨_,rfl⟩
    have hA2 : w2.heap[A]? = some (.cells (oneNode s[k]) 227 (0,0)) := by rw [hw2,hA];exact heap_alloc_new w1 _
    have o2 : Only [] w1 w2 := by rw [hw2];exact (Only.refl [] w1).alloc _
    rw [← hw2,← hA]
    have oX : Only [R] wr w2 := (((Only.refl [R] wr).drewN _).trans HO1.out.2).trans (o2.weaken (by simp))
    have hO2 := oX.heap HX.out.2.2.2.1 (by simp;omega)
    have hN2 := oX.heap HX.out.2.2.1 (by simp;omega)
    have hR2 := o2.heap HO1.out.1 (by simp)
    have hAO : O < A := by have := heap_lt (HO1.out.2.heap (w := wr.drewN _) HX.out.2.2.2.1 (by simp;omega));omega
    obtain ⟨x0,x1,x2,x3,x4,x5⟩ := node_cells hA2
    obtain ⟨y0,y1,y2,y3,y4,y5⟩ := node_cells hO2
    obtain ⟨z0,z1,z2,z3,z4,z5⟩ := node_free hO2
    have HA := LH (AI oX (AI hO2 (AI hN2 (AI hR2 (AI hA2 hAO)))))
    clear hw2 hA hA2 o2 oX hO2 hN2 hR2 hAO HG
    go_wp2_with fail
    have o6 := six_only w2 O (.int .i64 1) (bitV s[k] 0) (bitV s[k] 1) (bitV s[k] 2) (bitV s[k] 3) (.slice none 0 0)
    have hr9 := o6.heap HA.out.2.2.2.1 (by simp;omega)
    have ho9 : Only [R] w (World.setCell (World.setCell (World.setCell (World.setCell (World.setCell (World.setCell w2 ⟨O,0,none⟩ (.int .i64 1)) ⟨O,1,none⟩ (bitV s[k] 0)) ⟨O,2,none⟩ (bitV s[k] 1)) ⟨O,3,none⟩ (bitV s[k] 2)) ⟨O,4,none⟩ (bitV s[k] 3)) ⟨O,5,none⟩ (.slice none 0 0)) :=
     (((((((HX.out.2.1.trans HA.out.1).setFresh hOw _).setFresh hOw _).setFresh hOw _).setFresh hOw _).setFresh hOw _).setFresh hOw _)
    have hj := HX.out.2.2.2.2.2.1
    refine ⟨⟨j,oneNode s[k],by omega,hr9,ho9,o6.heap HA.out.2.2.1 (by simp;omega),six_set HA.out.2.1 _ _ _ _ _ _,.inr ⟨by omega,rfl,?_⟩⟩,?_⟩
    ·have e : s.data.toList.take j = [s[k]] := by
      have h0 : s.data.toList.take k = [] := by rw [H0.out];rfl
      rw [hj,take_snocB s k hlt,h0]
      rfl
     rw [e];exact .one _
    ·have e1 := readAt_eq hr9
     have e2 := HX.out.2.2.2.2.2.2
     rw [e1,e2];omega
   ·have H0 := LH (AI h0 hnode)
    obtain ⟨kd,n1,n2,n3,n4,na,nm,nc,rfl⟩ := hnode.form
    clear h0 hnode
    go_upto_region 5 with (first
     | (go_at_call 123;refine (HM _ HX.out.1).mono ?_;rintro e w1 ⟨rfl,m1,rfl⟩;clear HM)
     | (go_at_call 140;(with_reducible refine (HI1 _ (rd_drewN HX.out.1 _)).mono ?_);rintro e w1 ⟨rfl,m2,rfl⟩;clear HI1)
     | (go_at_call 140;(with_reducible refine (HI2 _ (rd_drewN HX.out.1 _)).mono ?_);rintro e w1 ⟨rfl,m3,rfl⟩;clear HI2))
    go_upto_region 6 with (go_at_call 155;refine (HG _ (rd_drewN HX.out.1 _)).mono ?_;rintro e w1 ⟨rfl,hr1,ho1⟩;have HO1 := LH (AI hr1 ho1);clear hr1 ho1)
    obtain ⟨A,hA⟩ : ∃ A,A = w1.heap.size := ⟨_,rfl⟩
    obtain ⟨w2,hw2⟩ : ∃ w2,w2 = w1.alloc (.cells (oneNode s[k]) 227) := ⟨_,rfl⟩
    have hA2 : w2.heap[A]? = some (.cells (oneNode s[k]) 227 (0,0)) := by rw [hw2,hA];exact heap_alloc_new w1 _
    have o2 : Only [] w1 w2 := by rw [hw2];exact (Only.refl [] w1).alloc _
    rw [← hw2,← hA]
    have oX : Only [R] wr w2 := (((Only.refl [R] wr).drewN _).trans HO1.out.2).trans (o2.weaken (by simp))
    have hO2 := oX.heap HX.out.2.2.2.1 (by simp;omega)
    have hN2 := oX.heap HX.out.2.2.1 (by simp;omega)
    have hR2 := o2.heap HO1.out.1 (by simp)
    have hAO : O < A := by have := heap_lt (HO1.out.2.heap (w := wr.drewN _) HX.out.2.2.2.1 (by simp;omega));omega
    obtain ⟨x0,x1,x2,x3,x4,x5⟩ := node_cells hA2
    obtain ⟨y0,y1,y2,y3,y4,y5⟩ := node_loads hO2
    obtain ⟨z0,z1,z2,z3,z4,z5⟩ := node_free hO2
    have HA := LH (AI oX (AI hO2 (AI hN2 (AI hR2 (AI hA2 hAO)))))
    have hlO := heap_lt hO2
    clear hw2 hA hA2 o2 oX hO2 hN2 hR2 hAO HG
    go_wp2_with fail
    have o6 := six_only w2 O (.int .i64 2) (.int .u64 0) (.int .u64 0) (.int .u64 0) (.int .u64 0) (.slice (some ⟨w2.heap.size,0,none⟩) 2 2)
    have h6 := six_set HA.out.2.1 (.int .i64 2) (.int .u64 0) (.int .u64 0) (.int .u64 0) (.int .u64 0) (.slice (some ⟨w2.heap.size,0,none⟩) 2 2)
    obtain ⟨w4,hw4⟩ : ∃ w4,w4 = (World.setCell (World.setCell (World.setCell (World.setCell (World.setCell (World.setCell w2 ⟨O,0,none⟩ (.int .i64 2)) ⟨O,1,none⟩ (.int .u64 0)) ⟨O,2,none⟩ (.int .u64 0)) ⟨O,3,none⟩ (.int .u64 0)) ⟨O,4,none⟩ (.int .u64 0)) ⟨O,5,none⟩ (.slice (some ⟨w2.heap.size,0,none⟩) 2 2)) := ⟨_,rfl⟩
    have hs4 : w4.heap.size = w2.heap.size := by rw [hw4];simp [World.setCell]
    rw [← hw4] at o6 h6 ⊢
    obtain ⟨w3,hw3⟩ : ∃ w3,w3 = w4.alloc (.cells (nodeA kd n1 n2 n3 n4 na nm nc ++ oneNode s[k]) 227) := ⟨_,rfl⟩
    have hg3 : w3.heap[w2.heap.size]? = some (.cells (nodeA kd n1 n2 n3 n4 na nm nc ++ oneNode s[k]) 227 (0,0)) := by rw [hw3,← hs4];exact heap_alloc_new w4 _
    have o3 : Only [] w4 w3 := by rw [hw3];exact (Only.refl [] w4).alloc _
    have hr9 := o3.heap (o6.heap HA.out.2.2.2.1 (by simp;omega)) (by simp)
    have o23 : Only [O] w2 w3 := o6.trans (o3.weaken (by simp))
    have ho9 : Only [R] w w3 := ⟨o23.os.trans (HX.out.2.1.trans HA.out.1).os,o23.tape.trans (HX.out.2.1.trans HA.out.1).tape,o23.output.trans (HX.out.2.1.trans HA.out.1).output,Nat.le_trans (HX.out.2.1.trans HA.out.1).size o23.size,fun b hb hn => (o23.block b (Nat.lt_of_lt_of_le hb (HX.out.2.1.trans HA.out.1).size) (by simp;omega)).trans ((HX.out.2.1.trans HA.out.1).block b hb hn)⟩
    have hj := HX.out.2.2.2.2.2.1
    have hfin : ThenAt w R N O s (.bool false) w3 := by
     refine ⟨j,thenNode w2.heap.size,by omega,hr9,ho9,o3.heap (o6.heap HA.out.2.2.1 (by simp;omega)) (by simp),o3.heap h6 (by simp),.inr ⟨by omega,rfl,?_⟩⟩
     rw [hj,take_snocB s k hlt]
     have hn1 := (H0.out.2.of_only HA.out.1 (by intro b hb;simp at hb;omega)).of_only o23 (by intro b hb;simp at hb;omega)
     exact .snoc _ _ _ _ hn1 (by omega) hg3
    have e1 := readAt_eq hr9
    have e2 := HX.out.2.2.2.2.2.2
    rw [hw3] at hfin e1
    exact ⟨hfin,by rw [e2];show s.size - readAt R (w4.alloc (.cells (nodeA kd n1 n2 n3 n4 na nm nc ++ oneNode s[k]) 227)) < _;rw [e1];omega⟩
  ·obtain rfl : k = s.size := by omega
   have HM := fun wx (h : RdAt wx R s s.size) => more_no R s wx h
   rcases hx with ⟨h0,rfl,rfl⟩ | ⟨h0,rfl,hnode⟩
   ·exfalso;have := HH.out.2.2;omega
   ·obtain ⟨kd,n1,n2,n3,n4,na,nm,nc,rfl⟩ := hnode.form
    obtain ⟨y0,y1,y2,y3,y4,y5⟩ := node_loads hO
    obtain ⟨x0,x1,x2,x3,x4,x5⟩ := node_cells hn
    obtain ⟨z0,z1,z2,z3,z4,z5⟩ := node_free hn
    have HX := LH (AI hr (AI ho (AI hn hnode)))
    clear hr ho hn hO hnode hrk
    go_wp2_with (go_at_call 123;refine (HM _ HX.out.1).mono ?_;rintro e w1 ⟨rfl,m1,rfl⟩;clear HM)
    have o6 := six_only (wr.drewN m1) N (.int .i64 kd) (.int .u64 n1) (.int .u64 n2) (.int .u64 n3) (.int .u64 n4) (.slice na nm nc)
    have h9 := six_set (w := wr.drewN m1) HX.out.2.2.1 (.int .i64 kd) (.int .u64 n1) (.int .u64 n2) (.int .u64 n3) (.int .u64 n4) (.slice na nm nc)
    refine bodyPost_ret (results_two (p := 4) (ty := 227) (u := 5) (cs := nodeA kd n1 n2 n3 n4 na nm nc) rfl _ _ N 227 (fr := (0,0)) _ _ rfl rfl h9 Tryz.underlying227 rfl size227) rfl ?_
    refine ⟨_,rfl,?_,o6.heap (by exact HX.out.1) (by simp;omega),?_⟩
    ·have ht : s.data.toList.take s.size = s.data.toList := List.take_of_length_le (Nat.le_of_eq Array.length_toList)
     have hq := HX.out.2.2.2
     rw [ht] at hq
     exact ((hq.of_only (only_drewN [] wr m1) (by simp)).of_only o6 (by intro b hb;simp at hb;omega)).lower (by omega)
    ·exact ((((((HX.out.2.1.drewN m1).setFresh hNw _).setFresh hNw _).setFresh hNw _).setFresh hNw _).setFresh hNw _).setFresh hNw _
end Go.Proofs.YtplaamfoeaaaiaaGreatDoor
