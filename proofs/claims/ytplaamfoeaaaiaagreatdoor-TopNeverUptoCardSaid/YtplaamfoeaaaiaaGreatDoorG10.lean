/- A part of the proofs of the laws of lifelinetop (TopNever, TopLost, TopRoom): contracts of functions that these laws reach. No condition of its own. -/
import Derived.Test.YtplaamfoeaaaiaaGreatDoorG02
import Derived.Test.YtplaamfoeaaaiaaGreatDoorG07
import Derived.Test.YtplaamfoeaaaiaaGreatDoorG09
import Derived.Deep.RegionLaw
import Derived.Deep.RegionHeld3
set_option maxRecDepth 100000
set_option maxHeartbeats 8000000
set_option linter.unusedVariables false
namespace Go.Proofs.YtplaamfoeaaaiaaGreatDoor
open Go.RowKit
abbrev oneNode (c : UInt8) : Array Value := #[.int .i64 1, bitV c 0, bitV c 1, bitV c 2, bitV c 3, .slice none 0 0]
theorem ragain_any (R : Nat) (s : ByteArray) (k j : Nat) (hj : j = k + 1) (dp : Int) (w : World) (h : RdAt w R s k) (hk : k < s.size) (hs : s.size ≤ 1000) (hne : plainC s[k].toNat) (hne2 : ∀ (h : j < s.size), plainC s[j].toNat) :
    Calls Tryz.prog 155 #[.pointer (some ⟨R, 0, none⟩), .int .i64 dp] w fun e w' => e = .returned (.tuple #[.agg (oneNode s[k]), .nilIface]) ∧ RdAt w' R s j ∧ Only [R] w w' := by
  have hR := heap_lt h
  have HO := fun wx (ho : Only [] w wx) => (rone_any R s k dp wx (ho.heap h (by simp)) hk hs hne).mono (R' := fun e w' => e = .returned (.tuple #[.agg (oneNode s[k]), .nilIface]) ∧ RdAt w' R s j ∧ Only [R] wx w') (fun e w' q => by rw [hj]; exact q)
  have q1 := fun w => neq_nn w
  have k1 : (0 : Int) ≤ (j : Int) := by omega
  have hjs : j ≤ s.size := by omega
  obtain ⟨w0, hw0⟩ : ∃ w0, w0 = w.alloc (.cells zeroNode 227) := ⟨_, rfl⟩
  obtain ⟨N, hN⟩ : ∃ N, N = w.heap.size := ⟨_, rfl⟩
  have hz : w0.heap[N]? = some (.cells zeroNode 227 (0, 0)) := by rw [hw0, hN]; exact heap_alloc_new w _
  have o0 : Only [] w w0 := by rw [hw0]; exact (Only.refl [] w).alloc _
  have hRN : R ≠ N := by omega
  have HH := LH (AI hw0 (AI hN (AI hz (AI o0 h))))
  clear h hne hw0 hN hz o0 hj
  by_cases hlt : j < s.size
  · obtain ⟨d1, d2, d3, d4, d5, d6, d7, d8, d9, d10⟩ := hne2 hlt
    obtain ⟨n, hn⟩ : ∃ n : Int, n = ((s[j].toNat : Nat) : Int) := ⟨_, rfl⟩
    have a4 : (n == 42) = false := by simp; omega
    have a5 : (n == 43) = false := by simp; omega
    have a6 : (n == 63) = false := by simp; omega
    rw [hn] at a4 a5 a6
    have k2 : ((j : Int) < (s.size : Int)) := by omega
    have HM := fun wx (hr : RdAt wx R s j) => more_yes R s j wx hr hlt
    clear hne2 d1 d2 d3 d4 d5 d6 d7 d8 d9 d10 hn
    go_enter Tryz.func155, Tryz.ntmps155
    go_upto_region 1 with fail
    rw [← HH.out.1, ← HH.out.2.1]
    go_upto_region 2 with (go_at_call 169; refine (HO _ HH.out.2.2.2.1).mono ?_; rintro e w1 ⟨rfl, hr1, ho1⟩; have HO1 := LH (AI hr1 ho1); clear hr1 ho1)
    obtain ⟨w2, hw2⟩ : ∃ w2, w2 = w1.alloc (.cells (oneNode s[k]) 227) := ⟨_, rfl⟩
    obtain ⟨A, hA⟩ : ∃ A, A = w1.heap.size := ⟨_, rfl⟩
    have hA2 : w2.heap[A]? = some (.cells (oneNode s[k]) 227 (0, 0)) := by rw [hw2, hA]; exact heap_alloc_new w1 _
    have o2 : Only [] w1 w2 := by rw [hw2]; exact (Only.refl [] w1).alloc _
    rw [← hw2, ← hA]
    have hN1 : w1.heap[N]? = some (.cells zeroNode 227 (0, 0)) := HO1.out.2.heap HH.out.2.2.1 (by simpa using hRN.symm)
    have hN2 := o2.heap hN1 (by simp)
    have hR2 := o2.heap HO1.out.1 (by simp)
    have hAN : A ≠ N := by have := heap_lt hN1; omega
    have HM2 := HM w2 hR2
    obtain ⟨x0, x1, x2, x3, x4, x5⟩ := node_cells hA2
    obtain ⟨y0, y1, y2, y3, y4, y5⟩ := node_cells hN2
    obtain ⟨z0, z1, z2, z3, z4, z5⟩ := node_free hN2
    have c0 : w2.cell? ⟨R, 0, none⟩ = some (.string s) := cell_at hR2 rfl
    have c1 : w2.cell? ⟨R, 1, none⟩ = some (.int .i64 j) := cell_at hR2 rfl
    have HA := LH (AI hA2 (AI o2 (AI hN2 (AI hR2 hAN))))
    clear hw2 hA hA2 o2 hN1 hN2 hR2 HM hAN HO
    go_upto_region 4 with (go_at_call 123; refine (HM2).mono ?_; rintro e w3 ⟨rfl, m, rfl⟩)
    go_quiet (fail)
    go_wp2_with fail
    have hNw : w.heap.size ≤ N := by rw [HH.out.2.1]; exact Nat.le_refl _
    have o9 : ∀ m v0 v1 v2 v3 v4 v5, Only [R] w (((((((w2.drewN m).setCell ⟨N, 0, none⟩ v0).setCell ⟨N, 1, none⟩ v1).setCell ⟨N, 2, none⟩ v2).setCell ⟨N, 3, none⟩ v3).setCell ⟨N, 4, none⟩ v4).setCell ⟨N, 5, none⟩ v5) := by
      intro m v0 v1 v2 v3 v4 v5
      exact ((((((((HH.out.2.2.2.1.weaken (by simp)).trans (HO1.out.2.trans (HA.out.2.1.weaken (by simp)))).drewN m).setFresh hNw v0).setFresh hNw v1).setFresh hNw v2).setFresh hNw v3).setFresh hNw v4).setFresh hNw v5
    have h9 := fun m => six_set (w := w2.drewN m) HA.out.2.2.1 (.int .i64 1) (bitV s[k] 0) (bitV s[k] 1) (bitV s[k] 2) (bitV s[k] 3) (.slice none 0 0)
    refine bodyPost_ret (results_two (p := 4) (ty := 227) (u := 5) (cs := oneNode s[k]) rfl _ _ N 227 (fr := (0, 0)) _ _ rfl rfl (h9 _) Tryz.underlying227 rfl size227) rfl ?_
    refine ⟨rfl, ?_, o9 _ _ _ _ _ _ _⟩
    exact (six_only (w2.drewN _) N _ _ _ _ _ _).heap (by exact HA.out.2.2.2.1) (by simpa using hRN)
  · obtain rfl : j = s.size := by omega
    have HM := fun wx (hr : RdAt wx R s s.size) => more_no R s wx hr
    clear hne2 hlt
    go_enter Tryz.func155, Tryz.ntmps155
    go_upto_region 1 with fail
    rw [← HH.out.1, ← HH.out.2.1]
    go_upto_region 2 with (go_at_call 169; refine (HO _ HH.out.2.2.2.1).mono ?_; rintro e w1 ⟨rfl, hr1, ho1⟩; have HO1 := LH (AI hr1 ho1); clear hr1 ho1)
    obtain ⟨w2, hw2⟩ : ∃ w2, w2 = w1.alloc (.cells (oneNode s[k]) 227) := ⟨_, rfl⟩
    obtain ⟨A, hA⟩ : ∃ A, A = w1.heap.size := ⟨_, rfl⟩
    have hA2 : w2.heap[A]? = some (.cells (oneNode s[k]) 227 (0, 0)) := by rw [hw2, hA]; exact heap_alloc_new w1 _
    have o2 : Only [] w1 w2 := by rw [hw2]; exact (Only.refl [] w1).alloc _
    rw [← hw2, ← hA]
    have hN1 : w1.heap[N]? = some (.cells zeroNode 227 (0, 0)) := HO1.out.2.heap HH.out.2.2.1 (by simpa using hRN.symm)
    have hN2 := o2.heap hN1 (by simp)
    have hR2 := o2.heap HO1.out.1 (by simp)
    have hAN : A ≠ N := by have := heap_lt hN1; omega
    have HM2 := HM w2 hR2
    obtain ⟨x0, x1, x2, x3, x4, x5⟩ := node_cells hA2
    obtain ⟨y0, y1, y2, y3, y4, y5⟩ := node_cells hN2
    obtain ⟨z0, z1, z2, z3, z4, z5⟩ := node_free hN2
    have c0 : w2.cell? ⟨R, 0, none⟩ = some (.string s) := cell_at hR2 rfl
    have c1 : w2.cell? ⟨R, 1, none⟩ = some (.int .i64 s.size) := cell_at hR2 rfl
    have HA := LH (AI hA2 (AI o2 (AI hN2 (AI hR2 hAN))))
    clear hw2 hA hA2 o2 hN1 hN2 hR2 HM hAN HO
    go_wp2_with (go_at_call 123; refine (HM2).mono ?_; rintro e w3 ⟨rfl, m, rfl⟩)
    have hNw : w.heap.size ≤ N := by rw [HH.out.2.1]; exact Nat.le_refl _
    have o9 : ∀ m v0 v1 v2 v3 v4 v5, Only [R] w (((((((w2.drewN m).setCell ⟨N, 0, none⟩ v0).setCell ⟨N, 1, none⟩ v1).setCell ⟨N, 2, none⟩ v2).setCell ⟨N, 3, none⟩ v3).setCell ⟨N, 4, none⟩ v4).setCell ⟨N, 5, none⟩ v5) := by
      intro m v0 v1 v2 v3 v4 v5
      exact ((((((((HH.out.2.2.2.1.weaken (by simp)).trans (HO1.out.2.trans (HA.out.2.1.weaken (by simp)))).drewN m).setFresh hNw v0).setFresh hNw v1).setFresh hNw v2).setFresh hNw v3).setFresh hNw v4).setFresh hNw v5
    have h9 := fun m => six_set (w := w2.drewN m) HA.out.2.2.1 (.int .i64 1) (bitV s[k] 0) (bitV s[k] 1) (bitV s[k] 2) (bitV s[k] 3) (.slice none 0 0)
    refine bodyPost_ret (results_two (p := 4) (ty := 227) (u := 5) (cs := oneNode s[k]) rfl _ _ N 227 (fr := (0, 0)) _ _ rfl rfl (h9 _) Tryz.underlying227 rfl size227) rfl ?_
    refine ⟨rfl, ?_, o9 _ _ _ _ _ _ _⟩
    exact (six_only (w2.drewN _) N _ _ _ _ _ _).heap (by exact HA.out.2.2.2.1) (by simpa using hRN)
abbrev thenNode (g : Nat) : Array Value := #[.int .i64 2, .int .u64 0, .int .u64 0, .int .u64 0, .int .u64 0, .slice (some ⟨g, 0, none⟩) 2 2]
inductive NodeAt (w : World) (lo : Nat) : Array Value → List UInt8 → Prop where
  | one (c : UInt8) : NodeAt w lo (oneNode c) [c]
  | snoc (g : Nat) (x : Array Value) (l : List UInt8) (c : UInt8) : NodeAt w lo x l → lo ≤ g → w.heap[g]? = some (.cells (x ++ oneNode c) 227 (0, 0)) → NodeAt w lo (thenNode g) (l ++ [c])
theorem NodeAt.of_only {w w' : World} {lo : Nat} {x : Array Value} {l : List UInt8} {ks : List Nat} (h : NodeAt w lo x l) (ho : Only ks w w') (hk : ∀ b, b ∈ ks → b < lo) : NodeAt w' lo x l := by
  induction h with
  | one c => exact .one c
  | snoc g x l c _ hg hh ih => exact .snoc g x l c ih hg (ho.heap hh (fun hm => by have := hk g hm; omega))
theorem NodeAt.lower {w : World} {lo lo' : Nat} {x : Array Value} {l : List UInt8} (h : NodeAt w lo x l) (hl : lo' ≤ lo) : NodeAt w lo' x l := by
  induction h with
  | one c => exact .one c
  | snoc g x l c _ hg hh ih => exact .snoc g x l c ih (Nat.le_trans hl hg) hh
abbrev nodeA (kd : Int) (n1 n2 n3 n4 : Int) (a : Option Addr) (m c : Nat) : Array Value := #[.int .i64 kd, .int .u64 n1, .int .u64 n2, .int .u64 n3, .int .u64 n4, .slice a m c]
theorem NodeAt.form {w : World} {lo : Nat} {x : Array Value} {l : List UInt8} (h : NodeAt w lo x l) : ∃ kd n1 n2 n3 n4 a m c, x = nodeA kd n1 n2 n3 n4 a m c := by
  cases h with
  | one c => exact ⟨_, _, _, _, _, _, _, _, rfl⟩
  | snoc g x l c => exact ⟨_, _, _, _, _, _, _, _, rfl⟩
theorem NodeAt.ne {w : World} {lo : Nat} {x : Array Value} {l : List UInt8} (h : NodeAt w lo x l) : l ≠ [] := by
  cases h <;> simp
def readAt (R : Nat) (w : World) : Nat := match w.cell? ⟨R, 1, none⟩ with
  | some (.int _ n) => n.toNat
  | _ => 0
theorem readAt_eq {R k : Nat} {s : ByteArray} {w : World} (h : RdAt w R s k) : readAt R w = k := by
  unfold readAt
  have c1 : w.cell? ⟨R, 1, none⟩ = some (.int .i64 k) := cell_at h rfl
  rw [c1]; simp
theorem take_snocB (s : ByteArray) (k : Nat) (h : k < s.size) : s.data.toList.take (k + 1) = s.data.toList.take k ++ [s[k]] := by
  rw [List.take_succ_eq_append_getElem (by simpa using h)]; rfl
theorem rd_drewN {w : World} {R k : Nat} {s : ByteArray} (h : RdAt w R s k) (m : Nat) : RdAt (w.drewN m) R s k := h
def ThenAt (w : World) (R N O : Nat) (s : ByteArray) (first : Value) (wr : World) : Prop :=
  ∃ k x, k ≤ s.size ∧ RdAt wr R s k ∧ Only [R] w wr ∧ wr.heap[N]? = some (.cells zeroNode 227 (0, 0)) ∧ wr.heap[O]? = some (.cells x 227 (0, 0)) ∧ ((k = 0 ∧ first = .bool true ∧ x = zeroNode) ∨ (0 < k ∧ first = .bool false ∧ NodeAt wr (O + 1) x (s.data.toList.take k)))
theorem node_loads {w : World} {N : Nat} {kd n1 n2 n3 n4 : Int} {a : Option Addr} {m c : Nat} (h : w.heap[N]? = some (.cells (nodeA kd n1 n2 n3 n4 a m c) 227 (0, 0))) :
    w.cell? ⟨N, 0, none⟩ = some (.int .i64 kd) ∧ w.cell? ⟨N, 1, none⟩ = some (.int .u64 n1) ∧ w.cell? ⟨N, 2, none⟩ = some (.int .u64 n2) ∧ w.cell? ⟨N, 3, none⟩ = some (.int .u64 n3) ∧ w.cell? ⟨N, 4, none⟩ = some (.int .u64 n4) ∧ w.cell? ⟨N, 5, none⟩ = some (.slice a m c) := node_cells h
def Plain (s : ByteArray) : Prop := ∀ k, (h : k < s.size) → plainC s[k].toNat
theorem rthen_any (R : Nat) (s : ByteArray) (dp : Int) (w : World) (h : RdAt w R s 0) (hs : s.size ≤ 1000) (h0 : 0 < s.size) (hp : Plain s) :
    Calls Tryz.prog 139 #[.pointer (some ⟨R, 0, none⟩), .int .i64 dp] w fun e w' => ∃ x, e = .returned (.tuple #[.agg x, .nilIface]) ∧ NodeAt w' w.heap.size x s.data.toList ∧ RdAt w' R s s.size ∧ Only [R] w w' := by
  have hR := heap_lt h
  have HH := LH (AI h (AI hp h0))
  clear h hp h0
  go_enter Tryz.func139, Tryz.ntmps139
  go_upto_region 2 with fail
  go_wp2_with fail
  obtain ⟨N, hN⟩ : ∃ N, N = w.heap.size := ⟨_, rfl⟩
  obtain ⟨O, hO⟩ : ∃ O, O = N + 1 := ⟨_, rfl⟩
  obtain ⟨wb, hwb⟩ : ∃ wb, wb = (w.alloc (.cells zeroNode 227)).alloc (.cells zeroNode 227) := ⟨_, rfl⟩
  have hbO : wb.heap[O]? = some (.cells zeroNode 227 (0, 0)) := by
    have := heap_alloc_new (w.alloc (.cells zeroNode 227)) (.cells zeroNode 227)
    rw [hwb, hO, hN]; simpa using this
  have ob : Only [] w wb := by rw [hwb]; exact ((Only.refl [] w).alloc _).alloc _
  have hsz : wb.heap.size = O + 1 := by rw [hwb, hO, hN]; simp
  have hRw : R < w.heap.size := hR
  have hNO : N < O := by omega
  have hRN : R < N := by omega
  have hNw : w.heap.size ≤ N := by omega
  have hOw : w.heap.size ≤ O := by omega
  have hbN : wb.heap[N]? = some (.cells zeroNode 227 (0, 0)) := by
    rw [hwb]
    exact ((Only.refl [] _).alloc _).heap (by rw [hN]; exact heap_alloc_new w _) (by simp)
  have hat : ThenAt w R N O s (.bool true) wb := ⟨0, zeroNode, Nat.zero_le _, ob.heap HH.out.1 (by simp), ob.weaken (by simp), hbN, hbO, .inl ⟨rfl, rfl, rfl⟩⟩
  have HB := LH hat
  rw [← hwb, ← hN, ← hO]
  clear hat hwb hbO ob hsz hbN hN hO hR
  go_loopw [7] (fun s7 wr => ThenAt w R N O s s7 wr) (fun _ wr => s.size - readAt R wr)
  case atStart => exact HB.out
  case round =>
    obtain ⟨k, x, hk, hr, ho, hn, hO, hx⟩ := hrel
    have hrk := readAt_eq hr
    by_cases hlt : k < s.size
    · have hpk := HH.out.2.1 k hlt
      have HM := fun wx (h : RdAt wx R s k) => more_yes R s k wx h hlt
      have HI1 := fun wx (h : RdAt wx R s k) => is_no R s k 124 wx h hlt (by have := hpk.2.2.2.2.2.2.2.2.1; omega)
      have HI2 := fun wx (h : RdAt wx R s k) => is_no R s k 41 wx h hlt (by have := hpk.2.1; omega)
      obtain ⟨j, hj⟩ : ∃ j, j = k + 1 := ⟨_, rfl⟩
      have HG := fun wx (h : RdAt wx R s k) => ragain_any R s k j hj dp wx h hlt hs hpk (fun h => HH.out.2.1 j h)
      have q1 := fun w => neq_nn w
      have HX := LH (AI hr (AI ho (AI hn (AI hO (AI hpk (AI hj hrk))))))
      clear hr ho hn hO hpk hj hrk
      rcases hx with ⟨h0, rfl, rfl⟩ | ⟨h0, rfl, hnode⟩
      · have H0 := LH h0
        clear h0
        go_upto_region 5 with (first
          | (go_at_call 123; refine (HM _ HX.out.1).mono ?_; rintro e w1 ⟨rfl, m1, rfl⟩; clear HM)
          | (go_at_call 140; (with_reducible refine (HI1 _ (rd_drewN HX.out.1 _)).mono ?_); rintro e w1 ⟨rfl, m2, rfl⟩; clear HI1)
          | (go_at_call 140; (with_reducible refine (HI2 _ (rd_drewN HX.out.1 _)).mono ?_); rintro e w1 ⟨rfl, m3, rfl⟩; clear HI2))
        go_upto_region 6 with (go_at_call 155; refine (HG _ (rd_drewN HX.out.1 _)).mono ?_; rintro e w1 ⟨rfl, hr1, ho1⟩; have HO1 := LH (AI hr1 ho1); clear hr1 ho1)
        obtain ⟨A, hA⟩ : ∃ A, A = w1.heap.size := ⟨_, rfl⟩
        obtain ⟨w2, hw2⟩ : ∃ w2, w2 = w1.alloc (.cells (oneNode s[k]) 227) := ⟨_, rfl⟩
        have hA2 : w2.heap[A]? = some (.cells (oneNode s[k]) 227 (0, 0)) := by rw [hw2, hA]; exact heap_alloc_new w1 _
        have o2 : Only [] w1 w2 := by rw [hw2]; exact (Only.refl [] w1).alloc _
        rw [← hw2, ← hA]
        have oX : Only [R] wr w2 := (((Only.refl [R] wr).drewN _).trans HO1.out.2).trans (o2.weaken (by simp))
        have hO2 := oX.heap HX.out.2.2.2.1 (by simp; omega)
        have hN2 := oX.heap HX.out.2.2.1 (by simp; omega)
        have hR2 := o2.heap HO1.out.1 (by simp)
        have hAO : O < A := by have := heap_lt (HO1.out.2.heap (w := wr.drewN _) HX.out.2.2.2.1 (by simp; omega)); omega
        obtain ⟨x0, x1, x2, x3, x4, x5⟩ := node_cells hA2
        obtain ⟨y0, y1, y2, y3, y4, y5⟩ := node_cells hO2
        obtain ⟨z0, z1, z2, z3, z4, z5⟩ := node_free hO2
        have HA := LH (AI oX (AI hO2 (AI hN2 (AI hR2 (AI hA2 hAO)))))
        clear hw2 hA hA2 o2 oX hO2 hN2 hR2 hAO HG
        go_wp2_with fail
        have o6 := six_only w2 O (.int .i64 1) (bitV s[k] 0) (bitV s[k] 1) (bitV s[k] 2) (bitV s[k] 3) (.slice none 0 0)
        have hr9 := o6.heap HA.out.2.2.2.1 (by simp; omega)
        have ho9 : Only [R] w (World.setCell (World.setCell (World.setCell (World.setCell (World.setCell (World.setCell w2 ⟨O, 0, none⟩ (.int .i64 1)) ⟨O, 1, none⟩ (bitV s[k] 0)) ⟨O, 2, none⟩ (bitV s[k] 1)) ⟨O, 3, none⟩ (bitV s[k] 2)) ⟨O, 4, none⟩ (bitV s[k] 3)) ⟨O, 5, none⟩ (.slice none 0 0)) :=
          (((((((HX.out.2.1.trans HA.out.1).setFresh hOw _).setFresh hOw _).setFresh hOw _).setFresh hOw _).setFresh hOw _).setFresh hOw _)
        have hj := HX.out.2.2.2.2.2.1
        refine ⟨⟨j, oneNode s[k], by omega, hr9, ho9, o6.heap HA.out.2.2.1 (by simp; omega), six_set HA.out.2.1 _ _ _ _ _ _, .inr ⟨by omega, rfl, ?_⟩⟩, ?_⟩
        · have e : s.data.toList.take j = [s[k]] := by
            have h0 : s.data.toList.take k = [] := by rw [H0.out]; rfl
            rw [hj, take_snocB s k hlt, h0]
            rfl
          rw [e]; exact .one _
        · have e1 := readAt_eq hr9
          have e2 := HX.out.2.2.2.2.2.2
          rw [e1, e2]; omega
      · have H0 := LH (AI h0 hnode)
        obtain ⟨kd, n1, n2, n3, n4, na, nm, nc, rfl⟩ := hnode.form
        clear h0 hnode
        go_upto_region 5 with (first
          | (go_at_call 123; refine (HM _ HX.out.1).mono ?_; rintro e w1 ⟨rfl, m1, rfl⟩; clear HM)
          | (go_at_call 140; (with_reducible refine (HI1 _ (rd_drewN HX.out.1 _)).mono ?_); rintro e w1 ⟨rfl, m2, rfl⟩; clear HI1)
          | (go_at_call 140; (with_reducible refine (HI2 _ (rd_drewN HX.out.1 _)).mono ?_); rintro e w1 ⟨rfl, m3, rfl⟩; clear HI2))
        go_upto_region 6 with (go_at_call 155; refine (HG _ (rd_drewN HX.out.1 _)).mono ?_; rintro e w1 ⟨rfl, hr1, ho1⟩; have HO1 := LH (AI hr1 ho1); clear hr1 ho1)
        obtain ⟨A, hA⟩ : ∃ A, A = w1.heap.size := ⟨_, rfl⟩
        obtain ⟨w2, hw2⟩ : ∃ w2, w2 = w1.alloc (.cells (oneNode s[k]) 227) := ⟨_, rfl⟩
        have hA2 : w2.heap[A]? = some (.cells (oneNode s[k]) 227 (0, 0)) := by rw [hw2, hA]; exact heap_alloc_new w1 _
        have o2 : Only [] w1 w2 := by rw [hw2]; exact (Only.refl [] w1).alloc _
        rw [← hw2, ← hA]
        have oX : Only [R] wr w2 := (((Only.refl [R] wr).drewN _).trans HO1.out.2).trans (o2.weaken (by simp))
        have hO2 := oX.heap HX.out.2.2.2.1 (by simp; omega)
        have hN2 := oX.heap HX.out.2.2.1 (by simp; omega)
        have hR2 := o2.heap HO1.out.1 (by simp)
        have hAO : O < A := by have := heap_lt (HO1.out.2.heap (w := wr.drewN _) HX.out.2.2.2.1 (by simp; omega)); omega
        obtain ⟨x0, x1, x2, x3, x4, x5⟩ := node_cells hA2
        obtain ⟨y0, y1, y2, y3, y4, y5⟩ := node_loads hO2
        obtain ⟨z0, z1, z2, z3, z4, z5⟩ := node_free hO2
        have HA := LH (AI oX (AI hO2 (AI hN2 (AI hR2 (AI hA2 hAO)))))
        have hlO := heap_lt hO2
        clear hw2 hA hA2 o2 oX hO2 hN2 hR2 hAO HG
        go_wp2_with fail
        have o6 := six_only w2 O (.int .i64 2) (.int .u64 0) (.int .u64 0) (.int .u64 0) (.int .u64 0) (.slice (some ⟨w2.heap.size, 0, none⟩) 2 2)
        have h6 := six_set HA.out.2.1 (.int .i64 2) (.int .u64 0) (.int .u64 0) (.int .u64 0) (.int .u64 0) (.slice (some ⟨w2.heap.size, 0, none⟩) 2 2)
        obtain ⟨w4, hw4⟩ : ∃ w4, w4 = (World.setCell (World.setCell (World.setCell (World.setCell (World.setCell (World.setCell w2 ⟨O, 0, none⟩ (.int .i64 2)) ⟨O, 1, none⟩ (.int .u64 0)) ⟨O, 2, none⟩ (.int .u64 0)) ⟨O, 3, none⟩ (.int .u64 0)) ⟨O, 4, none⟩ (.int .u64 0)) ⟨O, 5, none⟩ (.slice (some ⟨w2.heap.size, 0, none⟩) 2 2)) := ⟨_, rfl⟩
        have hs4 : w4.heap.size = w2.heap.size := by rw [hw4]; simp [World.setCell]
        rw [← hw4] at o6 h6 ⊢
        obtain ⟨w3, hw3⟩ : ∃ w3, w3 = w4.alloc (.cells (nodeA kd n1 n2 n3 n4 na nm nc ++ oneNode s[k]) 227) := ⟨_, rfl⟩
        have hg3 : w3.heap[w2.heap.size]? = some (.cells (nodeA kd n1 n2 n3 n4 na nm nc ++ oneNode s[k]) 227 (0, 0)) := by rw [hw3, ← hs4]; exact heap_alloc_new w4 _
        have o3 : Only [] w4 w3 := by rw [hw3]; exact (Only.refl [] w4).alloc _
        have hr9 := o3.heap (o6.heap HA.out.2.2.2.1 (by simp; omega)) (by simp)
        have o23 : Only [O] w2 w3 := o6.trans (o3.weaken (by simp))
        have ho9 : Only [R] w w3 := ⟨o23.os.trans (HX.out.2.1.trans HA.out.1).os, o23.tape.trans (HX.out.2.1.trans HA.out.1).tape, o23.output.trans (HX.out.2.1.trans HA.out.1).output, Nat.le_trans (HX.out.2.1.trans HA.out.1).size o23.size, fun b hb hn => (o23.block b (Nat.lt_of_lt_of_le hb (HX.out.2.1.trans HA.out.1).size) (by simp; omega)).trans ((HX.out.2.1.trans HA.out.1).block b hb hn)⟩
        have hj := HX.out.2.2.2.2.2.1
        have hfin : ThenAt w R N O s (.bool false) w3 := by
          refine ⟨j, thenNode w2.heap.size, by omega, hr9, ho9, o3.heap (o6.heap HA.out.2.2.1 (by simp; omega)) (by simp), o3.heap h6 (by simp), .inr ⟨by omega, rfl, ?_⟩⟩
          rw [hj, take_snocB s k hlt]
          have hn1 := (H0.out.2.of_only HA.out.1 (by intro b hb; simp at hb; omega)).of_only o23 (by intro b hb; simp at hb; omega)
          exact .snoc _ _ _ _ hn1 (by omega) hg3
        have e1 := readAt_eq hr9
        have e2 := HX.out.2.2.2.2.2.2
        rw [hw3] at hfin e1
        exact ⟨hfin, by rw [e2]; show s.size - readAt R (w4.alloc (.cells (nodeA kd n1 n2 n3 n4 na nm nc ++ oneNode s[k]) 227)) < _; rw [e1]; omega⟩
    · obtain rfl : k = s.size := by omega
      have HM := fun wx (h : RdAt wx R s s.size) => more_no R s wx h
      rcases hx with ⟨h0, rfl, rfl⟩ | ⟨h0, rfl, hnode⟩
      · exfalso; have := HH.out.2.2; omega
      · obtain ⟨kd, n1, n2, n3, n4, na, nm, nc, rfl⟩ := hnode.form
        obtain ⟨y0, y1, y2, y3, y4, y5⟩ := node_loads hO
        obtain ⟨x0, x1, x2, x3, x4, x5⟩ := node_cells hn
        obtain ⟨z0, z1, z2, z3, z4, z5⟩ := node_free hn
        have HX := LH (AI hr (AI ho (AI hn hnode)))
        clear hr ho hn hO hnode hrk
        go_wp2_with (go_at_call 123; refine (HM _ HX.out.1).mono ?_; rintro e w1 ⟨rfl, m1, rfl⟩; clear HM)
        have o6 := six_only (wr.drewN m1) N (.int .i64 kd) (.int .u64 n1) (.int .u64 n2) (.int .u64 n3) (.int .u64 n4) (.slice na nm nc)
        have h9 := six_set (w := wr.drewN m1) HX.out.2.2.1 (.int .i64 kd) (.int .u64 n1) (.int .u64 n2) (.int .u64 n3) (.int .u64 n4) (.slice na nm nc)
        refine bodyPost_ret (results_two (p := 4) (ty := 227) (u := 5) (cs := nodeA kd n1 n2 n3 n4 na nm nc) rfl _ _ N 227 (fr := (0, 0)) _ _ rfl rfl h9 Tryz.underlying227 rfl size227) rfl ?_
        refine ⟨_, rfl, ?_, o6.heap (by exact HX.out.1) (by simp; omega), ?_⟩
        · have ht : s.data.toList.take s.size = s.data.toList := List.take_of_length_le (Nat.le_of_eq Array.length_toList)
          have hq := HX.out.2.2.2
          rw [ht] at hq
          exact ((hq.of_only (only_drewN [] wr m1) (by simp)).of_only o6 (by intro b hb; simp at hb; omega)).lower (by omega)
        · exact ((((((HX.out.2.1.drewN m1).setFresh hNw _).setFresh hNw _).setFresh hNw _).setFresh hNw _).setFresh hNw _).setFresh hNw _
theorem reither_any (R : Nat) (s : ByteArray) (dp : Int) (w : World) (h : RdAt w R s 0) (hs : s.size ≤ 1000) (h0 : 0 < s.size) (hp : Plain s) :
    Calls Tryz.prog 122 #[.pointer (some ⟨R, 0, none⟩), .int .i64 dp] w fun e w' => ∃ x, e = .returned (.tuple #[.agg x, .nilIface]) ∧ NodeAt w' w.heap.size x s.data.toList ∧ RdAt w' R s s.size ∧ Only [R] w w' := by
  have hR := heap_lt h
  have HT := fun wx (ho : Only [] w wx) => rthen_any R s dp wx (ho.heap h (by simp)) hs h0 hp
  have HE := fun wx (hr : RdAt wx R s s.size) => is_end R s 124 wx hr
  have q0 := fun w => eql_nn w
  have q1 := fun w => neq_nn w
  obtain ⟨w0, hw0⟩ : ∃ w0, w0 = w.alloc (.cells zeroNode 227) := ⟨_, rfl⟩
  obtain ⟨N, hN⟩ : ∃ N, N = w.heap.size := ⟨_, rfl⟩
  have hz : w0.heap[N]? = some (.cells zeroNode 227 (0, 0)) := by rw [hw0, hN]; exact heap_alloc_new w _
  have o0 : Only [] w w0 := by rw [hw0]; exact (Only.refl [] w).alloc _
  have hs0 : w0.heap.size = N + 1 := by rw [hw0, hN]; simp
  have hRN : R < N := by omega
  have hNw : w.heap.size ≤ N := by omega
  have HH := LH (AI hw0 (AI hN (AI hz (AI o0 (AI h hs0)))))
  clear h hp h0 hw0 hN hz o0 hs0
  go_enter Tryz.func122, Tryz.ntmps122
  go_upto_region 1 with fail
  rw [← HH.out.1, ← HH.out.2.1]
  go_upto_region 2 with (go_at_call 139; refine (HT _ HH.out.2.2.2.1).mono ?_; rintro e w1 ⟨x, rfl, hx1, hr1, ho1⟩; have HO1 := LH (AI hx1 (AI hr1 ho1)); obtain ⟨kd, n1, n2, n3, n4, na, nm, nc, rfl⟩ := hx1.form; clear hx1 hr1 ho1)
  obtain ⟨A, hA⟩ : ∃ A, A = w1.heap.size := ⟨_, rfl⟩
  obtain ⟨w2, hw2⟩ : ∃ w2, w2 = w1.alloc (.cells (nodeA kd n1 n2 n3 n4 na nm nc) 227) := ⟨_, rfl⟩
  have hA2 : w2.heap[A]? = some (.cells (nodeA kd n1 n2 n3 n4 na nm nc) 227 (0, 0)) := by rw [hw2, hA]; exact heap_alloc_new w1 _
  have o2 : Only [] w1 w2 := by rw [hw2]; exact (Only.refl [] w1).alloc _
  rw [← hw2, ← hA]
  have o02 : Only [R] w w2 := ((HH.out.2.2.2.1.weaken (by simp)).trans HO1.out.2.2).trans (o2.weaken (by simp))
  have hN1 := HO1.out.2.2.heap HH.out.2.2.1 (by simp; omega)
  have hN2 := o2.heap hN1 (by simp)
  have hR2 := o2.heap HO1.out.2.1 (by simp)
  have hx2 : NodeAt w2 (N + 1) (nodeA kd n1 n2 n3 n4 na nm nc) s.data.toList := by
    have := HO1.out.1.of_only o2 (by simp)
    rwa [HH.out.2.2.2.2.2] at this
  obtain ⟨x0, x1, x2, x3, x4, x5⟩ := node_loads hA2
  obtain ⟨y0, y1, y2, y3, y4, y5⟩ := node_cells hN2
  obtain ⟨z0, z1, z2, z3, z4, z5⟩ := node_free hN2
  have HA := LH (AI o02 (AI hN2 (AI hR2 hx2)))
  clear hw2 hA hA2 o2 o02 hN1 hN2 hR2 hx2 HT
  go_loopw [7] (fun s7 wr => s7 = .nilIface ∧ w2 = wr) (fun _ _ => 0)
  case atStart => exact ⟨rfl, rfl⟩
  case round =>
    obtain ⟨rfl, rfl⟩ := hrel
    go_wp2_with (go_at_call 140; refine (HE _ HA.out.2.2.1).mono ?_; rintro e w3 ⟨rfl, m, rfl⟩)
    have o6 := six_only (w2.drewN m) N (.int .i64 kd) (.int .u64 n1) (.int .u64 n2) (.int .u64 n3) (.int .u64 n4) (.slice na nm nc)
    have h9 := six_set (w := w2.drewN m) HA.out.2.1 (.int .i64 kd) (.int .u64 n1) (.int .u64 n2) (.int .u64 n3) (.int .u64 n4) (.slice na nm nc)
    refine bodyPost_ret (results_two (p := 4) (ty := 227) (u := 5) (cs := nodeA kd n1 n2 n3 n4 na nm nc) rfl _ _ N 227 (fr := (0, 0)) _ _ rfl rfl h9 Tryz.underlying227 rfl size227) rfl ?_
    refine ⟨_, rfl, ?_, o6.heap (by exact HA.out.2.2.1) (by simp; omega), ((((((HA.out.1.drewN m).setFresh hNw _).setFresh hNw _).setFresh hNw _).setFresh hNw _).setFresh hNw _).setFresh hNw _⟩
    exact ((HA.out.2.2.2.of_only (only_drewN [] w2 m) (by simp)).of_only o6 (by intro b hb; simp at hb; omega)).lower (by omega)
theorem Only.fresh' {bs ks : List Nat} {a w w' : World} (h : Only bs a w) (ho : Only ks w w') (hk : ∀ b, b ∈ ks → a.heap.size ≤ b) : Only bs a w' :=
  ⟨ho.os.trans h.os, ho.tape.trans h.tape, ho.output.trans h.output, Nat.le_trans h.size ho.size, fun b hb hn => (ho.block b (Nat.lt_of_lt_of_le hb h.size) (fun hx => by have := hk b hx; omega)).trans (h.block b hb hn)⟩
theorem rparse_any (s : ByteArray) (w : World) (hs : s.size ≤ 64) (h0 : 0 < s.size) (hp : Plain s) :
    Calls Tryz.prog 104 #[.string s] w fun e w' => ∃ x, e = .returned (.tuple #[.agg x, .nilIface]) ∧ NodeAt w' w.heap.size x s.data.toList ∧ Only [] w w' := by
  obtain ⟨N, hN⟩ : ∃ N, N = w.heap.size := ⟨_, rfl⟩
  obtain ⟨R, hR⟩ : ∃ R, R = N + 1 := ⟨_, rfl⟩
  obtain ⟨w0, hw0⟩ : ∃ w0, w0 = (w.alloc (.cells zeroNode 227)).alloc (.cells #[.string s, .int .i64 0] 262) := ⟨_, rfl⟩
  have hz : w0.heap[N]? = some (.cells zeroNode 227 (0, 0)) := by rw [hw0]; exact ((Only.refl [] _).alloc _).heap (by rw [hN]; exact heap_alloc_new w _) (by simp)
  have hr : RdAt w0 R s 0 := by
    have := heap_alloc_new (w.alloc (.cells zeroNode 227)) (.cells #[.string s, .int .i64 0] 262)
    unfold RdAt
    rw [hw0, hR, hN]; simpa using this
  have o0 : Only [] w w0 := by rw [hw0]; exact ((Only.refl [] w).alloc _).alloc _
  have hs0 : w0.heap.size = R + 1 := by rw [hw0, hR, hN]; simp
  have hRN : N < R := by omega
  have hNw : w.heap.size ≤ N := by omega
  have k1 : ((s.size : Int) > 64) = False := by simp; omega
  have HT := reither_any R s 0 w0 hr (by omega) h0 hp
  have HM := fun wx (h : RdAt wx R s s.size) => more_no R s wx h
  have q0 := fun w => eql_nn w
  have q1 := fun w => neq_nn w
  have HH := LH (AI hw0 (AI hN (AI hz (AI o0 (AI hs0 hR)))))
  clear hp h0 hw0 hN hz o0 hs0 hr hR
  go_enter Tryz.func104, Tryz.ntmps104
  go_upto_region 4 with fail
  rw [← HH.out.1, ← HH.out.2.1, ← HH.out.2.2.2.2.2]
  go_upto_region 5 with (go_at_call 122; refine (HT).mono ?_; rintro e w1 ⟨x, rfl, hx1, hr1, ho1⟩; have HO1 := LH (AI hx1 (AI hr1 ho1)); obtain ⟨kd, n1, n2, n3, n4, na, nm, nc, rfl⟩ := hx1.form; clear hx1 hr1 ho1)
  obtain ⟨A, hA⟩ : ∃ A, A = w1.heap.size := ⟨_, rfl⟩
  obtain ⟨w2, hw2⟩ : ∃ w2, w2 = w1.alloc (.cells (nodeA kd n1 n2 n3 n4 na nm nc) 227) := ⟨_, rfl⟩
  have hA2 : w2.heap[A]? = some (.cells (nodeA kd n1 n2 n3 n4 na nm nc) 227 (0, 0)) := by rw [hw2, hA]; exact heap_alloc_new w1 _
  have o2 : Only [] w1 w2 := by rw [hw2]; exact (Only.refl [] w1).alloc _
  rw [← hw2, ← hA]
  have o02 : Only [] w w2 := by
    exact (HH.out.2.2.2.1.fresh' HO1.out.2.2 (by intro b hb; simp at hb; omega)).trans o2
  have hN1 := HO1.out.2.2.heap HH.out.2.2.1 (by simp; omega)
  have hN2 := o2.heap hN1 (by simp)
  have hR2 := o2.heap HO1.out.2.1 (by simp)
  have hx2 : NodeAt w2 (R + 1) (nodeA kd n1 n2 n3 n4 na nm nc) s.data.toList := by
    have := HO1.out.1.of_only o2 (by simp)
    rwa [HH.out.2.2.2.2.1] at this
  obtain ⟨x0, x1, x2, x3, x4, x5⟩ := node_loads hA2
  obtain ⟨y0, y1, y2, y3, y4, y5⟩ := node_cells hN2
  obtain ⟨z0, z1, z2, z3, z4, z5⟩ := node_free hN2
  have HA := LH (AI o02 (AI hN2 (AI hR2 hx2)))
  clear hw2 hA hA2 o2 o02 hN1 hN2 hR2 hx2 HT
  go_wp2_with (go_at_call 123; refine (HM _ HA.out.2.2.1).mono ?_; rintro e w3 ⟨rfl, m, rfl⟩)
  have o6 := six_only (w2.drewN m) N (.int .i64 kd) (.int .u64 n1) (.int .u64 n2) (.int .u64 n3) (.int .u64 n4) (.slice na nm nc)
  have h9 := six_set (w := w2.drewN m) HA.out.2.1 (.int .i64 kd) (.int .u64 n1) (.int .u64 n2) (.int .u64 n3) (.int .u64 n4) (.slice na nm nc)
  refine bodyPost_ret (results_two (p := 2) (ty := 227) (u := 3) (cs := nodeA kd n1 n2 n3 n4 na nm nc) rfl _ _ N 227 (fr := (0, 0)) _ _ rfl rfl h9 Tryz.underlying227 rfl size227) rfl ?_
  refine ⟨_, rfl, ?_, ((((((HA.out.1.drewN m).setFresh hNw _).setFresh hNw _).setFresh hNw _).setFresh hNw _).setFresh hNw _).setFresh hNw _⟩
  exact ((HA.out.2.2.2.of_only (only_drewN [] w2 m) (by simp)).of_only o6 (by intro b hb; simp at hb; omega)).lower (by omega)
abbrev strB (l : List UInt8) : Value := .string ⟨l.toArray⟩
theorem ways_eq : M.ways = [[99, 104, 101, 99, 107], [99, 114, 99], [108, 97, 114, 103, 101], [98, 97, 116, 99, 104]] := by decide +kernel
theorem str_load : M.str "load " = [108, 111, 97, 100, 32] := by decide +kernel
theorem str_sum : M.str "sum " = [115, 117, 109, 32] := by decide +kernel
theorem digitsF_len (base : Nat) : ∀ f n acc, (M.digitsF base f n acc).length ≤ acc.length + f
  | 0, n, acc => by simp [M.digitsF]
  | f + 1, n, acc => by
    unfold M.digitsF
    split
    · simp
    · have := digitsF_len base f (n / base) (M.digit (n % base) :: acc)
      simp at this; omega
theorem digits_len (base n : Nat) : (M.digits base n).length ≤ 64 := by
  have := digitsF_len base 64 n []
  simpa [M.digits] using this
theorem ways_any (w : World) : Calls Tryz.prog 21 #[] w fun e w' => e = .returned (.slice (some ⟨w.heap.size, 0, none⟩) 4 4) ∧ w' = w.alloc (.cells #[strB [99, 104, 101, 99, 107], strB [99, 114, 99], strB [108, 97, 114, 103, 101], strB [98, 97, 116, 99, 104]] 9) := by
  go_enter Tryz.func21, Tryz.ntmps21
  go_wp2_with fail
  go_ret
  exact ⟨rfl, rfl⟩
theorem strB_app (a b : List UInt8) : (⟨a.toArray⟩ : ByteArray) ++ (⟨b.toArray⟩ : ByteArray) = ⟨(a ++ b).toArray⟩ := by
  simp [ByteArray.mk_append_mk]
theorem ask_any (addr n : Nat) (w : World) (h : Tabs w) (h1 : addr < 4294967296) (h2 : n < 4294967296) :
    Calls Tryz.prog 112 #[.int .i64 addr, .int .i64 n] w fun e w' => e = .returned (strB (M.askOf addr n)) ∧ Only [] w w' := by
  have HT := LH h
  clear h
  obtain ⟨x, hx⟩ : ∃ x, x = M.digits 16 addr := ⟨_, rfl⟩
  obtain ⟨y, hy⟩ : ∃ y, y = M.digits 16 n := ⟨_, rfl⟩
  have lx : x.length ≤ 64 := by rw [hx]; exact digits_len _ _
  have ly : y.length ≤ 64 := by rw [hy]; exact digits_len _ _
  have c1 := fmtI16s addr w HT.out h1
  have c2 := fun wx (ho : Only [] w wx) => fmtI16s n wx (HT.out.of_only ho (by simp)) h2
  have he : M.askOf addr n = [115, 117, 109, 32] ++ x ++ [32] ++ y ++ [13] := by unfold M.askOf; rw [str_sum, hx, hy]
  rw [← hx] at c1
  rw [← hy] at c2
  rw [he]
  have HC := LH (AI c1 c2)
  clear hx hy c1 c2 he h1 h2
  have k1 : ¬ 9223372036854775807 < 4 + x.length := by omega
  have k2 : ¬ 9223372036854775807 < 4 + x.length + 1 := by omega
  have k3 : ¬ 9223372036854775807 < 4 + x.length + 1 + y.length := by omega
  have k4 : ¬ 9223372036854775807 < 4 + x.length + 1 + y.length + 1 := by omega
  go_enter Tryz.func112, Tryz.ntmps112
  go_wp2_with (first
    | (go_at_call 22; (with_reducible refine (HC.out.1).mono ?_); rintro e w1 ⟨rfl, ho1⟩; have HO1 := LH ho1; clear ho1)
    | (go_at_call 22; refine (HC.out.2 _ HO1.out).mono ?_; rintro e w2 ⟨rfl, ho2⟩; have HO2 := LH ho2; clear ho2))
  go_ret
  refine ⟨?_, HO1.out.trans HO2.out⟩
  refine congrArg (fun b => Ending.returned (Value.string b)) ?_
  simp [ByteArray.mk_append_mk]
theorem keepL {w0 w1 w2 : World} {a b c : Addr} {x y z : Value} (h : Only [] w0 w1 ∧ w1.cell? a = some x ∧ w1.cell? b = some y ∧ w1.cell? c = some z) (o : Only [] w1 w2) : Only [] w0 w2 ∧ w2.cell? a = some x ∧ w2.cell? b = some y ∧ w2.cell? c = some z :=
  ⟨h.1.trans o, o.cell h.2.1 (by simp), o.cell h.2.2.1 (by simp), o.cell h.2.2.2 (by simp)⟩
theorem line_any (addr n p : Nat) (w : World) (h : Tabs w) (h1 : addr < 4294967296) (h2 : n < 4294967296) (h3 : p < 4294967296) :
    Calls Tryz.prog 113 #[.agg #[.int .i64 addr, .int .i64 n, .int .u32 p]] w fun e w' => e = .returned (strB (M.lineOf addr n p)) ∧ Only [] w w' := by
  obtain ⟨A, hA⟩ : ∃ A, A = w.heap.size := ⟨_, rfl⟩
  obtain ⟨w0, hw0⟩ : ∃ w0, w0 = w.alloc (.cells #[.int .i64 addr, .int .i64 n, .int .u32 p] 250) := ⟨_, rfl⟩
  have hz : w0.heap[A]? = some (.cells #[.int .i64 addr, .int .i64 n, .int .u32 p] 250 (0, 0)) := by rw [hw0, hA]; exact heap_alloc_new w _
  have g0 : w0.cell? ⟨A, 0, none⟩ = some (.int .i64 addr) := cell_at hz rfl
  have g1 : w0.cell? ⟨A, 1, none⟩ = some (.int .i64 n) := cell_at hz rfl
  have g2 : w0.cell? ⟨A, 2, none⟩ = some (.int .u32 p) := cell_at hz rfl
  have o0 : Only [] w w0 := by rw [hw0]; exact (Only.refl [] w).alloc _
  have HT := LH (h.of_only o0 (by simp))
  have HO := LH o0
  clear h o0 hz
  obtain ⟨x, hx⟩ : ∃ x, x = M.digits 16 addr := ⟨_, rfl⟩
  obtain ⟨y, hy⟩ : ∃ y, y = M.digits 16 n := ⟨_, rfl⟩
  obtain ⟨z, hz⟩ : ∃ z, z = M.digits 16 p := ⟨_, rfl⟩
  have lx : x.length ≤ 64 := by rw [hx]; exact digits_len _ _
  have ly : y.length ≤ 64 := by rw [hy]; exact digits_len _ _
  have lz : z.length ≤ 64 := by rw [hz]; exact digits_len _ _
  have c1 := fun wx (ho : Only [] w0 wx) => fmtI16s addr wx (HT.out.of_only ho (by simp)) h1
  have c2 := fun wx (ho : Only [] w0 wx) => fmtI16s n wx (HT.out.of_only ho (by simp)) h2
  have c3 : ∀ wx, Only [] w0 wx → Calls Tryz.prog 130 #[.int .u64 (IntKind.u64.wrap (p : Int)), .int .i64 16] wx _ := fun wx (ho : Only [] w0 wx) => by rw [toNat_int p (by omega)]; exact fmtU16s p wx (HT.out.of_only ho (by simp)) h3
  have he : M.lineOf addr n p = [115, 117, 109, 32] ++ x ++ [32] ++ y ++ [32] ++ z ++ [13, 10] := by unfold M.lineOf; rw [str_sum, hx, hy, hz]
  rw [← hx] at c1
  rw [← hy] at c2
  rw [← hz] at c3
  rw [he]
  have HC := LH (AI c1 (AI c2 c3))
  have HW := LH (AI hw0 hA)
  clear hx hy hz c1 c2 c3 he h1 h2 h3 hw0 hA
  have k1 : ¬ 9223372036854775807 < 4 + x.length := by omega
  have k2 : ¬ 9223372036854775807 < 4 + x.length + 1 := by omega
  have k3 : ¬ 9223372036854775807 < 4 + x.length + 1 + y.length := by omega
  have k4 : ¬ 9223372036854775807 < 4 + x.length + 1 + y.length + 1 := by omega
  have k5 : ¬ 9223372036854775807 < 4 + x.length + 1 + y.length + 1 + z.length := by omega
  have k6 : ¬ 9223372036854775807 < 4 + x.length + 1 + y.length + 1 + z.length + 2 := by omega
  go_enter Tryz.func113, Tryz.ntmps113
  go_upto_region 1 with fail
  rw [← HW.out.1, ← HW.out.2]
  have oo : Only [] w0 w0 := Only.refl _ _
  go_region_held3 (fun w' => Only [] w0 w' ∧ w'.cell? ⟨A, 0, none⟩ = some (.int .i64 addr) ∧ w'.cell? ⟨A, 1, none⟩ = some (.int .i64 n) ∧ w'.cell? ⟨A, 2, none⟩ = some (.int .u32 p))
    (first
      | (exact keepL ‹_› ho2)
      | (exact ⟨oo.drew, ‹_›, ‹_›, ‹_›⟩)
      | go_keep)
    (first
      | (go_at_call 22; refine (HC.out.1 _ (by first | exact oo.drew | exact (‹Only [] w0 _ ∧ _ ∧ _ ∧ _›).1)).mono ?_; rintro e w2 ⟨rfl, ho2⟩)
      | (go_at_call 22; refine (HC.out.2.1 _ (by first | exact oo.drew | exact (‹Only [] w0 _ ∧ _ ∧ _ ∧ _›).1)).mono ?_; rintro e w2 ⟨rfl, ho2⟩)
      | (go_at_call 130; refine (HC.out.2.2 _ (by first | exact oo.drew | exact (‹Only [] w0 _ ∧ _ ∧ _ ∧ _›).1)).mono ?_; rintro e w2 ⟨rfl, ho2⟩))
  rename_i hk
  have HK := LH hk.1
  clear hk
  go_wp2_with fail
  go_ret
  refine ⟨?_, HO.out.trans HK.out⟩
  refine congrArg (fun b => Ending.returned (Value.string b)) ?_
  simp [ByteArray.mk_append_mk]
theorem ways_at (way : Nat) (hw : way < 4) (w : World) : Calls Tryz.prog 21 #[] w fun e w' => ∃ A, e = .returned (.slice (some ⟨A, 0, none⟩) 4 4) ∧ Only [] w w' ∧ w'.cell? ⟨A, way, none⟩ = some (strB (M.ways.getD way [])) := by
  refine (ways_any w).mono ?_
  rintro e w' ⟨rfl, rfl⟩
  refine ⟨_, rfl, (Only.refl [] w).alloc _, cell_at (heap_alloc_new w _) ?_⟩
  rw [ways_eq]
  match way, hw with
  | 0, _ => rfl
  | 1, _ => rfl
  | 2, _ => rfl
  | 3, _ => rfl
theorem load_any (way addr : Nat) (w : World) (h : Tabs w) (hw : way < 4) (h1 : addr < 4294967296) :
    Calls Tryz.prog 9 #[.int .i64 way, .int .i64 addr] w fun e w' => e = .returned (strB (M.loadOf way addr)) ∧ Only [] w w' := by
  have HT := LH h
  clear h
  obtain ⟨x, hx⟩ : ∃ x, x = M.ways.getD way [] := ⟨_, rfl⟩
  obtain ⟨y, hy⟩ : ∃ y, y = M.digits 16 addr := ⟨_, rfl⟩
  have lx : x.length ≤ 64 := by
    rw [hx, ways_eq]
    match way, hw with
    | 0, _ => simp
    | 1, _ => simp
    | 2, _ => simp
    | 3, _ => simp
  have ly : y.length ≤ 64 := by rw [hy]; exact digits_len _ _
  have c1 := ways_at way hw w.drew
  have c2 := fun wx (ho : Only [] w wx) => fmtI16s addr wx (HT.out.of_only ho (by simp)) h1
  have he : M.loadOf way addr = [108, 111, 97, 100, 32] ++ x ++ [32] ++ y ++ [13] := by unfold M.loadOf; rw [str_load, hx, hy, Nat.min_eq_left (by omega)]
  rw [← hx] at c1
  rw [← hy] at c2
  rw [he]
  have HC := LH (AI c1 c2)
  clear hx hy c1 c2 he h1
  have k1 : ¬ 9223372036854775807 < 5 + x.length := by omega
  have k2 : ¬ 9223372036854775807 < 5 + x.length + 1 := by omega
  have k3 : ¬ 9223372036854775807 < 5 + x.length + 1 + y.length := by omega
  have k4 : ¬ 9223372036854775807 < 5 + x.length + 1 + y.length + 1 := by omega
  have m1 : (if 3 < (way : Int) then 3 else (way : Int)) = (way : Int) := by rw [if_neg (by omega)]
  have m2 : (if 0 < way then (way : Int) else 0) = (way : Int) := by split <;> omega
  have m3 : (0 : Int) ≤ (way : Int) := by omega
  have m4 : (way : Int) < 4 := by omega
  go_enter Tryz.func9, Tryz.ntmps9
  go_upto_region 1 with fail
  go_region_law (first
    | (go_simp; go_at_call 21; refine (HC.out.1).mono ?_; rintro e w1 ⟨A, rfl, ho1, ca⟩)
    | (go_simp; go_at_call 22; refine (HC.out.2 _ (by first | exact Only.trans ((Only.refl [] w).drew) ho1)).mono ?_; rintro e w2 ⟨rfl, ho2⟩; have cb := ho2.cell ca (by simp)))
  all_goals go_wp2_with fail
  all_goals go_ret
  all_goals refine ⟨?_, (Only.refl [] w).drew.trans (ho1.trans ho2)⟩
  all_goals refine congrArg (fun b => Ending.returned (Value.string b)) ?_
  all_goals simp [ByteArray.mk_append_mk]
end Go.Proofs.YtplaamfoeaaaiaaGreatDoor
