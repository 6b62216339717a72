/- The law RingAll is proved where the arguments are of bulk at most 1048576: what comes out of a ring is the beginning of what went in, as long as nothing is lost. Conditions: the statement's own bound. -/
import Derived.Test.YtfnglidobljlgaaRows
import Derived.Test.YtfnglidobljlgaaAll
import Derived.WalkKit
import Derived.ProofKit
import Derived.OpenShut
import Derived.JoinedCond
import Derived.ChangeOld
import Derived.Below
import Derived.Deep.Matrix
namespace Go.Proofs.Ytfnglidobljlgaa.ringAll
open Go.ChangeShapes Go.WideShapes Go.ChangeAt Go.RowKit Go.Deep
set_option linter.unusedVariables false

theorem own : ownKnob Try.prog.godebug = none := by kernel_rfl
theorem laidOut : laidOutB Try.prog = true := by kernel_rfl

theorem bulk_append {H : Type} (l r : List (DataW H)) : Rows.uptoBulkAll (l ++ r) = Rows.uptoBulkAll l + Rows.uptoBulkAll r := by
  induction l with
  | nil => simp [Rows.uptoBulkAll]
  | cons x l ih => simp only [List.cons_append, Rows.uptoBulkAll, ih]; omega

theorem bulk_pos {H : Type} (d : DataW H) : 1 ≤ Rows.uptoBulk d := by
  cases d with
  | lit l => cases l <;> simp [Rows.uptoBulk]
  | nil => simp [Rows.uptoBulk]
  | ptr d => simp [Rows.uptoBulk]
  | slice elems spare => simp [Rows.uptoBulk]
  | agg parts => simp [Rows.uptoBulk]
  | iface t d => simp [Rows.uptoBulk]
  | map entries => simp [Rows.uptoBulk]
  | held h => simp [Rows.uptoBulk]

theorem bulk_length {H : Type} (l : List (DataW H)) : l.length ≤ Rows.uptoBulkAll l := by
  induction l with
  | nil => simp [Rows.uptoBulkAll]
  | cons x r ih => have := bulk_pos x; simp only [Rows.uptoBulkAll, List.length_cons]; omega

/-- The rows' bytes together are no more than the bulk. -/
theorem rows_bulk {H : Type} (B : Nat → List UInt8) (D : Nat → DataW H) (n : Nat) (h : ∀ r, r < n → (B r).length ≤ Rows.uptoBulk (D r)) : (allB B n).length ≤ Rows.uptoBulkAll ((List.range n).map D) := by
  induction n with
  | zero => simp [allB]
  | succ n ih =>
    rw [List.range_succ, List.map_append, bulk_append]
    have h1 := ih (fun r hr => h r (by omega))
    have h2 := h n (by omega)
    simp only [allB, List.length_append, List.map_cons, List.map_nil, Rows.uptoBulkAll]
    omega

theorem row_bulk {H : Type} (A : Option Addr) (L : Nat) (Z : List Int) (hL : L ≤ Z.length) (hA : A = none → L = 0) : L ≤ Rows.uptoBulk (intRow (H := H) .u8 A L Z) := by
  cases A with
  | none => have := hA rfl; omega
  | some a =>
    have := bulk_length (lits (H := H) .u8 (Z.take L))
    simp only [intRow, Rows.uptoBulk]
    have e : (lits (H := H) .u8 (Z.take L)).length = L := by simp [lits]; omega
    omega

theorem contract (H : Type) (enc : TypeId × Value → H) (W : World) (base : Nat) (args : Array Value) (ds gs : List (DataW H)) (before : List MemPlace)
    (hval : ∀ (j : Nat) t v, Try.f3.params[j]? = some t → args[j]? = some v → Value.okWide Try.prog W .any base t v)
    (hW : DataW.Whole enc Try.prog Try.f3.params.toList Rows.ringAllSpec.vars false W args.toList ds gs before) (hk : Rows.uptoSmall H (ds ++ gs) = true) :
    Calls Try.prog 3 args W fun e W' => ∃ v, e = .returned v ∧ Rows.ringAllSpec.post enc Try.prog Try.f3 false true false false W args v W' := by
  have hW' := hW
  obtain ⟨p, q, hA0, hV, rfl, hfz, hnd⟩ := hW
  have hA : DataW.TrodAll enc Try.prog W 0 (fun _ => true) true Try.f3.params.toList args.toList ds p := hA0
  rw [Try.params3] at hA hval
  obtain ⟨v0, vs0, d0, ds0, p0, q0, hargs, rfl, rfl, h0, r0⟩ := trodAll_cons hA
  obtain ⟨v1, vs1, d1, ds1, p1, q1, rfl, rfl, rfl, h1, r1⟩ := trodAll_cons r0
  obtain ⟨rfl, rfl, rfl⟩ := trodAll_nil r1
  obtain rfl : args = #[v0, v1] := by cases args; simp_all
  obtain ⟨rfl, rfl⟩ := trodVars_none hV
  obtain ⟨a0, len0, cap0, rfl⟩ := okWide_slice Try.underlying22 (hval 0 22 v0 rfl rfl)
  have k0 := h0
  have lt0 : ∀ x ∈ p0, x.block < W.heap.size := by obtain ⟨m, hm⟩ := k0; exact DataW.trod_lt m _ _ _ hm
  obtain ⟨a1, rfl, rfl, rfl, w1⟩ := open_int Try.underlying3 (hval 1 3 v1 rfl rfl) h1
  have hbulk : Rows.uptoBulkAll ([d0, .lit (.int .i64 a1)] ++ []) ≤ 1048576 := of_decide_eq_true hk
  simp only [List.append_nil, Rows.uptoBulkAll] at hbulk
  have main : ∃ (B : Nat → List UInt8) (A : Nat → Option Addr) (C : Nat → Nat), RowsIn W a0 len0 B A C ∧ (allB B len0).length ≤ 1048576 ∧ len0 ≤ 1048576 := by
    obtain ⟨fuel, hf⟩ := h0
    rcases open_int_rows Try.underlying22 Try.underlying26 Try.underlying5 (by kernel_rfl) (by kernel_rfl) hf with ⟨hcs, hd⟩ | ⟨a, len, cap, A, L, C, Z, hcs, _, hl, hm, hd, hrow⟩
    · simp [Value.cells] at hcs
      obtain ⟨rfl, rfl, rfl⟩ := hcs
      exact ⟨fun _ => [], fun _ => none, fun _ => 0, ⟨fun h => absurd h (by omega), fun r h => absurd h (by omega)⟩, by simp [allB], by omega⟩
    · simp [Value.cells] at hcs
      obtain ⟨rfl, rfl, rfl⟩ := hcs
      simp only [Prod.mk.injEq] at hd
      have each : ∀ r, r < len0 → ∃ bs : List UInt8, bs.length = L r ∧ Bytes W (A r) bs ∧ L r ≤ C r ∧ C r ≤ maxLen ∧ (A r = none → C r = 0) ∧ (bs = [] ∨ ∀ ad, A r = some ad → ad.block < W.heap.size) := by
        intro r hr
        obtain ⟨_, r1, r2, r3, r4, r5, r6⟩ := hrow r (by omega)
        refine row_bytes (zs := Z r) ?_
        cases hA : A r with
        | none =>
          left
          have hC := r5 hA
          refine ⟨rfl, by omega, hC, ?_⟩
          exact List.eq_nil_of_length_eq_zero (by omega)
        | some x =>
          right
          exact ⟨x, rfl, r1, r2, r3, fun i hi => (r6 x hA).2 i (by omega), r4⟩
      obtain ⟨B, hB⟩ := choose_lt each
      have hb0 : Rows.uptoBulkAll ((List.range len0).map fun r => intRow (H := H) .u8 (A r) (L r) (Z r)) ≤ 1048576 := by
        rw [hd.1] at hbulk
        simp only [Rows.uptoBulk] at hbulk
        omega
      refine ⟨B, A, C, ⟨fun hpos => ?_, fun r hr => ?_⟩, ?_, ?_⟩
      · have hc0 := (hrow 0 (by omega)).1
        have hsp : a.spot = none := by
          have := spot_of_cell hc0
          simpa [Addr.add] using this
        obtain ⟨b, off, sp⟩ := a
        simp only at hsp
        subst hsp
        refine ⟨b, off, rfl, by have := World.block_lt_of_cell? W _ hc0; simpa [Addr.add] using this, fun r hr => ?_⟩
        have := (hrow r (by omega)).1
        rw [Addr.add_lit] at this
        rw [(hB r hr).1]
        exact this
      · obtain ⟨e1, e2, e3, e4, e5, e6⟩ := hB r hr
        exact ⟨e2, by omega, by simpa [maxLen] using e4, e5, e6⟩
      · refine Nat.le_trans (rows_bulk B _ len0 (fun r hr => ?_)) hb0
        obtain ⟨e1, e2, e3, e4, e5, e6⟩ := hB r hr
        obtain ⟨_, _, _, r3, _, _, _⟩ := hrow r (by omega)
        rw [e1]
        exact row_bulk (A r) (L r) (Z r) (by omega) (fun e => by have := e5 e; omega)
      · have := bulk_length ((List.range len0).map fun r => intRow (H := H) .u8 (A r) (L r) (Z r))
        simp only [List.length_map, List.length_range] at this
        omega
  obtain ⟨B, A, C, hrows, htot, hlen⟩ := main
  refine (all_walk a0 len0 cap0 a1 B A C W hrows htot hlen).mono fun e W' ⟨he, bel⟩ => ?_
  subst he
  exact ⟨_, rfl, _, _, _, [], _, [], hW', trodAll_mk1 (shut_bool Try.underlying4 _), (trodAll_cons_mk (Below.trod laidOut (by kernel_rfl) (of_decide_eq_true (by kernel_rfl)) k0 bel lt0) (trodAll_cons_mk (shut_int Try.underlying3 w1) trodAll_mk0)), rfl, bel.frame _, fun h => by cases h⟩

set_option maxRecDepth 100000 in
theorem lifted (os : Os) (started : os.Started) (H : Type) (enc : TypeId × Value → H) (F : Stop.Interp) :
    ReturnsInHanded {} Try.checked os 3 .any ((Rows.OpenSpec.upto Rows.ringAllSpec).pre6 enc Try.prog Try.f3 Rows.ringAllUptoRow.domain false) (((Rows.OpenSpec.upto Rows.ringAllSpec).at F).post enc Try.prog Try.f3 false true false false) := by
  refine returnsInHanded_of_cond (C := Try.checked) (s := Rows.OpenSpec.upto Rows.ringAllSpec) (k := Rows.uptoSmall) rfl own started (by kernel_rfl) Try.func3
    (OpenSpec.witness (enc := enc) (C := Try.checked) (s := Rows.OpenSpec.upto Rows.ringAllSpec) (k := Rows.uptoSmall) rfl false ⟨#[], #[.slice none 0 0, .int .i64 0], []⟩ 8 (by kernel_rfl) (by kernel_rfl) (by kernel_rfl)
      (x := ([.nil, .lit (.int .i64 0)], [], [])) (by kernel_rfl) rfl (by kernel_rfl)) ?_
  intro W base args ds gs before hval hW _ hk _
  exact contract H enc W base args ds gs before hval hW hk

theorem over : Rows.ringAllUptoRow.holds Try.pinned (Rows.OpenSpec.upto Rows.ringAllSpec) :=
  OpenClaim.holds_of_cond 3 Try.f3 rfl rfl rfl rfl rfl rfl rfl ⟨rfl, rfl, rfl, rfl, rfl⟩ rfl rfl rfl rfl rfl (by kernel_rfl) Try.func3 (by kernel_rfl)
    (of_decide_eq_true (by kernel_rfl)) (by unfold Func.isWrapper; first | (rw [if_pos (by decide +kernel)]; kernel_rfl) | (rw [if_neg (by decide +kernel)]; exact ⟨rfl, rfl⟩))
    (fun os started H enc _ F => lifted os started H enc F)

theorem proved : Rows.RingAllUptoSaid :=
  over
#print axioms proved
end Go.Proofs.Ytfnglidobljlgaa.ringAll
