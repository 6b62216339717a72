/- The law DemuxScript is proved where the arguments are of bulk at most 1048576: every byte is told to the mode in which it was given, deed by deed. Conditions: the statement's own bound. -/
import Derived.Test.YtmikfnnaiojpiaaRows
import Derived.Test.YtmikfnnaiojpiaaScriptW
import Derived.WalkKit
import Derived.ProofKit
import Derived.OpenShut
import Derived.JoinedCond
import Derived.ChangeOld
import Derived.Below
import Derived.Deep.Slices
namespace Go.Proofs.Ytmikfnnaiojpiaa.demuxScript
open Go.ChangeShapes Go.WideShapes Go.ChangeAt Go.RowKit Go.Deep
set_option linter.unusedVariables false

theorem own : ownKnob Try.prog.godebug = none := by kernel_rfl
theorem laidOut : laidOutB Try.prog = true := by kernel_rfl

theorem bulk_append {H : Type} (l r : List (DataW H)) : Rows.uptoBulkAll (l ++ r) = Rows.uptoBulkAll l + Rows.uptoBulkAll r := by
  induction l with
  | nil => simp [Rows.uptoBulkAll]
  | cons x l ih => simp only [List.cons_append, Rows.uptoBulkAll, ih]; omega

theorem bulk_pos {H : Type} (d : DataW H) : 1 ≤ Rows.uptoBulk d := by
  cases d with
  | lit l => cases l <;> simp [Rows.uptoBulk]
  | nil => simp [Rows.uptoBulk]
  | ptr d => simp [Rows.uptoBulk]
  | slice elems spare => simp [Rows.uptoBulk]
  | agg parts => simp [Rows.uptoBulk]
  | iface t d => simp [Rows.uptoBulk]
  | map entries => simp [Rows.uptoBulk]
  | held h => simp [Rows.uptoBulk]

theorem bulk_length {H : Type} (l : List (DataW H)) : l.length ≤ Rows.uptoBulkAll l := by
  induction l with
  | nil => simp [Rows.uptoBulkAll]
  | cons x r ih => have := bulk_pos x; simp only [Rows.uptoBulkAll, List.length_cons]; omega

/-- The rows' bytes together are no more than the bulk. -/
theorem rows_bulk {H : Type} (B : Nat → List UInt8) (D : Nat → DataW H) (n : Nat) (h : ∀ r, r < n → (B r).length ≤ Rows.uptoBulk (D r)) : (allB B n).length ≤ Rows.uptoBulkAll ((List.range n).map D) := by
  induction n with
  | zero => simp [allB]
  | succ n ih =>
    rw [List.range_succ, List.map_append, bulk_append]
    have h1 := ih (fun r hr => h r (by omega))
    have h2 := h n (by omega)
    simp only [allB, List.length_append, List.map_cons, List.map_nil, Rows.uptoBulkAll]
    omega

theorem cells4 : Try.prog.cellsOf 4 = 1 := by kernel_rfl
theorem cells40 : Try.prog.cellsOf 40 = 1 := by kernel_rfl
theorem cells37 : Try.prog.cellsOf 37 = 1 := by kernel_rfl
theorem cells43 : Try.prog.cellsOf 43 = 3 := by kernel_rfl

/-- One deed, as it was read. -/
theorem act_open {H : Type} {enc : TypeId × Value → H} {W : World} {a : Addr} {i n : Nat} {cs' : List Value} {d : DataW H} {pl : List MemPlace}
    (hc : W.cells? 0 (a.add (i * 3)) 3 = some cs') (ht : DataW.trod enc Try.prog W 0 (fun _ => true) true n 43 cs' = some (d, pl)) :
    ∃ (ab : Option Addr) (L C : Nat) (bs : List UInt8) (k : Int) (sw : Bool), W.cell? (a.add (i * 3)) = some (.bool sw) ∧ W.cell? (a.add (i * 3 + 1)) = some (.int .i8 k) ∧ W.cell? (a.add (i * 3 + 2)) = some (.slice ab L C) ∧ bs.length = L ∧ Bytes W ab bs ∧ L ≤ C ∧ C ≤ maxLen ∧ (ab = none → C = 0) ∧
      (bs = [] ∨ ∀ ad, ab = some ad → ad.block < W.heap.size) ∧ -128 ≤ k ∧ k ≤ 127 ∧ L ≤ Rows.uptoBulk d := by
  obtain ⟨ys, n', hn', hy, hlen, hyl, hf⟩ := DataW.trod_struct Try.underlying43 ht
  obtain ⟨_, hcl, hat⟩ := World.cells?_some hc
  match cs', hcl with
  | [c0, c1, c2], _ =>
    match ys, hyl with
    | [y0, y1, y2], _ =>
      have f0 : DataW.trod enc Try.prog W 0 (fun _ => true) true n' 4 (([c0, c1, c2].drop 0).take (Try.prog.cellsOf 4)) = some y0 := hf 0 _ rfl
      have f1 : DataW.trod enc Try.prog W 0 (fun _ => true) true n' 40 (([c0, c1, c2].drop 1).take (Try.prog.cellsOf 40)) = some y1 := hf 1 _ rfl
      have f2 : DataW.trod enc Try.prog W 0 (fun _ => true) true n' 37 (([c0, c1, c2].drop 2).take (Try.prog.cellsOf 37)) = some y2 := hf 2 _ rfl
      rw [cells4] at f0
      rw [cells40] at f1
      rw [cells37] at f2
      have h0 : W.cell? ((a.add (i * 3)).add 0) = some c0 := hat 0 (by omega)
      have h1 : W.cell? ((a.add (i * 3)).add 1) = some c1 := hat 1 (by omega)
      have h2 : W.cell? ((a.add (i * 3)).add 2) = some c2 := hat 2 (by omega)
      rw [Go.Deep.add_add] at h0 h1 h2
      obtain ⟨sw, hs1, hs2⟩ := DataW.trod_bool Try.underlying4 f0
      have hs1' : c0 = .bool sw := by simpa using hs1
      obtain ⟨k, hk1, hk2, hk3⟩ := DataW.trod_int Try.underlying40 f1
      have hk1' : c1 = .int .i8 k := by simpa using hk1
      have hkb : -128 ≤ k ∧ k ≤ 127 := by
        simp [Lit.wf] at hk3
        have e1 : IntKind.i8.min = -128 := by decide
        have e2 : IntKind.i8.max = 127 := by decide
        omega
      have hd : d = .agg [y0.1, y1.1, y2.1] := by
        have := congrArg Prod.fst hy
        simpa using this
      rw [hs1'] at h0
      rw [hk1'] at h1
      rcases open_ints Try.underlying37 Try.underlying5 (by kernel_rfl) f2 with ⟨hcs, hx⟩ | ⟨x, l, c, zs, hcs, _, hl, hm, hz, hx, hcell, hwz⟩
      · have hc2 : c2 = .slice none 0 0 := by simpa using hcs
        rw [hc2] at h2
        exact ⟨none, 0, 0, [], k, sw, h0, h1, h2, rfl, ⟨fun _ => rfl, fun ad e => by cases e⟩, Nat.le_refl _, by simp [maxLen], fun _ => rfl, .inl rfl, hkb.1, hkb.2, Nat.zero_le _⟩
      · have hc2 : c2 = .slice (some x) l c := by simpa using hcs
        rw [hc2] at h2
        have hz' : zs.length = c := by simpa using hz
        obtain ⟨bs, b1, b2, b3, b4, b5, b6⟩ := row_bytes (w := W) (a := some x) (len := l) (cap := c) (zs := zs) (.inr ⟨x, rfl, hl, hm, hz', hcell, hwz⟩)
        refine ⟨some x, l, c, bs, k, sw, h0, h1, h2, b1, b2, b3, b4, b5, b6, hkb.1, hkb.2, ?_⟩
        have hy2 : y2.1 = .slice (lits .u8 (zs.take l)) (lits .u8 (zs.drop l)) := by
          have := congrArg Prod.fst hx
          simpa using this
        rw [hd, hy2]
        have hb := bulk_length (lits (H := H) .u8 (zs.take l))
        have e : (lits (H := H) .u8 (zs.take l)).length = l := by simp [lits]; omega
        simp only [Rows.uptoBulk, Rows.uptoBulkAll]
        omega

theorem contract (H : Type) (enc : TypeId × Value → H) (W : World) (base : Nat) (args : Array Value) (ds gs : List (DataW H)) (before : List MemPlace)
    (hval : ∀ (j : Nat) t v, Try.f8.params[j]? = some t → args[j]? = some v → Value.okWide Try.prog W .any base t v)
    (hW : DataW.Whole enc Try.prog Try.f8.params.toList Rows.demuxScriptSpec.vars false W args.toList ds gs before) (hk : Rows.uptoSmall H (ds ++ gs) = true) :
    Calls Try.prog 8 args W fun e W' => ∃ v, e = .returned v ∧ Rows.demuxScriptSpec.post enc Try.prog Try.f8 false true false false W args v W' := by
  have hW' := hW
  obtain ⟨p, q, hA0, hV, rfl, hfz, hnd⟩ := hW
  have hA : DataW.TrodAll enc Try.prog W 0 (fun _ => true) true Try.f8.params.toList args.toList ds p := hA0
  rw [Try.params8] at hA hval
  obtain ⟨v0, vs0, d0, ds0, p0, q0, hargs, rfl, rfl, h0, r0⟩ := trodAll_cons hA
  obtain ⟨v1, vs1, d1, ds1, p1, q1, rfl, rfl, rfl, h1, r1⟩ := trodAll_cons r0
  obtain ⟨rfl, rfl, rfl⟩ := trodAll_nil r1
  obtain rfl : args = #[v0, v1] := by cases args; simp_all
  obtain ⟨rfl, rfl⟩ := trodVars_none hV
  obtain ⟨a0, rfl, rfl, rfl, w0⟩ := open_int Try.underlying40 (hval 0 40 v0 rfl rfl) h0
  obtain ⟨a1, len1, cap1, rfl⟩ := okWide_slice Try.underlying41 (hval 1 41 v1 rfl rfl)
  have k1 := h1
  have lt1 : ∀ x ∈ p1, x.block < W.heap.size := by obtain ⟨m, hm⟩ := k1; exact DataW.trod_lt m _ _ _ hm
  have hbulk : Rows.uptoBulkAll ([.lit (.int .i8 a0), d1] ++ []) ≤ 1048576 := of_decide_eq_true hk
  simp only [List.append_nil, Rows.uptoBulkAll] at hbulk
  have hw0 : -128 ≤ a0 ∧ a0 ≤ 127 := by
    have h := w0
    simp [Lit.wf] at h
    have e1 : IntKind.i8.min = -128 := by decide
    have e2 : IntKind.i8.max = 127 := by decide
    omega
  have main : ∃ (B : Nat → List UInt8) (A : Nat → Option Addr) (C : Nat → Nat) (K : Nat → Int) (Sw : Nat → Bool), ActsIn W a1 len1 B A C K Sw ∧ (allB B len1).length ≤ 1048576 ∧ len1 ≤ 1048576 := by
    obtain ⟨fuel, hf⟩ := h1
    rcases open_slice Try.underlying41 hf with ⟨hcs, hd⟩ | ⟨a, len, cap, m, n, D, Pl, hcs, _, hl, hm, hmm, hd, hrow⟩
    · simp [Value.cells] at hcs
      obtain ⟨rfl, rfl, rfl⟩ := hcs
      exact ⟨fun _ => [], fun _ => none, fun _ => 0, fun _ => 0, fun _ => false, ⟨fun h => absurd h (by omega), fun r h => absurd h (by omega)⟩, by simp [allB], by omega⟩
    · simp [Value.cells] at hcs
      obtain ⟨rfl, rfl, rfl⟩ := hcs
      simp only [Prod.mk.injEq] at hd
      simp only [if_true] at hmm
      rw [cells43] at hrow
      have each : ∀ r, r < len1 → ∃ y : Option Addr × Nat × Nat × List UInt8 × Int × Bool, W.cell? (a.add (r * 3)) = some (.bool y.2.2.2.2.2) ∧ W.cell? (a.add (r * 3 + 1)) = some (.int .i8 y.2.2.2.2.1) ∧ W.cell? (a.add (r * 3 + 2)) = some (.slice y.1 y.2.1 y.2.2.1) ∧ y.2.2.2.1.length = y.2.1 ∧ Bytes W y.1 y.2.2.2.1 ∧ y.2.1 ≤ y.2.2.1 ∧ y.2.2.1 ≤ maxLen ∧ (y.1 = none → y.2.2.1 = 0) ∧
          (y.2.2.2.1 = [] ∨ ∀ ad, y.1 = some ad → ad.block < W.heap.size) ∧ -128 ≤ y.2.2.2.2.1 ∧ y.2.2.2.2.1 ≤ 127 ∧ y.2.1 ≤ Rows.uptoBulk (D r) := by
        intro r hr
        obtain ⟨cs', hc, ht⟩ := hrow r (by omega)
        obtain ⟨ab, L, C, bs, k, sw, h⟩ := act_open hc ht
        exact ⟨(ab, L, C, bs, k, sw), h⟩
      obtain ⟨y, hy⟩ := choose_lt each
      have hb0 : Rows.uptoBulkAll ((List.range len1).map D) ≤ 1048576 := by
        rw [hd.1] at hbulk
        simp only [Rows.uptoBulk] at hbulk
        omega
      refine ⟨fun r => (y r).2.2.2.1, fun r => (y r).1, fun r => (y r).2.2.1, fun r => (y r).2.2.2.2.1, fun r => (y r).2.2.2.2.2, ⟨fun hpos => ?_, fun r hr => ?_⟩, ?_, ?_⟩
      · have hc0 := (hy 0 hpos).1
        have hsp : a.spot = none := by
          have := spot_of_cell hc0
          simpa [Addr.add] using this
        obtain ⟨b, off, sp⟩ := a
        simp only at hsp
        subst hsp
        refine ⟨b, off, rfl, by have := World.block_lt_of_cell? W _ hc0; simpa [Addr.add] using this, fun r hr => ?_⟩
        obtain ⟨e1, e2, e3, e4, _⟩ := hy r hr
        rw [Addr.add_lit] at e1 e2 e3
        rw [e4]
        exact ⟨e1, by rw [Nat.add_assoc]; exact e2, by rw [Nat.add_assoc]; exact e3⟩
      · obtain ⟨_, _, _, e3, e4, e5, e6, e7, e8, e9, e10, _⟩ := hy r hr
        exact ⟨e4, by omega, by simpa [maxLen] using e6, e7, e8, e9, e10⟩
      · refine Nat.le_trans (rows_bulk _ D len1 (fun r hr => ?_)) hb0
        obtain ⟨_, _, _, e3, _, _, _, _, _, _, _, e11⟩ := hy r hr
        omega
      · have := bulk_length ((List.range len1).map D)
        simp only [List.length_map, List.length_range] at this
        omega
  obtain ⟨B, A, C, K, Sw, hacts, htot, hlen⟩ := main
  refine (script_walk a0 a1 len1 cap1 B A C K Sw W hacts htot hlen hw0.1 hw0.2).mono fun e W' ⟨he, bel⟩ => ?_
  subst he
  exact ⟨_, rfl, _, _, _, [], _, [], hW', trodAll_mk1 (shut_bool Try.underlying4 _), (trodAll_cons_mk (shut_int Try.underlying40 w0) (trodAll_cons_mk (Below.trod laidOut (by kernel_rfl) (of_decide_eq_true (by kernel_rfl)) k1 bel lt1) trodAll_mk0)), rfl, bel.frame _, fun h => by cases h⟩

set_option maxRecDepth 100000 in
theorem lifted (os : Os) (started : os.Started) (H : Type) (enc : TypeId × Value → H) (F : Stop.Interp) :
    ReturnsInHanded {} Try.checked os 8 .any ((Rows.OpenSpec.upto Rows.demuxScriptSpec).pre6 enc Try.prog Try.f8 Rows.demuxScriptUptoRow.domain false) (((Rows.OpenSpec.upto Rows.demuxScriptSpec).at F).post enc Try.prog Try.f8 false true false false) := by
  refine returnsInHanded_of_cond (C := Try.checked) (s := Rows.OpenSpec.upto Rows.demuxScriptSpec) (k := Rows.uptoSmall) rfl own started (by kernel_rfl) Try.func8
    (OpenSpec.witness (enc := enc) (C := Try.checked) (s := Rows.OpenSpec.upto Rows.demuxScriptSpec) (k := Rows.uptoSmall) rfl false ⟨#[], #[.int .i8 0, .slice none 0 0], []⟩ 8 (by kernel_rfl) (by kernel_rfl) (by kernel_rfl)
      (x := ([.lit (.int .i8 0), .nil], [], [])) (by kernel_rfl) rfl (by kernel_rfl)) ?_
  intro W base args ds gs before hval hW _ hk _
  exact contract H enc W base args ds gs before hval hW hk

theorem over : Rows.demuxScriptUptoRow.holds Try.pinned (Rows.OpenSpec.upto Rows.demuxScriptSpec) :=
  OpenClaim.holds_of_cond 8 Try.f8 rfl rfl rfl rfl rfl rfl rfl ⟨rfl, rfl, rfl, rfl, rfl⟩ rfl rfl rfl rfl rfl (by kernel_rfl) Try.func8 (by kernel_rfl)
    (of_decide_eq_true (by kernel_rfl)) (by unfold Func.isWrapper; first | (rw [if_pos (by decide +kernel)]; kernel_rfl) | (rw [if_neg (by decide +kernel)]; exact ⟨rfl, rfl⟩))
    (fun os started H enc _ F => lifted os started H enc F)

theorem proved : Rows.DemuxScriptUptoSaid :=
  over
#print axioms proved
end Go.Proofs.Ytmikfnnaiojpiaa.demuxScript
