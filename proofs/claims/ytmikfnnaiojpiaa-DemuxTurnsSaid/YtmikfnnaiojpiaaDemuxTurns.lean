/- The law DemuxTurns is proved: where the turn changes with each byte there are as many segments as bytes. Conditions: none. -/
import Derived.Test.YtmikfnnaiojpiaaRows
import Derived.Test.YtmikfnnaiojpiaaAwake
import Derived.WalkKit
import Derived.ProofKit
import Derived.OpenShut
import Derived.ShutString
namespace Go.Proofs.Ytmikfnnaiojpiaa.demuxTurns
open Go.ChangeShapes Go.WideShapes Go.ChangeAt Go.RowKit
open Go.ChangeMaps (open_string shut_string)
set_option linter.unusedVariables false      -- a walk need not use every 'w<i>' (that an integer argument fits its kind)

theorem own : ownKnob Try.prog.godebug = none := by kernel_rfl

def turnSegs (i : Nat) : List Seg := (List.range i).map fun k => ⟨k % 3, k, 1⟩

theorem turnSegs_push (i : Nat) : pushSeg (turnSegs i) (i % 3) i = turnSegs (i + 1) := by
  cases i with
  | zero => rfl
  | succ j =>
    have h : turnSegs (j + 1) = turnSegs j ++ [⟨j % 3, j, 1⟩] := by unfold turnSegs; rw [List.range_succ, List.map_append]; rfl
    have h2 : turnSegs (j + 1 + 1) = turnSegs (j + 1) ++ [⟨(j + 1) % 3, j + 1, 1⟩] := by unfold turnSegs; rw [List.range_succ, List.map_append]; rfl
    rw [h2, h, pushSeg_other _ _ _ _ (by simp only; omega)]

theorem fit_mod (i : Nat) : fitM ((i : Int) % 3) = i % 3 := by unfold fitM; split <;> (try split) <;> omega

/-! ### STEP 1: THE WALK: the Go text returns true. 'Grown w w'': the world has at most new blocks (Derived/RowKit3.lean). Part the cases AHEAD of 'go_enter' where a test parts the walk; take each callee by a contract of your own. -/
set_option maxHeartbeats 1000000 in
theorem walk (a0 : Int) (w0 : (Lit.int .u8 a0).wf = true) (w : World) :
    Calls Try.prog 4 #[.int .u8 a0] w fun e w' => e = .returned (.bool true) ∧ Below w.heap.size w w' := by
  obtain ⟨l0, u0⟩ := u8_bd w0
  obtain ⟨n, rfl⟩ := Int.eq_ofNat_of_zero_le l0
  go_enter Try.func4, Try.ntmps4
  go_wp2_with fail
  refine (awake_any _).mono ?_
  rintro e wa ⟨rfl, hba⟩
  have HB := Lib.hid hba
  clear hba
  go_wp2_with fail
  refine (of_any 0 _).mono ?_
  rintro e wb ⟨rfl, hd1, ho1⟩
  rw [show fitM 0 = 0 from rfl] at hd1
  have HO1 := Lib.hid (HB.out.trans (ho1.below HB.out.size (by simp)))
  have hsz := HB.out.size
  clear ho1
  go_wp2_with fail
  go_loopw [4] (fun k wr => ∃ (i : Nat) (v : Value) (M : Nat), i ≤ n ∧ k = .int .i64 i ∧ Demuxed wr wa.heap.size (wa.heap.size + 1) v M i (turnSegs i) ∧ Below w.heap.size w wr) (fun k _ => n - (intOf k).toNat)
  case atStart => exact ⟨0, _, 0, by omega, rfl, hd1, HO1.out⟩
  case round =>
    obtain ⟨i, v, M, hi, rfl, hd, hb⟩ := hrel
    by_cases hlt : i < n
    · go_wp2_with fail
      refine (switch_any _ _ _ _ _ _ ((i : Int) % 3) _ hd).mono ?_
      rintro e wd ⟨rfl, hd2, ho2⟩
      rw [fit_mod] at hd2
      have HO2 := Lib.hid (hb.trans (hd.below1 ho2 (by omega)))
      clear ho2 hd hb
      go_wp2_with fail
      refine (put_any _ _ _ _ _ _ _ _ hd2 (by omega)).mono ?_
      rintro e we ⟨v2, rfl, hd3, ho3, _⟩
      rw [turnSegs_push] at hd3
      have HO3 := Lib.hid (And.intro (HO2.out.trans (hd2.below ho3 (by omega))) hd3)
      clear ho3 hd2 hd3 HO2
      go_wp2
      go_roundw
      case rel => exact ⟨i + 1, _, _, by omega, by go_num, HO3.out.2, HO3.out.1⟩
      case measure => simp [intOf]; omega
    · obtain rfl : i = n := by omega
      go_wp2_with fail
      refine (segments_any _ _ _ _ _ _ _ hd).mono ?_
      rintro e wf ⟨v6, rfl, hown, ho6⟩
      have hd6 := hd.of_only ho6 (by simp) (by simp)
      have HO5 := Lib.hid (hb.trans (ho6.below hb.size (by simp)))
      clear ho6 hd hb
      have hl : (turnSegs i).length = i := by unfold turnSegs; simp
      obtain ⟨ao, ca, hv⟩ := own_slice hown
      rw [hl] at hv hown
      rw [hv] at hown ⊢
      clear hv
      go_wp2_with fail
      refine (len_any _ _ _ _ _ _ _ hd6).mono ?_
      rintro e wz ⟨rfl, rfl⟩
      have HW := Lib.hid hown
      clear hd6 hown hl
      go_wp2_with fail
      go_loopw [42] (fun k wr => ∃ j : Nat, j ≤ i ∧ k = .int .i64 j ∧ Only [] wf wr) (fun k _ => i - (intOf k).toNat)
      case atStart => exact ⟨0, by omega, rfl, Only.refl _ _⟩
      case round =>
        obtain ⟨j, hj, rfl, ho⟩ := hrel
        by_cases hjl : j < i
        · have hrow := ownsRow_only HW.out ho (by simp)
          obtain ⟨g, c6, hv, hg, hgl, hc6⟩ := own_form hrow (by omega)
          simp only [Value.slice.injEq, true_and] at hv
          obtain ⟨rfl, rfl⟩ := hv
          obtain ⟨x0, x1, x2⟩ := row_cell hrow (by unfold turnSegs; simp) j ⟨j % 3, j, 1⟩ (by unfold turnSegs; simp [hjl])
          have HO := Lib.hid ho
          clear hrow ho hg hc6
          go_wp2_with fail
          go_roundw
          case rel => exact ⟨j + 1, by omega, by go_num, HO.out.alloc _⟩
          case measure => simp [intOf]; omega
        · have HO := Lib.hid ho
          clear ho
          go_wp2
          go_ret
          exact ⟨rfl, HO5.out.trans (HO.out.below HO5.out.size (by simp))⟩

/-! ### THE ROW's STEP: WRITTEN OUT: LEAVE IT -/
set_option maxRecDepth 100000 in
theorem lifted (os : Os) (started : os.Started) (H : Type) (enc : TypeId × Value → H) :
    ReturnsInHanded {} Try.checked os 4 .any (Rows.demuxTurnsSpec.pre6 enc Try.prog Try.f4 Rows.demuxTurnsRow.domain false) (Rows.demuxTurnsSpec.post enc Try.prog Try.f4 false true false false) := by
  refine returnsInHanded_of_change (C := Try.checked) own started (by kernel_rfl) Try.func4
    (ChangeSpec.witness6 (enc := enc) (C := Try.checked) false ⟨#[], #[.int .u8 0], []⟩ 8 (by kernel_rfl) (by kernel_rfl) (by kernel_rfl) (by kernel_rfl)) ?_
  intro W base args ds gs before hval0 hW hcnd _
  have hval : ∀ (j : Nat) t v, Try.f4.params[j]? = some t → args[j]? = some v → Value.okWide Try.prog W .any base t v := hval0
  have hW' := hW
  obtain ⟨p, q, hA0, hV, rfl, hfz, hnd⟩ := hW
  have hA : DataW.TrodAll enc Try.prog W 0 (fun _ => true) true Try.f4.params.toList args.toList ds p := hA0
  rw [Try.params4] at hA hval
  obtain ⟨v0, vs0, d0, ds0, p0, q0, hargs, rfl, rfl, h0, r0⟩ := trodAll_cons hA
  obtain ⟨rfl, rfl, rfl⟩ := trodAll_nil r0
  obtain rfl : args = #[v0] := by cases args; simp_all
  obtain ⟨rfl, rfl⟩ := trodVars_none hV
  obtain ⟨a0, rfl, rfl, rfl, w0⟩ := open_int Try.underlying5 (hval 0 5 v0 rfl rfl) h0
  clear hA0 hval0
  simp only [List.append_nil] at hW'
  refine (walk a0 w0 W).mono fun e W' ⟨he, bel⟩ => ?_
  subst he
  exact ⟨_, rfl, _, _, _, [], _, [], hW', trodAll_mk1 (shut_bool Try.underlying4 _), (trodAll_cons_mk (shut_int Try.underlying5 w0) trodAll_mk0), rfl, bel.frame _, fun h => by cases h⟩

theorem over : Rows.demuxTurnsRow.holds Try.pinned (OpenSpec.ofChange Rows.demuxTurnsSpec) :=
  OpenClaim.holds_of_wide 4 Try.f4 rfl rfl rfl rfl rfl rfl rfl ⟨rfl, rfl, rfl, rfl, rfl⟩ rfl rfl rfl rfl rfl (by kernel_rfl) Try.func4 (by kernel_rfl)
    (of_decide_eq_true (by kernel_rfl)) (by unfold Func.isWrapper; first | (rw [if_pos (by decide +kernel)]; kernel_rfl) | (rw [if_neg (by decide +kernel)]; exact ⟨rfl, rfl⟩))
    (fun os started H enc _ => lifted os started H enc)

/-- ████ THE STATEMENT ████ -/
theorem proved : Rows.DemuxTurnsSaid :=
  over
#print axioms proved
end Go.Proofs.Ytmikfnnaiojpiaa.demuxTurns
