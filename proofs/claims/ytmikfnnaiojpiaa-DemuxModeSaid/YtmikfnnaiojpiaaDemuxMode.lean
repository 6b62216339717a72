/- The law DemuxMode is proved: there are three to whom bytes are given; who is none is nobody. Conditions: none. -/
import Derived.Test.YtmikfnnaiojpiaaRows
import Derived.Test.YtmikfnnaiojpiaaAwake
import Derived.WalkKit
import Derived.ProofKit
import Derived.OpenShut
import Derived.ShutString
namespace Go.Proofs.Ytmikfnnaiojpiaa.demuxMode
open Go.ChangeShapes Go.WideShapes Go.ChangeAt Go.RowKit
open Go.ChangeMaps (open_string shut_string)
set_option linter.unusedVariables false      -- a walk need not use every 'w<i>' (that an integer argument fits its kind)

theorem own : ownKnob Try.prog.godebug = none := by kernel_rfl

/-! ### STEP 1: THE WALK: the Go text returns true. 'Grown w w'': the world has at most new blocks (Derived/RowKit3.lean). Part the cases AHEAD of 'go_enter' where a test parts the walk; take each callee by a contract of your own. -/
set_option maxHeartbeats 1000000 in
theorem walk (a0 : Int) (w0 : (Lit.int .i64 a0).wf = true) (w : World) :
    Calls Try.prog 5 #[.int .i64 a0] w fun e w' => e = .returned (.bool true) ∧ Below w.heap.size w w' := by
  by_cases c1 : a0 = 1
  · subst c1
    have hM : fitM 1 = 1 := rfl
    go_enter Try.func5, Try.ntmps5
    go_wp2_with fail
    refine (awake_any _).mono ?_
    rintro e wa ⟨rfl, hba⟩
    have HB := Lib.hid hba
    clear hba
    go_wp2_with fail
    refine (of_any (1) _).mono ?_
    rintro e wb ⟨rfl, hd1, ho1⟩
    rw [hM] at hd1
    have HO1 := Lib.hid (HB.out.trans (ho1.below HB.out.size (by simp)))
    have hsz := HB.out.size
    have hlt1 : wa.heap.size < wb.heap.size := (Array.getElem?_eq_some_iff.1 hd1.str).1
    clear ho1
    go_wp2_with fail
    refine (of_any 1 _).mono ?_
    rintro e wc ⟨rfl, he1, ho2⟩
    have hd2 := hd1.of_only ho2 (by simp) (by simp)
    have HO2 := Lib.hid (HO1.out.trans (ho2.below HO1.out.size (by simp)))
    clear ho2 hd1 HO1
    go_wp2_with fail
    refine (switch_any _ _ _ _ _ _ (1) _ he1).mono ?_
    rintro e wd ⟨rfl, he2, ho3⟩
    rw [hM] at he2
    have hd3 := hd2.of_only ho3 (by simp; omega) (by simp [Value.ownBlock])
    have HO3 := Lib.hid (HO2.out.trans (he1.below1 ho3 (by omega)))
    clear ho3 hd2 he1 HO2
    go_wp2_with fail
    refine (mode_any _ _ _ _ _ _ _ hd3).mono ?_
    rintro e wz ⟨rfl, rfl⟩
    go_wp2_with fail
    refine (put_any _ _ _ _ _ _ _ _ hd3 (by omega)).mono ?_
    rintro e we ⟨v2, rfl, hd4, ho4, _⟩
    have he3 := he2.of_only ho4 (by simp [Value.ownBlock]; omega) (by simp [Value.ownBlock])
    have HO4 := Lib.hid (HO3.out.trans (hd3.below ho4 (by omega)))
    clear ho4 hd3 he2 HO3
    go_wp2_with fail
    refine (mode_any _ _ _ _ _ _ _ he3).mono ?_
    rintro e wz ⟨rfl, rfl⟩
    go_wp2_with fail
    refine (len_any _ _ _ _ _ _ _ hd4).mono ?_
    rintro e wz ⟨rfl, rfl⟩
    go_wp2_with fail
    refine (segments_any _ _ _ _ _ _ _ he3).mono ?_
    rintro e wf ⟨v6, rfl, hown, ho6⟩
    obtain ⟨ao, ca, hv⟩ := own_slice hown
    rw [hv]
    have HO5 := Lib.hid (HO4.out.trans (ho6.below HO4.out.size (by simp)))
    clear hown ho6 hd4 he3 HO4 hv hM
    go_wp2
    go_ret
    exact ⟨rfl, HO5.out⟩
  · by_cases c2 : a0 = 2
    · subst c2
      have hM : fitM 2 = 2 := rfl
      go_enter Try.func5, Try.ntmps5
      go_wp2_with fail
      refine (awake_any _).mono ?_
      rintro e wa ⟨rfl, hba⟩
      have HB := Lib.hid hba
      clear hba
      go_wp2_with fail
      refine (of_any (2) _).mono ?_
      rintro e wb ⟨rfl, hd1, ho1⟩
      rw [hM] at hd1
      have HO1 := Lib.hid (HB.out.trans (ho1.below HB.out.size (by simp)))
      have hsz := HB.out.size
      have hlt1 : wa.heap.size < wb.heap.size := (Array.getElem?_eq_some_iff.1 hd1.str).1
      clear ho1
      go_wp2_with fail
      refine (of_any 1 _).mono ?_
      rintro e wc ⟨rfl, he1, ho2⟩
      have hd2 := hd1.of_only ho2 (by simp) (by simp)
      have HO2 := Lib.hid (HO1.out.trans (ho2.below HO1.out.size (by simp)))
      clear ho2 hd1 HO1
      go_wp2_with fail
      refine (switch_any _ _ _ _ _ _ (2) _ he1).mono ?_
      rintro e wd ⟨rfl, he2, ho3⟩
      rw [hM] at he2
      have hd3 := hd2.of_only ho3 (by simp; omega) (by simp [Value.ownBlock])
      have HO3 := Lib.hid (HO2.out.trans (he1.below1 ho3 (by omega)))
      clear ho3 hd2 he1 HO2
      go_wp2_with fail
      refine (mode_any _ _ _ _ _ _ _ hd3).mono ?_
      rintro e wz ⟨rfl, rfl⟩
      go_wp2_with fail
      refine (put_any _ _ _ _ _ _ _ _ hd3 (by omega)).mono ?_
      rintro e we ⟨v2, rfl, hd4, ho4, _⟩
      have he3 := he2.of_only ho4 (by simp [Value.ownBlock]; omega) (by simp [Value.ownBlock])
      have HO4 := Lib.hid (HO3.out.trans (hd3.below ho4 (by omega)))
      clear ho4 hd3 he2 HO3
      go_wp2_with fail
      refine (mode_any _ _ _ _ _ _ _ he3).mono ?_
      rintro e wz ⟨rfl, rfl⟩
      go_wp2_with fail
      refine (len_any _ _ _ _ _ _ _ hd4).mono ?_
      rintro e wz ⟨rfl, rfl⟩
      go_wp2_with fail
      refine (segments_any _ _ _ _ _ _ _ he3).mono ?_
      rintro e wf ⟨v6, rfl, hown, ho6⟩
      obtain ⟨ao, ca, hv⟩ := own_slice hown
      rw [hv]
      have HO5 := Lib.hid (HO4.out.trans (ho6.below HO4.out.size (by simp)))
      clear hown ho6 hd4 he3 HO4 hv hM
      go_wp2
      go_ret
      exact ⟨rfl, HO5.out⟩
    · have hM : fitM a0 = 0 := by unfold fitM; rw [if_neg c1, if_neg c2]
      have d1 : (a0 == 1) = false := by simpa using c1
      have d2 : (a0 == 2) = false := by simpa using c2
      clear c1 c2
      go_enter Try.func5, Try.ntmps5
      go_wp2_with fail
      refine (awake_any _).mono ?_
      rintro e wa ⟨rfl, hba⟩
      have HB := Lib.hid hba
      clear hba
      go_wp2_with fail
      refine (of_any (a0) _).mono ?_
      rintro e wb ⟨rfl, hd1, ho1⟩
      rw [hM] at hd1
      have HO1 := Lib.hid (HB.out.trans (ho1.below HB.out.size (by simp)))
      have hsz := HB.out.size
      have hlt1 : wa.heap.size < wb.heap.size := (Array.getElem?_eq_some_iff.1 hd1.str).1
      clear ho1
      go_wp2_with fail
      refine (of_any 1 _).mono ?_
      rintro e wc ⟨rfl, he1, ho2⟩
      have hd2 := hd1.of_only ho2 (by simp) (by simp)
      have HO2 := Lib.hid (HO1.out.trans (ho2.below HO1.out.size (by simp)))
      clear ho2 hd1 HO1
      go_wp2_with fail
      refine (switch_any _ _ _ _ _ _ (a0) _ he1).mono ?_
      rintro e wd ⟨rfl, he2, ho3⟩
      rw [hM] at he2
      have hd3 := hd2.of_only ho3 (by simp; omega) (by simp [Value.ownBlock])
      have HO3 := Lib.hid (HO2.out.trans (he1.below1 ho3 (by omega)))
      clear ho3 hd2 he1 HO2
      go_wp2_with fail
      refine (mode_any _ _ _ _ _ _ _ hd3).mono ?_
      rintro e wz ⟨rfl, rfl⟩
      go_wp2_with fail
      refine (put_any _ _ _ _ _ _ _ _ hd3 (by omega)).mono ?_
      rintro e we ⟨v2, rfl, hd4, ho4, _⟩
      have he3 := he2.of_only ho4 (by simp [Value.ownBlock]; omega) (by simp [Value.ownBlock])
      have HO4 := Lib.hid (HO3.out.trans (hd3.below ho4 (by omega)))
      clear ho4 hd3 he2 HO3
      go_wp2_with fail
      refine (mode_any _ _ _ _ _ _ _ he3).mono ?_
      rintro e wz ⟨rfl, rfl⟩
      go_wp2_with fail
      refine (len_any _ _ _ _ _ _ _ hd4).mono ?_
      rintro e wz ⟨rfl, rfl⟩
      go_wp2_with fail
      refine (segments_any _ _ _ _ _ _ _ he3).mono ?_
      rintro e wf ⟨v6, rfl, hown, ho6⟩
      obtain ⟨ao, ca, hv⟩ := own_slice hown
      rw [hv]
      have HO5 := Lib.hid (HO4.out.trans (ho6.below HO4.out.size (by simp)))
      clear hown ho6 hd4 he3 HO4 hv hM
      go_wp2
      go_ret
      exact ⟨rfl, HO5.out⟩

/-! ### THE ROW's STEP: WRITTEN OUT: LEAVE IT -/
set_option maxRecDepth 100000 in
theorem lifted (os : Os) (started : os.Started) (H : Type) (enc : TypeId × Value → H) :
    ReturnsInHanded {} Try.checked os 5 .any (Rows.demuxModeSpec.pre6 enc Try.prog Try.f5 Rows.demuxModeRow.domain false) (Rows.demuxModeSpec.post enc Try.prog Try.f5 false true false false) := by
  refine returnsInHanded_of_change (C := Try.checked) own started (by kernel_rfl) Try.func5
    (ChangeSpec.witness6 (enc := enc) (C := Try.checked) false ⟨#[], #[.int .i64 0], []⟩ 8 (by kernel_rfl) (by kernel_rfl) (by kernel_rfl) (by kernel_rfl)) ?_
  intro W base args ds gs before hval0 hW hcnd _
  have hval : ∀ (j : Nat) t v, Try.f5.params[j]? = some t → args[j]? = some v → Value.okWide Try.prog W .any base t v := hval0
  have hW' := hW
  obtain ⟨p, q, hA0, hV, rfl, hfz, hnd⟩ := hW
  have hA : DataW.TrodAll enc Try.prog W 0 (fun _ => true) true Try.f5.params.toList args.toList ds p := hA0
  rw [Try.params5] at hA hval
  obtain ⟨v0, vs0, d0, ds0, p0, q0, hargs, rfl, rfl, h0, r0⟩ := trodAll_cons hA
  obtain ⟨rfl, rfl, rfl⟩ := trodAll_nil r0
  obtain rfl : args = #[v0] := by cases args; simp_all
  obtain ⟨rfl, rfl⟩ := trodVars_none hV
  obtain ⟨a0, rfl, rfl, rfl, w0⟩ := open_int Try.underlying3 (hval 0 3 v0 rfl rfl) h0
  clear hA0 hval0
  simp only [List.append_nil] at hW'
  refine (walk a0 w0 W).mono fun e W' ⟨he, bel⟩ => ?_
  subst he
  exact ⟨_, rfl, _, _, _, [], _, [], hW', trodAll_mk1 (shut_bool Try.underlying4 _), (trodAll_cons_mk (shut_int Try.underlying3 w0) trodAll_mk0), rfl, bel.frame _, fun h => by cases h⟩

theorem over : Rows.demuxModeRow.holds Try.pinned (OpenSpec.ofChange Rows.demuxModeSpec) :=
  OpenClaim.holds_of_wide 5 Try.f5 rfl rfl rfl rfl rfl rfl rfl ⟨rfl, rfl, rfl, rfl, rfl⟩ rfl rfl rfl rfl rfl (by kernel_rfl) Try.func5 (by kernel_rfl)
    (of_decide_eq_true (by kernel_rfl)) (by unfold Func.isWrapper; first | (rw [if_pos (by decide +kernel)]; kernel_rfl) | (rw [if_neg (by decide +kernel)]; exact ⟨rfl, rfl⟩))
    (fun os started H enc _ => lifted os started H enc)

/-- ████ THE STATEMENT ████ -/
theorem proved : Rows.DemuxModeSaid :=
  over
#print axioms proved
end Go.Proofs.Ytmikfnnaiojpiaa.demuxMode
