/- The law RingRoom is proved: a ring has room for one byte at least, for 4096 at most, and starts empty. Conditions: none. -/
import Derived.Test.YtfnglidobljlgaaRows
import Derived.Test.YtfnglidobljlgaaAwake
import Derived.WalkKit
import Derived.ProofKit
import Derived.OpenShut
import Derived.ShutString
namespace Go.Proofs.Ytfnglidobljlgaa.ringRoom
open Go.ChangeShapes Go.WideShapes Go.ChangeAt Go.RowKit
open Go.ChangeMaps (open_string shut_string)
set_option linter.unusedVariables false      -- a walk need not use every 'w<i>' (that an integer argument fits its kind)

theorem own : ownKnob Try.prog.godebug = none := by kernel_rfl

/-! ### STEP 1: THE WALK: the Go text returns true. 'Grown w w'': the world has at most new blocks (Derived/RowKit3.lean). Part the cases AHEAD of 'go_enter' where a test parts the walk; take each callee by a contract of your own. -/
set_option maxHeartbeats 1000000 in
theorem walk (a0 : Int) (w0 : (Lit.int .i64 a0).wf = true) (w : World) :
    Calls Try.prog 8 #[.int .i64 a0] w fun e w' => e = .returned (.bool true) ∧ Below w.heap.size w w' := by
  by_cases c1 : a0 ≤ 1
  · have hc : ((capOf a0 : Nat) : Int) = 1 := by unfold capOf; rw [if_pos c1]; rfl
    go_enter Try.func8, Try.ntmps8
    go_wp2_with fail
    refine (awake_any _).mono ?_
    rintro e wa ⟨rfl, hba⟩
    have HB := Lib.hid hba
    clear hba
    go_wp2_with fail
    refine (of_any a0 _).mono ?_
    rintro e w1 ⟨rfl, hr1, ho1⟩
    have HO1 := Lib.hid ho1
    clear ho1
    go_wp2_with fail
    refine (room_kept _ _ _ _ _ _ _ hr1).mono ?_
    rintro e w2 ⟨rfl, hr2, ho2⟩
    have HO2 := Lib.hid ho2
    clear ho2 hr1
    go_wp2_with fail
    refine (len_any _ _ _ _ _ _ _ hr2).mono ?_
    rintro e w3 ⟨rfl, rfl⟩
    go_wp2_with fail
    refine (lost_any _ _ _ _ _ _ _ hr2).mono ?_
    rintro e w3 ⟨rfl, rfl⟩
    go_wp2_with fail
    refine (take_none _ _ _ _ _ a0 _ hr2).mono ?_
    rintro e w3 ⟨a, c, rfl, ho3⟩
    have HO3 := Lib.hid ho3
    clear ho3
    go_wp2
    go_ret
    exact ⟨rfl, HB.out.trans ((((HO1.out.weaken (by simp)).trans (HO2.out.weaken (by simp))).trans HO3.out).below HB.out.size (by have := HB.out.size; simp; omega))⟩
  · by_cases c2 : a0 ≤ 4096
    · have hc : ((capOf a0 : Nat) : Int) = a0 := by unfold capOf; rw [if_neg c1, if_pos c2]; omega
      go_enter Try.func8, Try.ntmps8
      go_wp2_with fail
      refine (awake_any _).mono ?_
      rintro e wa ⟨rfl, hba⟩
      have HB := Lib.hid hba
      clear hba
      go_wp2_with fail
      refine (of_any a0 _).mono ?_
      rintro e w1 ⟨rfl, hr1, ho1⟩
      have HO1 := Lib.hid ho1
      clear ho1
      go_wp2_with fail
      refine (room_kept _ _ _ _ _ _ _ hr1).mono ?_
      rintro e w2 ⟨rfl, hr2, ho2⟩
      have HO2 := Lib.hid ho2
      clear ho2 hr1
      go_wp2_with fail
      refine (len_any _ _ _ _ _ _ _ hr2).mono ?_
      rintro e w3 ⟨rfl, rfl⟩
      go_wp2_with fail
      refine (lost_any _ _ _ _ _ _ _ hr2).mono ?_
      rintro e w3 ⟨rfl, rfl⟩
      go_wp2_with fail
      refine (take_none _ _ _ _ _ a0 _ hr2).mono ?_
      rintro e w3 ⟨a, c, rfl, ho3⟩
      have HO3 := Lib.hid ho3
      clear ho3
      go_wp2
      go_ret
      exact ⟨rfl, HB.out.trans ((((HO1.out.weaken (by simp)).trans (HO2.out.weaken (by simp))).trans HO3.out).below HB.out.size (by have := HB.out.size; simp; omega))⟩
    · have hc : ((capOf a0 : Nat) : Int) = 4096 := by unfold capOf; rw [if_neg c1, if_neg c2]; rfl
      go_enter Try.func8, Try.ntmps8
      go_wp2_with fail
      refine (awake_any _).mono ?_
      rintro e wa ⟨rfl, hba⟩
      have HB := Lib.hid hba
      clear hba
      go_wp2_with fail
      refine (of_any a0 _).mono ?_
      rintro e w1 ⟨rfl, hr1, ho1⟩
      have HO1 := Lib.hid ho1
      clear ho1
      go_wp2_with fail
      refine (room_kept _ _ _ _ _ _ _ hr1).mono ?_
      rintro e w2 ⟨rfl, hr2, ho2⟩
      have HO2 := Lib.hid ho2
      clear ho2 hr1
      go_wp2_with fail
      refine (len_any _ _ _ _ _ _ _ hr2).mono ?_
      rintro e w3 ⟨rfl, rfl⟩
      go_wp2_with fail
      refine (lost_any _ _ _ _ _ _ _ hr2).mono ?_
      rintro e w3 ⟨rfl, rfl⟩
      go_wp2_with fail
      refine (take_none _ _ _ _ _ a0 _ hr2).mono ?_
      rintro e w3 ⟨a, c, rfl, ho3⟩
      have HO3 := Lib.hid ho3
      clear ho3
      go_wp2
      go_ret
      exact ⟨rfl, HB.out.trans ((((HO1.out.weaken (by simp)).trans (HO2.out.weaken (by simp))).trans HO3.out).below HB.out.size (by have := HB.out.size; simp; omega))⟩

/-! ### THE ROW's STEP: WRITTEN OUT: LEAVE IT -/
set_option maxRecDepth 100000 in
theorem lifted (os : Os) (started : os.Started) (H : Type) (enc : TypeId × Value → H) :
    ReturnsInHanded {} Try.checked os 8 .any (Rows.ringRoomSpec.pre6 enc Try.prog Try.f8 Rows.ringRoomRow.domain false) (Rows.ringRoomSpec.post enc Try.prog Try.f8 false true false false) := by
  refine returnsInHanded_of_change (C := Try.checked) own started (by kernel_rfl) Try.func8
    (ChangeSpec.witness6 (enc := enc) (C := Try.checked) false ⟨#[], #[.int .i64 0], []⟩ 8 (by kernel_rfl) (by kernel_rfl) (by kernel_rfl) (by kernel_rfl)) ?_
  intro W base args ds gs before hval0 hW hcnd _
  have hval : ∀ (j : Nat) t v, Try.f8.params[j]? = some t → args[j]? = some v → Value.okWide Try.prog W .any base t v := hval0
  have hW' := hW
  obtain ⟨p, q, hA0, hV, rfl, hfz, hnd⟩ := hW
  have hA : DataW.TrodAll enc Try.prog W 0 (fun _ => true) true Try.f8.params.toList args.toList ds p := hA0
  rw [Try.params8] at hA hval
  obtain ⟨v0, vs0, d0, ds0, p0, q0, hargs, rfl, rfl, h0, r0⟩ := trodAll_cons hA
  obtain ⟨rfl, rfl, rfl⟩ := trodAll_nil r0
  obtain rfl : args = #[v0] := by cases args; simp_all
  obtain ⟨rfl, rfl⟩ := trodVars_none hV
  obtain ⟨a0, rfl, rfl, rfl, w0⟩ := open_int Try.underlying3 (hval 0 3 v0 rfl rfl) h0
  clear hA0 hval0
  simp only [List.append_nil] at hW'
  refine (walk a0 w0 W).mono fun e W' ⟨he, bel⟩ => ?_
  subst he
  exact ⟨_, rfl, _, _, _, [], _, [], hW', trodAll_mk1 (shut_bool Try.underlying4 _), (trodAll_cons_mk (shut_int Try.underlying3 w0) trodAll_mk0), rfl, bel.frame _, fun h => by cases h⟩

theorem over : Rows.ringRoomRow.holds Try.pinned (OpenSpec.ofChange Rows.ringRoomSpec) :=
  OpenClaim.holds_of_wide 8 Try.f8 rfl rfl rfl rfl rfl rfl rfl ⟨rfl, rfl, rfl, rfl, rfl⟩ rfl rfl rfl rfl rfl (by kernel_rfl) Try.func8 (by kernel_rfl)
    (of_decide_eq_true (by kernel_rfl)) (by unfold Func.isWrapper; first | (rw [if_pos (by decide +kernel)]; kernel_rfl) | (rw [if_neg (by decide +kernel)]; exact ⟨rfl, rfl⟩))
    (fun os started H enc _ => lifted os started H enc)

/-- ████ THE STATEMENT ████ -/
theorem proved : Rows.RingRoomSaid :=
  over
#print axioms proved
end Go.Proofs.Ytfnglidobljlgaa.ringRoom
