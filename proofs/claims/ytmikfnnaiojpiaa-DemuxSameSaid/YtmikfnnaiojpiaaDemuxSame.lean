/- The law DemuxSame is proved: whose turn it is already may be switched to: the segment goes on. Conditions: none. -/
import Derived.Test.YtmikfnnaiojpiaaRows
import Derived.Test.YtmikfnnaiojpiaaAwake
import Derived.WalkKit
import Derived.ProofKit
import Derived.OpenShut
import Derived.ShutString
namespace Go.Proofs.Ytmikfnnaiojpiaa.demuxSame
open Go.ChangeShapes Go.WideShapes Go.ChangeAt Go.RowKit
open Go.ChangeMaps (open_string shut_string)
set_option linter.unusedVariables false      -- a walk need not use every 'w<i>' (that an integer argument fits its kind)

theorem own : ownKnob Try.prog.godebug = none := by kernel_rfl

def sameSegs (M i : Nat) : List Seg := if i = 0 then [] else [⟨M, 0, i⟩]

theorem sameSegs_push (M i : Nat) : pushSeg (sameSegs M i) M i = sameSegs M (i + 1) := by
  unfold sameSegs
  rw [if_neg (show ¬ i + 1 = 0 by omega)]
  split
  · rename_i h; subst h; rfl
  · simp [pushSeg]

/-! ### STEP 1: THE WALK: the Go text returns true. 'Grown w w'': the world has at most new blocks (Derived/RowKit3.lean). Part the cases AHEAD of 'go_enter' where a test parts the walk; take each callee by a contract of your own. -/
set_option maxHeartbeats 1000000 in
theorem walk (a0 : Int) (a1 : Int) (w0 : (Lit.int .u8 a0).wf = true) (w1 : (Lit.int .u8 a1).wf = true) (w : World) :
    Calls Try.prog 3 #[.int .u8 a0, .int .u8 a1] w fun e w' => e = .returned (.bool true) ∧ Below w.heap.size w w' := by
  obtain ⟨l0, u0⟩ := u8_bd w0
  obtain ⟨l1, u1⟩ := u8_bd w1
  obtain ⟨n, rfl⟩ := Int.eq_ofNat_of_zero_le l0
  obtain ⟨m, rfl⟩ := Int.eq_ofNat_of_zero_le l1
  obtain ⟨M, hMd⟩ : ∃ M, M = m % 3 := ⟨_, rfl⟩
  have hMi : (m : Int) % 3 = (M : Int) := by omega
  have hM3 : M < 3 := by omega
  have hM : fitM (M : Int) = M := by unfold fitM; split <;> (try split) <;> omega
  have HM := Lib.hid hM
  have HMd := Lib.hid hMd
  clear hMd hM
  go_enter Try.func3, Try.ntmps3
  go_wp2_with fail
  refine (awake_any _).mono ?_
  rintro e wa ⟨rfl, hba⟩
  have HB := Lib.hid hba
  clear hba
  go_wp2_with fail
  refine (of_any (M : Int) _).mono ?_
  rintro e wb ⟨rfl, hd1, ho1⟩
  rw [HM.out] at hd1
  have HO1 := Lib.hid (HB.out.trans (ho1.below HB.out.size (by simp)))
  have hsz := HB.out.size
  clear ho1
  go_wp2_with fail
  go_loopw [7] (fun k wr => ∃ (i : Nat) (v : Value), i ≤ n ∧ k = .int .i64 i ∧ Demuxed wr wa.heap.size (wa.heap.size + 1) v M i (sameSegs M i) ∧ Below w.heap.size w wr) (fun k _ => n - (intOf k).toNat)
  case atStart => exact ⟨0, _, by omega, rfl, hd1, HO1.out⟩
  case round =>
    obtain ⟨i, v, hi, rfl, hd, hb⟩ := hrel
    by_cases hlt : i < n
    · go_wp2_with fail
      refine (switch_any _ _ _ _ _ _ (M : Int) _ hd).mono ?_
      rintro e wd ⟨rfl, hd2, ho2⟩
      rw [HM.out] at hd2
      have HO2 := Lib.hid (hb.trans (hd.below1 ho2 (by omega)))
      clear ho2 hd hb
      go_wp2_with fail
      refine (put_any _ _ _ _ _ _ _ _ hd2 (by omega)).mono ?_
      rintro e we ⟨v2, rfl, hd3, ho3, _⟩
      rw [sameSegs_push] at hd3
      have HO3 := Lib.hid (And.intro (HO2.out.trans (hd2.below ho3 (by omega))) hd3)
      clear ho3 hd2 hd3 HO2
      go_wp2
      go_roundw
      case rel => exact ⟨i + 1, _, by omega, by go_num, HO3.out.2, HO3.out.1⟩
      case measure => simp [intOf]; omega
    · obtain rfl : i = n := by omega
      go_wp2_with fail
      refine (segments_any _ _ _ _ _ _ _ hd).mono ?_
      rintro e wf ⟨v6, rfl, hown, ho6⟩
      have HO5 := Lib.hid (hb.trans (ho6.below hb.size (by simp)))
      clear ho6 hd hb
      by_cases h0 : i = 0
      · subst h0
        obtain ⟨ao, ca, hv⟩ := own_slice hown
        rw [show (sameSegs M 0).length = 0 from rfl] at hv
        rw [hv]
        clear hown hv
        go_wp2
        go_ret
        exact ⟨rfl, HO5.out⟩
      · have hl : (sameSegs M i).length = 1 := by unfold sameSegs; rw [if_neg h0]; rfl
        have hs : sameSegs M i = [⟨M, 0, i⟩] := by unfold sameSegs; rw [if_neg h0]
        rw [hl] at hown
        obtain ⟨g, c6, hv, hg, hgl, hc6⟩ := own_form hown (by omega)
        rw [hv] at hown ⊢
        rw [hs] at hown
        obtain ⟨x0, x1, x2⟩ := row_cell hown rfl 0 _ rfl
        have h0' : ((i : Int) == 0) = false := by simpa using h0
        clear hown hv hl hs h0
        go_wp2
        go_ret
        exact ⟨rfl, HO5.out⟩

/-! ### THE ROW's STEP: WRITTEN OUT: LEAVE IT -/
set_option maxRecDepth 100000 in
theorem lifted (os : Os) (started : os.Started) (H : Type) (enc : TypeId × Value → H) :
    ReturnsInHanded {} Try.checked os 3 .any (Rows.demuxSameSpec.pre6 enc Try.prog Try.f3 Rows.demuxSameRow.domain false) (Rows.demuxSameSpec.post enc Try.prog Try.f3 false true false false) := by
  refine returnsInHanded_of_change (C := Try.checked) own started (by kernel_rfl) Try.func3
    (ChangeSpec.witness6 (enc := enc) (C := Try.checked) false ⟨#[], #[.int .u8 0, .int .u8 0], []⟩ 8 (by kernel_rfl) (by kernel_rfl) (by kernel_rfl) (by kernel_rfl)) ?_
  intro W base args ds gs before hval0 hW hcnd _
  have hval : ∀ (j : Nat) t v, Try.f3.params[j]? = some t → args[j]? = some v → Value.okWide Try.prog W .any base t v := hval0
  have hW' := hW
  obtain ⟨p, q, hA0, hV, rfl, hfz, hnd⟩ := hW
  have hA : DataW.TrodAll enc Try.prog W 0 (fun _ => true) true Try.f3.params.toList args.toList ds p := hA0
  rw [Try.params3] at hA hval
  obtain ⟨v0, vs0, d0, ds0, p0, q0, hargs, rfl, rfl, h0, r0⟩ := trodAll_cons hA
  obtain ⟨v1, vs1, d1, ds1, p1, q1, rfl, rfl, rfl, h1, r1⟩ := trodAll_cons r0
  obtain ⟨rfl, rfl, rfl⟩ := trodAll_nil r1
  obtain rfl : args = #[v0, v1] := by cases args; simp_all
  obtain ⟨rfl, rfl⟩ := trodVars_none hV
  obtain ⟨a0, rfl, rfl, rfl, w0⟩ := open_int Try.underlying5 (hval 0 5 v0 rfl rfl) h0
  obtain ⟨a1, rfl, rfl, rfl, w1⟩ := open_int Try.underlying5 (hval 1 5 v1 rfl rfl) h1
  clear hA0 hval0
  simp only [List.append_nil] at hW'
  refine (walk a0 a1 w0 w1 W).mono fun e W' ⟨he, bel⟩ => ?_
  subst he
  exact ⟨_, rfl, _, _, _, [], _, [], hW', trodAll_mk1 (shut_bool Try.underlying4 _), (trodAll_cons_mk (shut_int Try.underlying5 w0) (trodAll_cons_mk (shut_int Try.underlying5 w1) trodAll_mk0)), rfl, bel.frame _, fun h => by cases h⟩

theorem over : Rows.demuxSameRow.holds Try.pinned (OpenSpec.ofChange Rows.demuxSameSpec) :=
  OpenClaim.holds_of_wide 3 Try.f3 rfl rfl rfl rfl rfl rfl rfl ⟨rfl, rfl, rfl, rfl, rfl⟩ rfl rfl rfl rfl rfl (by kernel_rfl) Try.func3 (by kernel_rfl)
    (of_decide_eq_true (by kernel_rfl)) (by unfold Func.isWrapper; first | (rw [if_pos (by decide +kernel)]; kernel_rfl) | (rw [if_neg (by decide +kernel)]; exact ⟨rfl, rfl⟩))
    (fun os started H enc _ => lifted os started H enc)

/-- ████ THE STATEMENT ████ -/
theorem proved : Rows.DemuxSameSaid :=
  over
#print axioms proved
end Go.Proofs.Ytmikfnnaiojpiaa.demuxSame
