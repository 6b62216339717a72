/- The law RingRound is proved: however often the ring goes round, each byte comes out that went in. Conditions: none. -/
import Derived.Test.YtfnglidobljlgaaRows
import Derived.Test.YtfnglidobljlgaaAwake
import Derived.WalkKit
import Derived.ProofKit
import Derived.OpenShut
import Derived.ShutString
namespace Go.Proofs.Ytfnglidobljlgaa.ringRound
open Go.ChangeShapes Go.WideShapes Go.ChangeAt Go.RowKit
open Go.ChangeMaps (open_string shut_string)
set_option linter.unusedVariables false      -- a walk need not use every 'w<i>' (that an integer argument fits its kind)

theorem own : ownKnob Try.prog.godebug = none := by kernel_rfl

/-! ### STEP 1: THE WALK: the Go text returns true. 'Grown w w'': the world has at most new blocks (Derived/RowKit3.lean). Part the cases AHEAD of 'go_enter' where a test parts the walk; take each callee by a contract of your own. -/
set_option maxHeartbeats 1000000 in
theorem walk (a0 : Int) (a1 : Int) (w0 : (Lit.int .u8 a0).wf = true) (w1 : (Lit.int .u16 a1).wf = true) (w : World) :
    Calls Try.prog 5 #[.int .u8 a0, .int .u16 a1] w fun e w' => e = .returned (.bool true) ∧ Below w.heap.size w w' := by
  obtain ⟨l0, u0⟩ := u8_bd w0
  obtain ⟨l1, u1⟩ := u16_bd w1
  obtain ⟨n, rfl⟩ := Int.eq_ofNat_of_zero_le l0
  obtain ⟨m, rfl⟩ := Int.eq_ofNat_of_zero_le l1
  have hc : capOf ((n : Int) % 20 + 2) = n % 20 + 2 := by unfold capOf; rw [if_neg (by omega), if_pos (by omega)]; omega
  go_enter Try.func5, Try.ntmps5
  go_wp2_with fail
  refine (awake_any _).mono ?_
  rintro e wa ⟨rfl, hba⟩
  have HB := Lib.hid hba
  clear hba
  go_wp2_with fail
  refine (of_any ((n : Int) % 20 + 2) _).mono ?_
  rintro e w1 ⟨rfl, hr1, ho1⟩
  rw [hc] at hr1
  have HO1 := Lib.hid (ho1.weaken (cs := [wa.heap.size, wa.heap.size + 1]) (by simp))
  clear ho1
  go_wp2_with fail
  clear hc
  go_loopw [6] (fun k wr => ∃ i at_ : Nat, i ≤ m % 2000 ∧ k = .int .i64 i ∧ Ringed wr wa.heap.size (wa.heap.size + 1) (n % 20 + 2) at_ [] 0 ∧ Only [wa.heap.size, wa.heap.size + 1] wa wr) (fun k _ => m % 2000 - (intOf k).toNat)
  case atStart => exact ⟨0, 0, by omega, rfl, hr1, HO1.out⟩
  case round =>
    obtain ⟨i, at_, hi, rfl, hr, ho⟩ := hrel
    by_cases hlt : i < m % 2000
    · have hx := byte_of i
      have hy : ((UInt8.ofNat (i + 1)).toNat : Int) = ((i : Int) + 1) % 256 := by rw [byte_of]; simp
      go_wp2_with fail
      refine (put_fit _ _ _ _ [] 0 _ [UInt8.ofNat i, UInt8.ofNat (i + 1)] 2 2 _ (hr.alloc _) (bytes2i wr _ _ _ _ hx hy) (.inr (awayNew hr)) rfl (by omega) (by omega) (by omega) (by omega) 2 (by simp) _ rfl 0 rfl).mono ?_
      rintro e w2 ⟨rfl, hr2, ho2⟩
      have HO2 := Lib.hid ho2
      clear ho2 hr
      go_wp2_with fail
      refine (take_some _ _ _ _ _ _ 2 2 _ hr2 (.inl ⟨rfl, by simp⟩) (by omega)).mono ?_
      rintro e w3 ⟨g, c, rfl, hg, hc, hown, hr3, ho3⟩
      have c0 : w3.cell? ⟨g, 0, none⟩ = some (.int .u8 ((i : Int) % 256)) := by rw [hown.cellAt 0 (by omega), ← hx]; rfl
      have c1 : w3.cell? ⟨g, 1, none⟩ = some (.int .u8 (((i : Int) + 1) % 256)) := by rw [hown.cellAt 1 (by omega), ← hy]; rfl
      have HO3 := Lib.hid ho3
      have HR3 := Lib.hid hr3
      have HOO := Lib.hid ho
      clear ho3 hr2 hown hx hy hr3 ho
      go_wp2
      go_roundw
      case rel => exact ⟨i + 1, _, by omega, by go_num, HR3.out, ((HOO.out.alloc _).trans HO2.out).trans HO3.out⟩
      case measure => simp [intOf]; omega
    · go_wp2_with fail
      refine (len_any _ _ _ _ _ _ _ hr).mono ?_
      rintro e w3 ⟨rfl, rfl⟩
      go_wp2_with fail
      refine (lost_any _ _ _ _ _ _ _ hr).mono ?_
      rintro e w3 ⟨rfl, rfl⟩
      have HOO := Lib.hid ho
      clear hr ho
      go_wp2
      go_ret
      exact ⟨rfl, HB.out.trans (HOO.out.below HB.out.size (by have := HB.out.size; simp; omega))⟩

/-! ### THE ROW's STEP: WRITTEN OUT: LEAVE IT -/
set_option maxRecDepth 100000 in
theorem lifted (os : Os) (started : os.Started) (H : Type) (enc : TypeId × Value → H) :
    ReturnsInHanded {} Try.checked os 5 .any (Rows.ringRoundSpec.pre6 enc Try.prog Try.f5 Rows.ringRoundRow.domain false) (Rows.ringRoundSpec.post enc Try.prog Try.f5 false true false false) := by
  refine returnsInHanded_of_change (C := Try.checked) own started (by kernel_rfl) Try.func5
    (ChangeSpec.witness6 (enc := enc) (C := Try.checked) false ⟨#[], #[.int .u8 0, .int .u16 0], []⟩ 8 (by kernel_rfl) (by kernel_rfl) (by kernel_rfl) (by kernel_rfl)) ?_
  intro W base args ds gs before hval0 hW hcnd _
  have hval : ∀ (j : Nat) t v, Try.f5.params[j]? = some t → args[j]? = some v → Value.okWide Try.prog W .any base t v := hval0
  have hW' := hW
  obtain ⟨p, q, hA0, hV, rfl, hfz, hnd⟩ := hW
  have hA : DataW.TrodAll enc Try.prog W 0 (fun _ => true) true Try.f5.params.toList args.toList ds p := hA0
  rw [Try.params5] at hA hval
  obtain ⟨v0, vs0, d0, ds0, p0, q0, hargs, rfl, rfl, h0, r0⟩ := trodAll_cons hA
  obtain ⟨v1, vs1, d1, ds1, p1, q1, rfl, rfl, rfl, h1, r1⟩ := trodAll_cons r0
  obtain ⟨rfl, rfl, rfl⟩ := trodAll_nil r1
  obtain rfl : args = #[v0, v1] := by cases args; simp_all
  obtain ⟨rfl, rfl⟩ := trodVars_none hV
  obtain ⟨a0, rfl, rfl, rfl, w0⟩ := open_int Try.underlying5 (hval 0 5 v0 rfl rfl) h0
  obtain ⟨a1, rfl, rfl, rfl, w1⟩ := open_int Try.underlying32 (hval 1 32 v1 rfl rfl) h1
  clear hA0 hval0
  simp only [List.append_nil] at hW'
  refine (walk a0 a1 w0 w1 W).mono fun e W' ⟨he, bel⟩ => ?_
  subst he
  exact ⟨_, rfl, _, _, _, [], _, [], hW', trodAll_mk1 (shut_bool Try.underlying4 _), (trodAll_cons_mk (shut_int Try.underlying5 w0) (trodAll_cons_mk (shut_int Try.underlying32 w1) trodAll_mk0)), rfl, bel.frame _, fun h => by cases h⟩

theorem over : Rows.ringRoundRow.holds Try.pinned (OpenSpec.ofChange Rows.ringRoundSpec) :=
  OpenClaim.holds_of_wide 5 Try.f5 rfl rfl rfl rfl rfl rfl rfl ⟨rfl, rfl, rfl, rfl, rfl⟩ rfl rfl rfl rfl rfl (by kernel_rfl) Try.func5 (by kernel_rfl)
    (of_decide_eq_true (by kernel_rfl)) (by unfold Func.isWrapper; first | (rw [if_pos (by decide +kernel)]; kernel_rfl) | (rw [if_neg (by decide +kernel)]; exact ⟨rfl, rfl⟩))
    (fun os started H enc _ => lifted os started H enc)

/-- ████ THE STATEMENT ████ -/
theorem proved : Rows.RingRoundSaid :=
  over
#print axioms proved
end Go.Proofs.Ytfnglidobljlgaa.ringRound
