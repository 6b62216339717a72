/- The law RingParts is proved: in two parts as much has room, and is lost, as at once. Conditions: none. -/
import Derived.Test.YtfnglidobljlgaaRows
import Derived.Test.YtfnglidobljlgaaApp
import Derived.Deep.RegionWith
import Derived.Deep.DeepCutAuto
import Derived.WalkKit
import Derived.ProofKit
import Derived.OpenShut
import Derived.ShutString
import Derived.ChangeOld
import Derived.Below
namespace Go.Proofs.Ytfnglidobljlgaa.ringParts
open Go.ChangeShapes Go.WideShapes Go.ChangeAt Go.RowKit
open Go.ChangeMaps (open_string shut_string)
set_option linter.unusedVariables false

theorem own : ownKnob Try.prog.godebug = none := by kernel_rfl
theorem laidOut : laidOutB Try.prog = true := by kernel_rfl

/-- WHAT THE WALK IS TOLD OF A SLICE OF INTEGERS THAT CAME IN: it is nil; or it leads to a row of 'cap' cells, the numbers 'zs' (the first 'len' are its elements, the rest its spare room), each fitting its kind. -/
def IsRow (k : IntKind) (w : World) (a : Option Addr) (len cap : Nat) (zs : List Int) : Prop :=
  (a = none ∧ len = 0 ∧ cap = 0 ∧ zs = []) ∨
  ∃ x, a = some x ∧ len ≤ cap ∧ cap ≤ maxLen ∧ zs.length = cap ∧ (∀ i, i < zs.length → w.cell? (x.add i) = some (.int k (zs.getD i 0))) ∧ ∀ n ∈ zs, (Lit.int k n).wf = true

/-! ### STEP 1: THE WALK: the Go text returns true, AND WRITES NOTHING THAT WAS THERE: 'Below w.heap.size w w'' (Derived/Below.lean: '.refl', '.alloc', '.drew', '.setCell' at a new block, '.trans'). Open each 'IsRow' by 'rcases' AHEAD of 'go_enter'; part every test ahead of the walk. -/
theorem cut_of (a : Int) (len : Nat) (h0 : 0 ≤ a) (h1 : a ≤ 255) (hl : len ≤ 9223372036854775807) : ∃ (L : Int) (k : Nat), wrap64 ((len : Int) + 1) = L ∧ ¬ L = 0 ∧ a.tmod L = (k : Int) ∧ k ≤ len := by
  obtain ⟨n, rfl⟩ := Int.eq_ofNat_of_zero_le h0
  by_cases h : len = 9223372036854775807
  · refine ⟨-9223372036854775808, n, ?_, by omega, ?_, by omega⟩
    · rw [h]; unfold wrap64; omega
    · have hn : n < 9223372036854775808 := by omega
      show ((n % 9223372036854775808 : Nat) : Int) = n
      rw [Nat.mod_eq_of_lt hn]
  · refine ⟨(len : Int) + 1, n % (len + 1), ?_, by omega, ?_, ?_⟩
    · unfold wrap64; omega
    · rw [Int.tmod_eq_emod_of_nonneg (by omega)]; simp
    · have := Nat.mod_lt n (show 0 < len + 1 by omega); omega

set_option maxHeartbeats 1000000 in
theorem walk (a0 : Int) (a1 : Option Addr) (len1 cap1 : Nat) (z1 : List Int) (a2 : Int) (w : World) (w0 : (Lit.int .u8 a0).wf = true) (w1 : IsRow .u8 w a1 len1 cap1 z1) (w2 : (Lit.int .u8 a2).wf = true) :
    Calls Try.prog 4 #[.int .u8 a0, .slice a1 len1 cap1, .int .u8 a2] w fun e w' => e = .returned (.bool true) ∧ Below w.heap.size w w' := by
  obtain ⟨l0, u0⟩ := u8_bd w0
  obtain ⟨l2, u2⟩ := u8_bd w2
  obtain ⟨bs, hbl, hbb, hlc, hcm, hnil, hlt⟩ := row_bytes w1
  unfold maxLen at hcm
  obtain ⟨Lw, k, hLw, hL0, hk, hkl⟩ := cut_of a2 len1 l2 u2 (by omega)
  obtain ⟨C, hC⟩ : ∃ C, C = capOf a0 := ⟨_, rfl⟩
  have hC4 : 0 < C ∧ C ≤ 255 := by rw [hC]; unfold capOf; split <;> (try split) <;> omega
  obtain ⟨at_, hat⟩ : ∃ t, t = (if cap1 = k then a1 else a1.map (·.add (k * 1))) := ⟨_, rfl⟩
  have hsl1 := fun w => run_head Try.prog w 26 a1 len1 cap1 k Try.elem26 1 Try.size5 (by omega) .i64
  have hsl2 := fun w => run_tail Try.prog w 26 a1 len1 cap1 k Try.elem26 1 Try.size5 hkl .i64
  rw [← hat] at hsl2
  have hnil2 : at_ = none → cap1 - k = 0 := by
    rw [hat]; intro e
    split at e
    · omega
    · cases a1 with
      | none => have := hnil rfl; omega
      | some _ => simp at e
  have hpure := parts_pure bs k C (by omega)
  have HP := Lib.hid (And.intro hpure (And.intro hbl (And.intro hnil hnil2)))
  have HA := Lib.hid (And.intro hbb (And.intro hlt hat))
  have HC := Lib.hid hC
  clear hpure hbl hnil hnil2 hbb hlt hat hC w1
  go_enter Try.func4, Try.ntmps4
  go_wp2_with fail
  refine (awake_any _).mono ?_
  rintro e wa ⟨rfl, hba⟩
  go_wp2_with fail
  refine (of_any a0 _).mono ?_
  rintro e wb ⟨rfl, hr1, ho1⟩
  rw [← HC.out] at hr1
  go_wp2_with fail
  refine (of_any a0 _).mono ?_
  rintro e wc ⟨rfl, hr2, ho2⟩
  rw [← HC.out] at hr2
  have hlt1 := hr1.lt
  have hlt2 := hr2.lt
  have hr1' := hr1.of_only ho2 (by simp) (by simp)
  have hbc : Bytes wc a1 bs := ((HA.out.1.of_only (below_only (bs := []) hba (Nat.le_refl _)) (.inr (by intro ad e; simp))).of_only ho1 (.inr (by intro ad e; simp))).of_only ho2 (.inr (by intro ad e; simp))
  have haw : bs = [] ∨ Away a1 [wa.heap.size, wa.heap.size + 1] := HA.out.2.1.imp id (fun h ad e => by have := h ad e; have := hba.size; simp; omega)
  have haw2 : bs = [] ∨ Away a1 [wb.heap.size, wb.heap.size + 1] := HA.out.2.1.imp id (fun h ad e => by have := h ad e; have := hba.size; have := ho1.size; simp; omega)
  have hoc : Only [] wa wc := ho1.trans ho2
  have hsz := hba.size
  have HW := Lib.hid (And.intro hba (And.intro hr1' (And.intro hr2 (And.intro hbc (And.intro haw (And.intro haw2 hoc))))))
  clear hba hr1 ho1 hr2 ho2 hr1' hbc haw haw2 hoc
  go_wp2_with fail
  -- x.Put(b...)
  clear hLw hL0 hk
  obtain ⟨Fx, hFx⟩ : ∃ F, F = min len1 C := ⟨_, rfl⟩
  obtain ⟨qx, hqx⟩ : ∃ q, q = bs.take (min bs.length C) := ⟨_, rfl⟩
  obtain ⟨lx, hlx⟩ : ∃ l : Int, l = 0 + ((len1 : Int) - (Fx : Nat)) := ⟨_, rfl⟩
  have hqx' : qx = ([] : List UInt8) ++ bs.take Fx := by rw [hqx, hFx, HP.out.2.1]; rfl
  have hqlen : qx.length = Fx := by rw [hqx, hFx]; have := HP.out.2.1; simp; omega
  have HQ := Lib.hid (And.intro hqx (And.intro hqlen (And.intro hlx (And.intro hFx hqx'))))
  clear hqx hqx' hqlen hlx hFx
  refine (put_fit _ _ C 0 [] 0 a1 bs len1 cap1 _ HW.out.2.1 HW.out.2.2.2.1 HW.out.2.2.2.2.1 HP.out.2.1 (by omega) (by omega) (by omega) (by omega) Fx (by have := HQ.out.2.2.2.1; simpa using this) qx HQ.out.2.2.2.2 lx HQ.out.2.2.1).mono ?_
  rintro e wd ⟨rfl, hrx, hod⟩
  have hyd := HW.out.2.2.1.of_only hod (by simp; omega) (by simp; omega)
  have hbd := HW.out.2.2.2.1.of_only hod HW.out.2.2.2.2.1
  have HD := Lib.hid (And.intro hrx (And.intro hyd (And.intro hbd hod)))
  clear hrx hyd hbd hod
  go_upto_region 6 with fail
  -- y.Put(b[:k]...) + y.Put(b[k:]...)
  obtain ⟨F1, hF1⟩ : ∃ F, F = min k C := ⟨_, rfl⟩
  obtain ⟨q1, hq1⟩ : ∃ q, q = (bs.take k).take F1 := ⟨_, rfl⟩
  have hq1l : q1.length = F1 := by rw [hq1, hF1]; have := HP.out.2.1; simp; omega
  obtain ⟨F2, hF2⟩ : ∃ F, F = min (len1 - k) (C - F1) := ⟨_, rfl⟩
  obtain ⟨l1, hl1⟩ : ∃ l : Int, l = 0 + ((k : Int) - (F1 : Nat)) := ⟨_, rfl⟩
  have hsum : ((F1 : Int) + (F2 : Int)) = (Fx : Int) := by have := HQ.out.2.2.2.1; omega
  have hq2 : q1 ++ (bs.drop k).take F2 = qx := by
    have h := HP.out.1.2
    rw [← hF1, ← hq1, HP.out.2.1, hq1l, ← hF2, ← HP.out.2.1, ← HQ.out.1] at h
    exact h
  have hl2 : l1 + (((len1 - k : Nat) : Int) - (F2 : Nat)) = lx := by have h1 := HQ.out.2.2.1; have h2 := HQ.out.2.2.2.1; omega
  have HE := Lib.hid (And.intro hq1 (And.intro hq1l (And.intro hF2 (And.intro hl1 (And.intro hq2 (And.intro hl2 hF1))))))
  clear hq1 hq1l hF2 hl1 hq2 hl2 hF1
  have cy1 : Calls Try.prog 11 #[.pointer (some ⟨wb.heap.size + 1, 0, none⟩), .slice a1 k cap1] wd.drew fun e w' => e = .returned (.int .i64 F1) ∧ Ringed w' wb.heap.size (wb.heap.size + 1) C 0 q1 l1 ∧ Only [wb.heap.size, wb.heap.size + 1] wd.drew w' :=
    put_fit _ _ C 0 [] 0 a1 (bs.take k) k cap1 _ HD.out.2.1.drew (HD.out.2.2.1.head k).drew (HW.out.2.2.2.2.2.1.imp (fun h => by rw [h]; simp) id) (by have := HP.out.2.1; simp; omega) (by omega) (by omega) (by omega) (by omega) F1 (by have := HE.out.2.2.2.2.2.2; simpa using this) q1 (by rw [HE.out.1]; rfl) l1 HE.out.2.2.2.1
  have cy2 : ∀ we, Ringed we wb.heap.size (wb.heap.size + 1) C 0 q1 l1 → Only [wb.heap.size, wb.heap.size + 1] wd.drew we → Calls Try.prog 11 #[.pointer (some ⟨wb.heap.size + 1, 0, none⟩), .slice at_ (len1 - k) (cap1 - k)] we fun e w' => e = .returned (.int .i64 F2) ∧ Ringed w' wb.heap.size (wb.heap.size + 1) C 0 qx lx ∧ Only [wb.heap.size, wb.heap.size + 1] we w' := by
    intro we hre hoe
    have hl := HP.out.2.1
    have e1 := HE.out.2.2.2.1
    have e2 := HE.out.2.2.2.2.2.2
    have hbe : Bytes we at_ (bs.drop k) := by
      rw [HA.out.2.2]
      exact (HD.out.2.2.1.drew.of_only hoe HW.out.2.2.2.2.2.1).tail k cap1 (by omega) (by omega)
    refine put_fit _ _ C 0 q1 l1 at_ (bs.drop k) (len1 - k) (cap1 - k) we hre hbe (HW.out.2.2.2.2.2.1.imp (fun h => by rw [h]; simp) (fun h => by rw [HA.out.2.2]; exact away_tail h k cap1)) (by simp; omega) (by omega) (by omega) (by omega) (by omega) F2 ?_ qx HE.out.2.2.2.2.1.symm lx HE.out.2.2.2.2.2.1.symm
    rw [HE.out.2.1]; exact HE.out.2.2.1
  have CY1 := Lib.hid cy1
  have CY2 := Lib.hid cy2
  have hF1b : F1 ≤ 255 := by have := HE.out.2.2.2.2.2.2; omega
  have hF2b : F2 ≤ 255 := by have := HE.out.2.2.1; omega
  have hw1 : IntKind.i64.wrap ((F1 : Int) + (F2 : Int)) = (Fx : Int) := by rw [IntWalk.i64_in _ (by omega)]; exact hsum
  have hw2 : wrap64 ((F1 : Int) + (F2 : Int)) = (Fx : Int) := by rw [wrap_in _ (by omega) (by omega)]; exact hsum
  clear cy1 cy2 hsum
  have hfin : ∀ we wf : World, Ringed wf wb.heap.size (wb.heap.size + 1) C 0 qx lx → Only [wb.heap.size, wb.heap.size + 1] wd.drew we → Only [wb.heap.size, wb.heap.size + 1] we wf → Ringed wf wa.heap.size (wa.heap.size + 1) C 0 qx lx ∧ Ringed wf wb.heap.size (wb.heap.size + 1) C 0 qx lx ∧ Only [wa.heap.size, wa.heap.size + 1, wb.heap.size, wb.heap.size + 1] wa wf := fun we wf h h1 h2 =>
    ⟨(HD.out.1.drew.of_only h1 (by simp; omega) (by simp; omega)).of_only h2 (by simp; omega) (by simp; omega), h, (((HW.out.2.2.2.2.2.2.weaken (by simp)).trans (HD.out.2.2.2.weaken (by simp))).drew.trans (h1.weaken (by simp))).trans (h2.weaken (by simp))⟩
  have HFin := Lib.hid hfin
  clear hfin
  go_cut [11] (fun s11 wx => s11 = .int .i64 Fx ∧ Ringed wx wa.heap.size (wa.heap.size + 1) C 0 qx lx ∧ Ringed wx wb.heap.size (wb.heap.size + 1) C 0 qx lx ∧ Only [wa.heap.size, wa.heap.size + 1, wb.heap.size, wb.heap.size + 1] wa wx)
  case first =>
    go_region_with (first | (go_at_call 11; (with_reducible refine CY1.out.mono ?_); rintro e we ⟨rfl, hre, hoe⟩; have HEE := Lib.hid (And.intro hre hoe); clear hre hoe) | (go_at_call 11; (with_reducible refine (CY2.out _ HEE.out.1 HEE.out.2).mono ?_); rintro e wf ⟨rfl, hrf, hof⟩; have HF := Lib.hid (And.intro hrf hof); clear hrf hof))
    all_goals (go_wp2_with fail; go_meet; exact ⟨rfl, HFin.out _ _ HF.out.1 HEE.out.2 HF.out.2⟩)
  case rest =>
    obtain ⟨rfl, hx0, hy0, hof0⟩ := hcut
    have hxf := hx0.drew
    have hyf := hy0.drew
    have hof := hof0.drew
    clear hw1 hw2
    have ql := HQ.out.2.1
    have hC255 := hC4.2
    have hFq : Fx ≤ 255 := by have := HQ.out.2.2.2.1; omega
    have clx := lost_any _ _ _ _ _ _ _ hxf
    have cly := lost_any _ _ _ _ _ _ _ hyf
    have ctx := take_bytes _ _ _ _ _ _ 300 Fx _ hxf (.inr (.inr ⟨ql.symm, by omega⟩)) qx [] (List.take_of_length_le (by omega)).symm (List.drop_eq_nil_of_le (by omega)).symm
    have cty : ∀ wg, Ringed wg wb.heap.size (wb.heap.size + 1) C 0 qx lx → _ := fun wg h => take_bytes _ _ _ _ _ _ 300 Fx wg h (.inr (.inr ⟨ql.symm, by omega⟩)) qx [] (List.take_of_length_le (by omega)).symm (List.drop_eq_nil_of_le (by omega)).symm
    have CLX := Lib.hid clx
    have CLY := Lib.hid cly
    have CTX := Lib.hid ctx
    have CTY := Lib.hid cty
    have HY := Lib.hid (And.intro hyf hof)
    have hltf := hxf.lt
    have hltg := hyf.lt
    clear hxf hyf hof hx0 hy0 hof0 ql clx cly ctx cty hsl1 hsl2
    go_wp2_with fail
    go_region_with (first | (go_at_call 13; (with_reducible refine CLX.out.mono ?_); rintro e wz ⟨rfl, rfl⟩) | (go_at_call 13; (with_reducible refine CLY.out.mono ?_); rintro e wz ⟨rfl, rfl⟩) | (go_at_call 12; (with_reducible refine CTX.out.mono ?_); rintro e wg ⟨ax, cx, rfl, hbx, hlx', hax, hrx, hox⟩; have hs1 := run_str wg ax Fx cx qx hbx hlx'; have HX := Lib.hid (And.intro hbx (And.intro hlx' (And.intro hax hox))); clear hbx hlx' hax hrx hox) | (go_at_call 12; (with_reducible refine (CTY.out _ (HY.out.1.of_only HX.out.2.2.2 (by simp; omega) (by simp; omega))).mono ?_); rintro e wh ⟨ay, cy, rfl, hby, hly', hay, hry, hoy⟩; have hs2 := run_str wh ay Fx cy qx hby hly'; have hs3 := run_str wh ax Fx cx qx (HX.out.1.of_only hoy (.inr (fun ad e => by have := HX.out.2.2.1 ad e; simp; omega))) HX.out.2.1; have HH := Lib.hid hoy; clear hby hly' hay hry hoy))
    all_goals go_wp2
    all_goals go_ret
    all_goals exact ⟨rfl, HW.out.1.trans (((HY.out.2.trans (HX.out.2.2.2.weaken (by simp))).trans (HH.out.weaken (by simp))).below HW.out.1.size (by have := HW.out.1.size; simp; omega))⟩

/-! ### THE ROW's STEP: WRITTEN OUT: LEAVE IT -/
set_option maxRecDepth 100000 in
theorem lifted (os : Os) (started : os.Started) (H : Type) (enc : TypeId × Value → H) :
    ReturnsInHanded {} Try.checked os 4 .any (Rows.ringPartsSpec.pre6 enc Try.prog Try.f4 Rows.ringPartsRow.domain false) (Rows.ringPartsSpec.post enc Try.prog Try.f4 false true false false) := by
  refine returnsInHanded_of_change (C := Try.checked) own started (by kernel_rfl) Try.func4
    (ChangeSpec.witness6 (enc := enc) (C := Try.checked) false ⟨#[], #[.int .u8 0, .slice none 0 0, .int .u8 0], []⟩ 8 (by kernel_rfl) (by kernel_rfl) (by kernel_rfl) (by kernel_rfl)) ?_
  intro W base args ds gs before hval0 hW hcnd _
  have hval : ∀ (j : Nat) t v, Try.f4.params[j]? = some t → args[j]? = some v → Value.okWide Try.prog W .any base t v := hval0
  have hW' := hW
  obtain ⟨p, q, hA0, hV, rfl, hfz, hnd⟩ := hW
  have hA : DataW.TrodAll enc Try.prog W 0 (fun _ => true) true Try.f4.params.toList args.toList ds p := hA0
  rw [Try.params4] at hA hval
  obtain ⟨v0, vs0, d0, ds0, p0, q0, hargs, rfl, rfl, h0, r0⟩ := trodAll_cons hA
  obtain ⟨v1, vs1, d1, ds1, p1, q1, rfl, rfl, rfl, h1, r1⟩ := trodAll_cons r0
  obtain ⟨v2, vs2, d2, ds2, p2, q2, rfl, rfl, rfl, h2, r2⟩ := trodAll_cons r1
  obtain ⟨rfl, rfl, rfl⟩ := trodAll_nil r2
  obtain rfl : args = #[v0, v1, v2] := by cases args; simp_all
  obtain ⟨rfl, rfl⟩ := trodVars_none hV
  obtain ⟨a0, rfl, rfl, rfl, w0⟩ := open_int Try.underlying5 (hval 0 5 v0 rfl rfl) h0
  obtain ⟨a1, len1, cap1, rfl⟩ := okWide_slice Try.underlying26 (hval 1 26 v1 rfl rfl)
  have k1 := h1
  have lt1 : ∀ x ∈ p1, x.block < W.heap.size := by obtain ⟨m, hm⟩ := k1; exact DataW.trod_lt m _ _ _ hm
  obtain ⟨z1, w1⟩ : ∃ zs, IsRow .u8 W a1 len1 cap1 zs := by
    obtain ⟨fuel, hf⟩ := h1
    rcases open_ints Try.underlying26 Try.underlying5 (by kernel_rfl) hf with ⟨hcs, _⟩ | ⟨x, l, c, zs, hcs, _, hl, hm, hz, _, hcell, hwz⟩
    · simp [Value.cells] at hcs
      obtain ⟨rfl, rfl, rfl⟩ := hcs
      exact ⟨[], .inl ⟨rfl, rfl, rfl, rfl⟩⟩
    · simp [Value.cells] at hcs
      obtain ⟨rfl, rfl, rfl⟩ := hcs
      exact ⟨zs, .inr ⟨_, rfl, hl, hm, by simpa using hz, hcell, hwz⟩⟩
  obtain ⟨a2, rfl, rfl, rfl, w2⟩ := open_int Try.underlying5 (hval 2 5 v2 rfl rfl) h2
  clear hA0 hval0
  refine (walk a0 a1 len1 cap1 z1 a2 W w0 w1 w2).mono fun e W' ⟨he, bel⟩ => ?_
  subst he
  exact ⟨_, rfl, _, _, _, [], _, [], hW', trodAll_mk1 (shut_bool Try.underlying4 _), (trodAll_cons_mk (shut_int Try.underlying5 w0) (trodAll_cons_mk (Below.trod laidOut (by kernel_rfl) (of_decide_eq_true (by kernel_rfl)) k1 bel lt1) (trodAll_cons_mk (shut_int Try.underlying5 w2) trodAll_mk0))), rfl, bel.frame _, fun h => by cases h⟩

theorem over : Rows.ringPartsRow.holds Try.pinned (OpenSpec.ofChange Rows.ringPartsSpec) :=
  OpenClaim.holds_of_wide 4 Try.f4 rfl rfl rfl rfl rfl rfl rfl ⟨rfl, rfl, rfl, rfl, rfl⟩ rfl rfl rfl rfl rfl (by kernel_rfl) Try.func4 (by kernel_rfl)
    (of_decide_eq_true (by kernel_rfl)) (by unfold Func.isWrapper; first | (rw [if_pos (by decide +kernel)]; kernel_rfl) | (rw [if_neg (by decide +kernel)]; exact ⟨rfl, rfl⟩))
    (fun os started H enc _ => lifted os started H enc)

/-- ████ THE STATEMENT ████ -/
theorem proved : Rows.RingPartsSaid := over
#print axioms proved
end Go.Proofs.Ytfnglidobljlgaa.ringParts
