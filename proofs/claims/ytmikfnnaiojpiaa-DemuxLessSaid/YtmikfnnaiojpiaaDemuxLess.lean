/- The law DemuxLess is proved: of fewer bytes than were given whole segments are told alone. Conditions: none. -/
import Derived.Test.YtmikfnnaiojpiaaRows
import Derived.Test.YtmikfnnaiojpiaaPart
import Derived.BigQuiet
import Derived.Deep.QuietTactic
import Derived.WalkKit
import Derived.ProofKit
import Derived.OpenShut
import Derived.ShutString
import Derived.ChangeOld
import Derived.Below
namespace Go.Proofs.Ytmikfnnaiojpiaa.demuxLess
open Go.ChangeShapes Go.WideShapes Go.ChangeAt Go.RowKit
open Go.ChangeMaps (open_string shut_string)
set_option linter.unusedVariables false

theorem own : ownKnob Try.prog.godebug = none := by kernel_rfl
theorem laidOut : laidOutB Try.prog = true := by kernel_rfl

/-- WHAT THE WALK IS TOLD OF A SLICE OF INTEGERS THAT CAME IN: it is nil; or it leads to a row of 'cap' cells, the numbers 'zs' (the first 'len' are its elements, the rest its spare room), each fitting its kind. -/
def IsRow (k : IntKind) (w : World) (a : Option Addr) (len cap : Nat) (zs : List Int) : Prop :=
  (a = none ∧ len = 0 ∧ cap = 0 ∧ zs = []) ∨
  ∃ x, a = some x ∧ len ≤ cap ∧ cap ≤ maxLen ∧ zs.length = cap ∧ (∀ i, i < zs.length → w.cell? (x.add i) = some (.int k (zs.getD i 0))) ∧ ∀ n ∈ zs, (Lit.int k n).wf = true

def sameSegs1 (i : Nat) : List Seg := if i = 0 then [] else [⟨1, 0, i⟩]

theorem sameSegs1_push (i : Nat) : pushSeg (sameSegs1 i) 1 i = sameSegs1 (i + 1) := by
  unfold sameSegs1
  rw [if_neg (show ¬ i + 1 = 0 by omega)]
  split
  · rename_i h; subst h; rfl
  · simp [pushSeg]

theorem less_pure (k : Nat) (bs : List UInt8) : partOf (pushSeg (sameSegs1 k) 2 k) 1 bs = (if k ≤ bs.length then bs.take k else []) ∧ partOf (pushSeg (sameSegs1 k) 2 k) 2 bs = (if k + 1 ≤ bs.length then (bs.drop k).take 1 else []) := by
  unfold sameSegs1
  by_cases h : k = 0
  · subst h
    rw [if_pos rfl, pushSeg_nil]
    simp [partOf, partOne]
  · rw [if_neg h]
    have e : pushSeg [⟨1, 0, k⟩] 2 k = [⟨1, 0, k⟩, ⟨2, k, 1⟩] := by simp [pushSeg]
    rw [e]
    simp [partOf, partOne]

theorem str_drawn {w : World} {a : Option Addr} {bs : List UInt8} {n : Nat} (h : Bytes w a bs) (c : Nat) (hn : bs.length = n) : ∀ m, (convert 37 9 (.slice a n c)).run Try.prog (w.drewN m) = .ok (.string ⟨bs.toArray⟩) (w.drewN m) :=
  fun m => run_str (w.drewN m) a n c bs (h.of_only (only_drewN [] w m) (.inr (by intro ad e; simp))) hn

theorem bytes_below {w w' : World} {a : Option Addr} {bs : List UInt8} (h : Bytes w a bs) (hb : Below w.heap.size w w') : Bytes w' a bs := by
  refine ⟨h.nil, fun ad had i hi => ?_⟩
  have hc := h.cell ad had i hi
  have hlt := World.block_lt_of_cell? w _ hc
  rw [hb.cell hlt]; exact hc

/-! ### STEP 1: THE WALK: the Go text returns true, AND WRITES NOTHING THAT WAS THERE: 'Below w.heap.size w w'' (Derived/Below.lean: '.refl', '.alloc', '.drew', '.setCell' at a new block, '.trans'). Open each 'IsRow' by 'rcases' AHEAD of 'go_enter'; part every test ahead of the walk. -/
set_option maxHeartbeats 1000000 in
theorem walk (a0 : Int) (a1 : Option Addr) (len1 cap1 : Nat) (z1 : List Int) (w : World) (w0 : (Lit.int .u8 a0).wf = true) (w1 : IsRow .u8 w a1 len1 cap1 z1) :
    Calls Try.prog 6 #[.int .u8 a0, .slice a1 len1 cap1] w fun e w' => e = .returned (.bool true) ∧ Below w.heap.size w w' := by
  obtain ⟨l0, u0⟩ := u8_bd w0
  obtain ⟨n, rfl⟩ := Int.eq_ofNat_of_zero_le l0
  obtain ⟨bs, hbl, hbb, hlc, hcm, hnil, hlt⟩ := row_bytes w1
  unfold maxLen at hcm
  obtain ⟨k, hkd⟩ : ∃ k, k = n % 9 := ⟨_, rfl⟩
  have hki : (n : Int) % 9 = (k : Int) := by omega
  have hk9 : k < 9 := by omega
  have HA := Lib.hid (And.intro hbl (And.intro hbb hnil))
  clear hkd hbl hbb hnil hlt w1
  go_enter Try.func6, Try.ntmps6
  go_wp2_with fail
  refine (awake_any _).mono ?_
  rintro e wa ⟨rfl, hba⟩
  have HB := Lib.hid hba
  clear hba
  go_wp2_with fail
  refine (of_any 1 _).mono ?_
  rintro e wb ⟨rfl, hd1, ho1⟩
  rw [show fitM 1 = 1 from rfl] at hd1
  have HO1 := Lib.hid (HB.out.trans (ho1.below HB.out.size (by simp)))
  have hsz := HB.out.size
  clear ho1
  go_wp2_with fail
  clear hki
  go_loopw [7] (fun i wr => ∃ (j : Nat) (v : Value), j ≤ k ∧ i = .int .i64 j ∧ Demuxed wr wa.heap.size (wa.heap.size + 1) v 1 j (sameSegs1 j) ∧ Below w.heap.size w wr) (fun i _ => k - (intOf i).toNat)
  case atStart => exact ⟨0, _, by omega, rfl, hd1, HO1.out⟩
  case round =>
    obtain ⟨j, v, hj, rfl, hd, hb⟩ := hrel
    by_cases hjl : j < k
    · go_wp2_with fail
      refine (put_any _ _ _ _ _ _ _ _ hd (by omega)).mono ?_
      rintro e we ⟨v2, rfl, hd3, ho3, _⟩
      rw [sameSegs1_push] at hd3
      have HO3 := Lib.hid (And.intro (hb.trans (hd.below ho3 (by omega))) hd3)
      clear ho3 hd hd3 hb
      go_wp2
      go_roundw
      case rel => exact ⟨j + 1, _, by omega, by go_num, HO3.out.2, HO3.out.1⟩
      case measure => simp [intOf]; omega
    · obtain rfl : j = k := by omega
      go_wp2_with fail
      refine (switch_any _ _ _ _ _ _ 2 _ hd).mono ?_
      rintro e wd ⟨rfl, hd2, ho2⟩
      rw [show fitM 2 = 2 from rfl] at hd2
      have HO2 := Lib.hid (hb.trans (hd.below1 ho2 (by omega)))
      clear ho2 hd hb
      go_wp2_with fail
      refine (put_any _ _ _ _ _ _ _ _ hd2 (by omega)).mono ?_
      rintro e we ⟨v2, rfl, hd3, ho3, _⟩
      have hbel := HO2.out.trans (hd2.below ho3 (by omega))
      have hbw : Bytes we a1 bs := bytes_below HA.out.2.1 hbel
      obtain ⟨X, hX⟩ : ∃ X, X = partOf (pushSeg (sameSegs1 j) 2 j) 1 bs := ⟨_, rfl⟩
      obtain ⟨Y, hY⟩ : ∃ Y, Y = partOf (pushSeg (sameSegs1 j) 2 j) 2 bs := ⟨_, rfl⟩
      obtain ⟨hX2, hY2⟩ := less_pure j bs
      rw [← hX] at hX2
      rw [← hY] at hY2
      obtain ⟨LX, hLX⟩ : ∃ L, L = X.length := ⟨_, rfl⟩
      obtain ⟨LY, hLY⟩ : ∃ L, L = Y.length := ⟨_, rfl⟩
      have hXl : LX ≤ 8 := by rw [hLX, hX2]; split <;> simp <;> omega
      have hYl : LY ≤ 8 := by rw [hLY, hY2]; split <;> simp <;> omega
      have HE := Lib.hid (And.intro hbel hbw)
      have HXY := Lib.hid (And.intro hX2 (And.intro hY2 (And.intro hLX hLY)))
      clear ho3 hd2 hbel hbw HO2 hX2 hY2
      go_wp2_with fail
      refine (part_any _ _ _ _ _ _ 1 a1 bs len1 cap1 LX _ hd3 HE.out.2 HA.out.1 hlc hcm HA.out.2.2 (by rw [← hX, hLX]) (by omega)).mono ?_
      rintro e wf ⟨ax, cx, rfl, hbx, hax, hof⟩
      rw [← hX] at hbx
      have hd4 := hd3.of_only hof (by simp) (by simp)
      have hbw2 := HE.out.2.of_only hof (.inr (by intro ad e; simp))
      have HF := Lib.hid (And.intro hbx (And.intro hbw2 (HE.out.1.trans (hof.below HE.out.1.size (by simp)))))
      clear hbx hax hof hd3 hbw2 hLX hX
      go_wp2_with fail
      refine (part_any _ _ _ _ _ _ 2 a1 bs len1 cap1 LY _ hd4 HF.out.2.1 HA.out.1 hlc hcm HA.out.2.2 (by rw [← hY, hLY]) (by omega)).mono ?_
      rintro e wg ⟨ay, cy, rfl, hby, hay, hog⟩
      rw [← hY] at hby
      have HG := Lib.hid (And.intro (HF.out.1.of_only hog (.inr (by intro ad e; simp))) (And.intro hby (And.intro (HF.out.2.1.of_only hog (.inr (by intro ad e; simp))) (HF.out.2.2.trans (hog.below HF.out.2.2.size (by simp))))))
      clear hby hay hog hd4 hLY hY
      go_wp2_with fail
      obtain ⟨T, hT⟩ : ∃ T, T = bs.take j := ⟨_, rfl⟩
      by_cases c1 : j ≤ len1
      · have hTl : T.length = j := by rw [hT]; have := HA.out.1; simp; omega
        have hXT : X = T := by rw [HXY.out.1, hT, if_pos (by rw [HA.out.1]; exact c1)]
        subst hXT
        have hLj : LX = j := by rw [HXY.out.2.2.1]; exact hTl
        subst hLj
        have sx := str_drawn HG.out.1 cx hTl
        have hs1 := fun w => run_head Try.prog w 37 a1 len1 cap1 LX Try.elem37 1 Try.size5b (by omega) .i64
        have hbT : Bytes wg a1 X := by rw [hT]; exact HG.out.2.2.1.head _
        have sT := str_drawn hbT cap1 hTl
        have g1 : decide ((LX : Int) ≤ (len1 : Int)) = true := by simp; omega
        have g1' : decide (LX ≤ len1) = true := by simp; omega
        have g2 : decide ((len1 : Int) < (LX : Int)) = false := by simp; omega
        have g2' : decide (len1 < LX) = false := by simp; omega
        have HT := Lib.hid (And.intro hT hTl)
        clear hT hTl hbT
        by_cases c0 : LX = 0
        · have g0 : decide ((0 : Int) < (LX : Int)) = false := by simp; omega
          have g0' : decide (0 < LX) = false := by simp; omega
          clear c0 c1
          by_cases c3 : LX < len1
          · have hY1 : Y = (bs.drop LX).take 1 := by rw [HXY.out.2.1, if_pos (by rw [HA.out.1]; omega)]
            have hL1 : LY = 1 := by rw [HXY.out.2.2.2, hY1]; have := HA.out.1; simp; omega
            subst hL1
            have hs2 := fun w => run_mid w a1 len1 cap1 LX 1 (by omega)
            obtain ⟨a2, ha2⟩ : ∃ t, t = (if cap1 = LX then a1 else a1.map (·.add (LX * 1))) := ⟨_, rfl⟩
            rw [← ha2] at hs2
            have e1 : (((1 : Nat) : Int)) = 1 := rfl
            rw [e1] at hs2
            have hb2 : Bytes wg a2 Y := by
              rw [ha2, hY1]
              exact ((HG.out.2.2.1.tail LX cap1 (by have := HA.out.1; omega) (by have := HA.out.1; omega)).head 1)
            have hYl1 : Y.length = 1 := by rw [hY1]; have := HA.out.1; simp; omega
            have sy := str_drawn HG.out.2.1 cy hYl1
            have s2 := str_drawn hb2 (cap1 - LX) hYl1
            have HZ := Lib.hid (And.intro hY1 (And.intro hb2 hYl1))
            clear hY1 hb2 hYl1 ha2 e1
            go_quiet (fail)
            go_wp2_with fail
            have sy' := str_drawn (HG.out.2.1.of_only (only_drewN [] wg nq) (.inr (by intro ad e; simp))) cy HZ.out.2.2
            have s2' := str_drawn (HZ.out.2.1.of_only (only_drewN [] wg nq) (.inr (by intro ad e; simp))) (cap1 - LX) HZ.out.2.2
            go_quiet (fail)
            go_wp2
            go_ret
            exact ⟨rfl, (HG.out.2.2.2.trans ((only_drewN [] _ _).below HG.out.2.2.2.size (by simp))).trans ((only_drewN [] _ _).below (by simpa using HG.out.2.2.2.size) (by simp))⟩
          · have hY0 : Y = [] := by rw [HXY.out.2.1, if_neg (by rw [HA.out.1]; omega)]
            have hL0 : LY = 0 := by rw [HXY.out.2.2.2, hY0]; rfl
            subst hL0
            clear hY0
            go_quiet (fail)
            go_wp2
            go_ret
            exact ⟨rfl, HG.out.2.2.2.trans ((only_drewN [] _ _).below HG.out.2.2.2.size (by simp))⟩
        · have g0 : decide ((0 : Int) < (LX : Int)) = true := by simp; omega
          have g0' : decide (0 < LX) = true := by simp; omega
          clear c0 c1
          by_cases c3 : LX < len1
          · have hY1 : Y = (bs.drop LX).take 1 := by rw [HXY.out.2.1, if_pos (by rw [HA.out.1]; omega)]
            have hL1 : LY = 1 := by rw [HXY.out.2.2.2, hY1]; have := HA.out.1; simp; omega
            subst hL1
            have hs2 := fun w => run_mid w a1 len1 cap1 LX 1 (by omega)
            obtain ⟨a2, ha2⟩ : ∃ t, t = (if cap1 = LX then a1 else a1.map (·.add (LX * 1))) := ⟨_, rfl⟩
            rw [← ha2] at hs2
            have e1 : (((1 : Nat) : Int)) = 1 := rfl
            rw [e1] at hs2
            have hb2 : Bytes wg a2 Y := by
              rw [ha2, hY1]
              exact ((HG.out.2.2.1.tail LX cap1 (by have := HA.out.1; omega) (by have := HA.out.1; omega)).head 1)
            have hYl1 : Y.length = 1 := by rw [hY1]; have := HA.out.1; simp; omega
            have sy := str_drawn HG.out.2.1 cy hYl1
            have s2 := str_drawn hb2 (cap1 - LX) hYl1
            have HZ := Lib.hid (And.intro hY1 (And.intro hb2 hYl1))
            clear hY1 hb2 hYl1 ha2 e1
            go_quiet (fail)
            go_wp2_with fail
            have sy' := str_drawn (HG.out.2.1.of_only (only_drewN [] wg nq) (.inr (by intro ad e; simp))) cy HZ.out.2.2
            have s2' := str_drawn (HZ.out.2.1.of_only (only_drewN [] wg nq) (.inr (by intro ad e; simp))) (cap1 - LX) HZ.out.2.2
            go_quiet (fail)
            go_wp2
            go_ret
            exact ⟨rfl, (HG.out.2.2.2.trans ((only_drewN [] _ _).below HG.out.2.2.2.size (by simp))).trans ((only_drewN [] _ _).below (by simpa using HG.out.2.2.2.size) (by simp))⟩
          · have hY0 : Y = [] := by rw [HXY.out.2.1, if_neg (by rw [HA.out.1]; omega)]
            have hL0 : LY = 0 := by rw [HXY.out.2.2.2, hY0]; rfl
            subst hL0
            clear hY0
            go_quiet (fail)
            go_wp2
            go_ret
            exact ⟨rfl, HG.out.2.2.2.trans ((only_drewN [] _ _).below HG.out.2.2.2.size (by simp))⟩
      · have hX0 : X = [] := by rw [HXY.out.1, if_neg (by rw [HA.out.1]; exact c1)]
        have hLX0 : LX = 0 := by rw [HXY.out.2.2.1, hX0]; rfl
        subst hLX0
        have g1 : decide ((j : Int) ≤ (len1 : Int)) = false := by simp; omega
        have g1' : decide (j ≤ len1) = false := by simp; omega
        have g2 : decide ((len1 : Int) < (j : Int)) = true := by simp; omega
        have g2' : decide (len1 < j) = true := by simp; omega
        have hY0 : Y = [] := by rw [HXY.out.2.1, if_neg (by rw [HA.out.1]; omega)]
        have hL0 : LY = 0 := by rw [HXY.out.2.2.2, hY0]; rfl
        subst hL0
        have g3 : decide ((j : Int) < (len1 : Int)) = false := by simp; omega
        clear hY0 hX0
        go_quiet (fail)
        go_wp2
        go_ret
        exact ⟨rfl, HG.out.2.2.2.trans ((only_drewN [] _ _).below HG.out.2.2.2.size (by simp))⟩

/-! ### THE ROW's STEP: WRITTEN OUT: LEAVE IT -/
set_option maxRecDepth 100000 in
theorem lifted (os : Os) (started : os.Started) (H : Type) (enc : TypeId × Value → H) :
    ReturnsInHanded {} Try.checked os 6 .any (Rows.demuxLessSpec.pre6 enc Try.prog Try.f6 Rows.demuxLessRow.domain false) (Rows.demuxLessSpec.post enc Try.prog Try.f6 false true false false) := by
  refine returnsInHanded_of_change (C := Try.checked) own started (by kernel_rfl) Try.func6
    (ChangeSpec.witness6 (enc := enc) (C := Try.checked) false ⟨#[], #[.int .u8 0, .slice none 0 0], []⟩ 8 (by kernel_rfl) (by kernel_rfl) (by kernel_rfl) (by kernel_rfl)) ?_
  intro W base args ds gs before hval0 hW hcnd _
  have hval : ∀ (j : Nat) t v, Try.f6.params[j]? = some t → args[j]? = some v → Value.okWide Try.prog W .any base t v := hval0
  have hW' := hW
  obtain ⟨p, q, hA0, hV, rfl, hfz, hnd⟩ := hW
  have hA : DataW.TrodAll enc Try.prog W 0 (fun _ => true) true Try.f6.params.toList args.toList ds p := hA0
  rw [Try.params6] at hA hval
  obtain ⟨v0, vs0, d0, ds0, p0, q0, hargs, rfl, rfl, h0, r0⟩ := trodAll_cons hA
  obtain ⟨v1, vs1, d1, ds1, p1, q1, rfl, rfl, rfl, h1, r1⟩ := trodAll_cons r0
  obtain ⟨rfl, rfl, rfl⟩ := trodAll_nil r1
  obtain rfl : args = #[v0, v1] := by cases args; simp_all
  obtain ⟨rfl, rfl⟩ := trodVars_none hV
  obtain ⟨a0, rfl, rfl, rfl, w0⟩ := open_int Try.underlying5 (hval 0 5 v0 rfl rfl) h0
  obtain ⟨a1, len1, cap1, rfl⟩ := okWide_slice Try.underlying37 (hval 1 37 v1 rfl rfl)
  have k1 := h1
  have lt1 : ∀ x ∈ p1, x.block < W.heap.size := by obtain ⟨m, hm⟩ := k1; exact DataW.trod_lt m _ _ _ hm
  obtain ⟨z1, w1⟩ : ∃ zs, IsRow .u8 W a1 len1 cap1 zs := by
    obtain ⟨fuel, hf⟩ := h1
    rcases open_ints Try.underlying37 Try.underlying5 (by kernel_rfl) hf with ⟨hcs, _⟩ | ⟨x, l, c, zs, hcs, _, hl, hm, hz, _, hcell, hwz⟩
    · simp [Value.cells] at hcs
      obtain ⟨rfl, rfl, rfl⟩ := hcs
      exact ⟨[], .inl ⟨rfl, rfl, rfl, rfl⟩⟩
    · simp [Value.cells] at hcs
      obtain ⟨rfl, rfl, rfl⟩ := hcs
      exact ⟨zs, .inr ⟨_, rfl, hl, hm, by simpa using hz, hcell, hwz⟩⟩
  clear hA0 hval0
  refine (walk a0 a1 len1 cap1 z1 W w0 w1).mono fun e W' ⟨he, bel⟩ => ?_
  subst he
  exact ⟨_, rfl, _, _, _, [], _, [], hW', trodAll_mk1 (shut_bool Try.underlying4 _), (trodAll_cons_mk (shut_int Try.underlying5 w0) (trodAll_cons_mk (Below.trod laidOut (by kernel_rfl) (of_decide_eq_true (by kernel_rfl)) k1 bel lt1) trodAll_mk0)), rfl, bel.frame _, fun h => by cases h⟩

theorem over : Rows.demuxLessRow.holds Try.pinned (OpenSpec.ofChange Rows.demuxLessSpec) :=
  OpenClaim.holds_of_wide 6 Try.f6 rfl rfl rfl rfl rfl rfl rfl ⟨rfl, rfl, rfl, rfl, rfl⟩ rfl rfl rfl rfl rfl (by kernel_rfl) Try.func6 (by kernel_rfl)
    (of_decide_eq_true (by kernel_rfl)) (by unfold Func.isWrapper; first | (rw [if_pos (by decide +kernel)]; kernel_rfl) | (rw [if_neg (by decide +kernel)]; exact ⟨rfl, rfl⟩))
    (fun os started H enc _ => lifted os started H enc)

/-- ████ THE STATEMENT ████ -/
theorem proved : Rows.DemuxLessSaid := over
#print axioms proved
end Go.Proofs.Ytmikfnnaiojpiaa.demuxLess
