/- The law RingOwn is proved: what waits in a ring is its own: neither what went in nor what came out changes it. Conditions: none. -/
import Derived.Test.YtfnglidobljlgaaRows
import Derived.Test.YtfnglidobljlgaaApp
import Derived.Deep.RegionWith
import Derived.Deep.DeepCutAuto
import Derived.WalkKit
import Derived.ProofKit
import Derived.OpenShut
import Derived.ShutString
import Derived.ChangeOld
import Derived.Below
namespace Go.Proofs.Ytfnglidobljlgaa.ringOwn
open Go.ChangeShapes Go.WideShapes Go.ChangeAt Go.RowKit
open Go.ChangeMaps (open_string shut_string)
set_option linter.unusedVariables false

theorem own : ownKnob Try.prog.godebug = none := by kernel_rfl
theorem laidOut : laidOutB Try.prog = true := by kernel_rfl

/-- WHAT THE WALK IS TOLD OF A SLICE OF INTEGERS THAT CAME IN: it is nil; or it leads to a row of 'cap' cells, the numbers 'zs' (the first 'len' are its elements, the rest its spare room), each fitting its kind. -/
def IsRow (k : IntKind) (w : World) (a : Option Addr) (len cap : Nat) (zs : List Int) : Prop :=
  (a = none ∧ len = 0 ∧ cap = 0 ∧ zs = []) ∨
  ∃ x, a = some x ∧ len ≤ cap ∧ cap ≤ maxLen ∧ zs.length = cap ∧ (∀ i, i < zs.length → w.cell? (x.add i) = some (.int k (zs.getD i 0))) ∧ ∀ n ∈ zs, (Lit.int k n).wf = true

/-! ### STEP 1: THE WALK: the Go text returns true, AND WRITES NOTHING THAT WAS THERE: 'Below w.heap.size w w'' (Derived/Below.lean: '.refl', '.alloc', '.drew', '.setCell' at a new block, '.trans'). Open each 'IsRow' by 'rcases' AHEAD of 'go_enter'; part every test ahead of the walk. -/
set_option maxHeartbeats 1000000 in
theorem walk (a0 : Option Addr) (len0 cap0 : Nat) (z0 : List Int) (a1 : Int) (w : World) (w0 : IsRow .u8 w a0 len0 cap0 z0) (w1 : (Lit.int .u8 a1).wf = true) :
    Calls Try.prog 6 #[.slice a0 len0 cap0, .int .u8 a1] w fun e w' => e = .returned (.bool true) ∧ Below w.heap.size w w' := by
  obtain ⟨bs, hbl, hbb, hlc, hcm, hnil, hlt⟩ := row_bytes w0
  obtain ⟨F, hF⟩ : ∃ F, F = min len0 50 := ⟨_, rfl⟩
  have hmin : (if 50 < (len0 : Int) then (50 : Int) else (len0 : Int)) = (F : Int) := by split <;> omega
  have hmin2 : (if 50 < len0 then (50 : Int) else (len0 : Int)) = (F : Int) := by split <;> omega
  have hF1 : F ≤ 50 := by omega
  have hF2 : F ≤ len0 := by omega
  obtain ⟨X, hX⟩ : ∃ X, X = bs.take F := ⟨_, rfl⟩
  obtain ⟨Z, hZ⟩ : ∃ Z, Z = X ++ [7] := ⟨_, rfl⟩
  have hbF : X.length = F := by rw [hX]; simp; omega
  have hzF : Z.length = F + 1 := by rw [hZ]; simp [hbF]
  have HZ := Lib.hid (And.intro hZ hzF)
  clear hZ hzF
  unfold maxLen at hcm
  clear hF
  go_enter Try.func6, Try.ntmps6
  go_wp2_with fail
  refine (awake_any _).mono ?_
  rintro e wa ⟨rfl, hba⟩
  go_wp2_with fail
  refine (of_any 200 _).mono ?_
  rintro e w1 ⟨rfl, hr1, ho1⟩
  have hcap : capOf 200 = 200 := rfl
  rw [hcap] at hr1
  clear hcap
  obtain ⟨R, hR⟩ : ∃ R, R = wa.heap.size := ⟨_, rfl⟩
  have hB1 : Bytes w1 a0 X := by rw [hX]; exact ((hbb.of_only (below_only (bs := []) hba (Nat.le_refl _)) (.inr (by intro ad e; simp))).of_only ho1 (.inr (by intro ad e; simp))).head F
  have hsl := run_head Try.prog w1 26 a0 len0 cap0 F Try.elem26 1 Try.size5 (by omega) .i64
  have hOA : Only [wa.heap.size, wa.heap.size + 1] wa w1 := ho1.weaken (by simp)
  have HB := Lib.hid hba
  have HR1 := Lib.hid hr1
  have HOA := Lib.hid hOA
  have HBl := Lib.hid hbF
  have HB1 := Lib.hid hB1
  clear hba hr1 hOA ho1 hbb hbl hlt hbF hB1 hX
  have hnil' : a0 = none → cap0 = 0 := hnil
  have HN := Lib.hid hnil'
  clear hnil hnil' hmin2
  go_wp2_with (at_builtin; refine wpList_app _ rfl (.const (.slice none 0 0)) (.tmp 16) rfl w1.heap.size _ 0 [] rfl (World.ownsRow_nil _ _ _ _) a0 F cap0 X rfl HB1.out HBl.out HN.out X rfl F (Nat.zero_add _) (by omega) (Nat.le_refl _) ?_)
  intro v0 w2 hown0 hg0
  have ho2 := HOA.out.trans (only_grown w1 w2 hg0 (by intro k e; simp [Value.ownBlock] at e))
  have hr2 := HR1.out.grown hg0 (by simp [Value.ownBlock]) (by simp [Value.ownBlock])
  have hsz := hg0.size
  have H2 := Lib.hid (And.intro ho2 (And.intro hr2 hown0))
  clear hg0 ho2 hr2 hown0
  go_wp2_with (at_builtin; refine wpList_appS _ rfl (.tmp 17) (.tmp 18) rfl w1.heap.size _ F X rfl (H2.out.2.2.alloc _) (some ⟨w2.heap.size, 0, none⟩) 1 1 [7] rfl (bytes1 w2 7 7 rfl) rfl (by intro e; cases e) Z HZ.out.1.symm (F + 1) rfl (by omega) (by simp; omega) (by omega) ?_)
  intro gx cx w3 hownx hg3 hgx hgx' hcx hcx'
  obtain ⟨ho2, hr2, hown0⟩ := H2.out
  have hlt2 := hr2.lt
  have hlt1 := HR1.out.lt
  have hrow : ∀ k, v0.ownBlock = some k → w1.heap.size ≤ k := fun k hk => (hown0.lt k hk).1
  have hsz1 := HOA.out.size
  have ho3 := (ho2.alloc (.cells #[.int .u8 7] 5)).grown hg3 (fun k hk => by have := hrow k hk; omega)
  have hr3 := (hr2.alloc (.cells #[.int .u8 7] 5)).grown hg3 (fun e => by have := hrow _ e; omega) (fun e => by have := hrow _ e; omega)
  have H3 := Lib.hid (And.intro ho3 (And.intro hr3 hownx))
  clear ho2 hr2 hown0 hlt2 hlt1 hrow hsz1 ho3 hr3 hownx hg3
  go_wp2_with (at_builtin; refine wpList_appS _ rfl (.const (.slice none 0 0)) (.tmp 20) rfl w3.heap.size _ 0 [] rfl (World.ownsRow_nil _ _ _ _) (some ⟨gx, 0, none⟩) (F + 1) cx Z rfl (Bytes.of_owns H3.out.2.2).1 HZ.out.2 (by intro e; cases e) Z rfl (F + 1) (Nat.zero_add _) (by omega) (Nat.le_refl _) (by omega) ?_)
  intro gy cy w4 howny hg4 hgy hgy' hcy hcy'
  have hxy : gx ≠ gy := by omega
  obtain ⟨ho3, hr3, hownx⟩ := H3.out
  have ho4 := ho3.trans (only_grown w3 w4 hg4 (by intro k e; simp [Value.ownBlock] at e))
  have hr4 := hr3.grown hg4 (by simp [Value.ownBlock]) (by simp [Value.ownBlock])
  have hx4 := owns_only hownx (only_grown w3 w4 hg4 (bs := []) (by intro k e; simp [Value.ownBlock] at e)) (by simp)
  have hlt3 := hr3.lt
  have hlt1 := HR1.out.lt
  have haw : Away (some ⟨gx, 0, none⟩) [wa.heap.size, wa.heap.size + 1] := by intro ad e; cases e; simp; omega
  have ngx : gx ∉ [wa.heap.size, wa.heap.size + 1] := by simp; omega
  have ngy : gy ∉ [wa.heap.size, wa.heap.size + 1] := by simp; omega
  have H4 := Lib.hid (And.intro ho4 (And.intro hr4 (And.intro hx4 (And.intro howny (And.intro haw (And.intro ngx ngy))))))
  clear ho3 hr3 hownx ho4 hr4 hx4 howny haw ngx ngy hlt3 hlt1 hg4
  have hzt : Z.take (F + 1) = Z := List.take_of_length_le (by have := HZ.out.2; omega)
  have hzz : (Z ++ Z).take (F + 1) = Z := by have := HZ.out.2; rw [← this]; exact List.take_left
  have hzd : (Z ++ Z).drop (F + 1) = Z := by have := HZ.out.2; rw [← this]; exact List.drop_left
  have HT := Lib.hid (And.intro hzt (And.intro hzz hzd))
  clear hzt hzz hzd
  go_wp2_with fail
  refine (put_fit _ _ 200 0 [] 0 (some ⟨gx, 0, none⟩) Z (F + 1) cx _ H4.out.2.1 (Bytes.of_owns H4.out.2.2.1).1 (.inr H4.out.2.2.2.2.1) HZ.out.2 (by omega) (by omega) (by omega) (by omega) (F + 1) (by simp; omega) Z (by rw [HT.out.1]; rfl) 0 (by omega)).mono ?_
  rintro e w5 ⟨rfl, hr5, ho5⟩
  have H5 := Lib.hid (And.intro hr5 (And.intro (H4.out.1.trans ho5) (And.intro (owns_only H4.out.2.2.1 ho5 H4.out.2.2.2.2.2.1) (owns_only H4.out.2.2.2.1 ho5 H4.out.2.2.2.2.2.2))))
  clear hr5 ho5
  go_wp2_with fail
  refine (put_fit _ _ 200 0 Z 0 (some ⟨gx, 0, none⟩) Z (F + 1) cx _ H5.out.1 (Bytes.of_owns H5.out.2.2.1).1 (.inr H4.out.2.2.2.2.1) HZ.out.2 (by omega) (by omega) (by omega) (by omega) (F + 1) (by have := HZ.out.2; omega) (Z ++ Z) (by rw [HT.out.1]) 0 (by omega)).mono ?_
  rintro e w6 ⟨rfl, hr6, ho6⟩
  have hx6 := owns_only H5.out.2.2.1 ho6 H4.out.2.2.2.2.2.1
  have hy6 := owns_only H5.out.2.2.2 ho6 H4.out.2.2.2.2.2.2
  have f0 : w6.frozen? ⟨gx, 0, none⟩ = false := hx6.frozenAt 0
  have c0 : w6.cell? ⟨gx, 0, none⟩ = some (.int .u8 ((Z.getD 0 0).toNat : Int)) := by
    have h' := (Bytes.of_owns hx6).1.cell _ rfl 0 (by have := HZ.out.2; omega)
    exact h'
  obtain ⟨z0', hz0'⟩ : ∃ t : Int, t = ((Z.getD 0 0).toNat : Int) := ⟨_, rfl⟩
  rw [← hz0'] at c0
  have H6 := Lib.hid (And.intro hr6 (And.intro (H5.out.2.1.trans ho6) hy6))
  clear hr6 ho6 hx6 hy6 hz0'
  go_wp2_with fail
  have ngx := H4.out.2.2.2.2.2.1
  have ngy := H4.out.2.2.2.2.2.2
  have hRg : wa.heap.size ∉ [gx] := by simp at ngx ⊢; omega
  have hSg : wa.heap.size + 1 ∉ [gx] := by simp at ngx ⊢; omega
  have hyg : gy ∉ [gx] := by simp; omega
  have HG := Lib.hid (And.intro hRg (And.intro hSg hyg))
  clear ngx ngy hRg hSg hyg c0 f0
  refine (take_some _ _ 200 0 (Z ++ Z) 0 _ (F + 1) _ (H6.out.1.of_only (only_set w6 gx 0 _) HG.out.1 HG.out.2.1) (.inl ⟨by simp, by have := HZ.out.2; simp; omega⟩) (by omega)).mono ?_
  rintro e w8 ⟨ga, ca, rfl, hga, hca, howna, hr8, ho8⟩
  rw [HT.out.2.1] at howna
  rw [HT.out.2.2] at hr8
  have hy8 := owns_only (owns_only H6.out.2.2 (only_set w6 gx 0 _) HG.out.2.2) ho8 H4.out.2.2.2.2.2.2
  have ho8' : Only [wa.heap.size, wa.heap.size + 1, gx] wa w8 := (((H6.out.2.1.weaken (by simp)).trans ((only_set w6 gx 0 _).weaken (by simp))).trans (ho8.weaken (by simp)))
  have hsz8 := H6.out.2.1.size
  have hlt6 := H6.out.1.lt
  have hylt := (World.ownsRow.lt H6.out.2.2) gy rfl
  have hga' : w6.heap.size ≤ ga := by simpa using hga
  have hstr1 := run_str w8 (some ⟨ga, 0, none⟩) (F + 1) ca Z (Bytes.of_owns howna).1 HZ.out.2
  have hstr2 := run_str w8 (some ⟨gy, 0, none⟩) (F + 1) cy Z (Bytes.of_owns hy8).1 HZ.out.2
  have f0 : w8.frozen? ⟨ga, 0, none⟩ = false := howna.frozenAt 0
  have c0 : w8.cell? ⟨ga, 0, none⟩ = some (.int .u8 ((Z.getD 0 0).toNat : Int)) := by
    have h' := (Bytes.of_owns howna).1.cell _ rfl 0 (by have := HZ.out.2; omega)
    exact h'
  obtain ⟨z1', hz1'⟩ : ∃ t : Int, t = ((Z.getD 0 0).toNat : Int) := ⟨_, rfl⟩
  rw [← hz1'] at c0
  have hRa : wa.heap.size ∉ [ga] := by simp; omega
  have hSa : wa.heap.size + 1 ∉ [ga] := by simp; omega
  have hya : gy ∉ [ga] := by simp; omega
  have H8 := Lib.hid (And.intro (hr8.of_only (only_set w8 ga 0 (.int .u8 0)) hRa hSa) (And.intro ho8' (And.intro hy8 (And.intro hRa (And.intro hSa hya)))))
  have HR8 := Lib.hid hr8
  have hgawa : wa.heap.size ≤ ga := by omega
  have hgxwa : wa.heap.size ≤ gx := by have := HOA.out.size; omega
  clear hr8 ho8 ho8' hy8 hsz8 hlt6 hylt hga howna hRa hSa hya hz1'
  go_wp2_with fail
  have hr9 := (HR8.out.of_only (only_set w8 ga 0 (.int .u8 ((z1' + a1) % 256))) H8.out.2.2.2.1 H8.out.2.2.2.2.1).drew
  have hy9 := (owns_only H8.out.2.2.1 (only_set w8 ga 0 (.int .u8 ((z1' + a1) % 256))) H8.out.2.2.2.2.2).drew
  have hstr3 := run_str _ (some ⟨gy, 0, none⟩) (F + 1) cy Z (Bytes.of_owns hy9).1 HZ.out.2
  have H9 := Lib.hid (And.intro hr9 hy9)
  clear hr9 hy9 hstr1 hstr2 c0 f0
  go_region_with (go_at_call 12; refine (take_some _ _ 200 _ Z 0 _ (F + 1) _ H9.out.1 (.inl ⟨by simp, by have := HZ.out.2; omega⟩) (by omega)).mono ?_; rintro e w10 ⟨gb, cb, rfl, hgb, hcb, hownb, hr10, ho10⟩; rw [HT.out.1] at hownb; have hstr4 := run_str w10 (some ⟨gb, 0, none⟩) (F + 1) cb Z (Bytes.of_owns hownb).1 HZ.out.2; have hstr5 := run_str w10 (some ⟨gy, 0, none⟩) (F + 1) cy Z (Bytes.of_owns (owns_only H9.out.2 ho10 H4.out.2.2.2.2.2.2)).1 HZ.out.2; have H10 := Lib.hid ho10; clear hownb hr10 ho10 hgb hcb)
  all_goals go_wp2
  all_goals go_ret
  all_goals exact ⟨rfl, HB.out.trans ((((H8.out.2.1.weaken (cs := [wa.heap.size, wa.heap.size + 1, gx, ga]) (by simp)).trans ((only_set w8 ga 0 (.int .u8 ((z1' + a1) % 256))).drew.weaken (by simp))).trans (H10.out.weaken (by simp))).below HB.out.size (by have := HB.out.size; simp; omega))⟩

/-! ### THE ROW's STEP: WRITTEN OUT: LEAVE IT -/
set_option maxRecDepth 100000 in
theorem lifted (os : Os) (started : os.Started) (H : Type) (enc : TypeId × Value → H) :
    ReturnsInHanded {} Try.checked os 6 .any (Rows.ringOwnSpec.pre6 enc Try.prog Try.f6 Rows.ringOwnRow.domain false) (Rows.ringOwnSpec.post enc Try.prog Try.f6 false true false false) := by
  refine returnsInHanded_of_change (C := Try.checked) own started (by kernel_rfl) Try.func6
    (ChangeSpec.witness6 (enc := enc) (C := Try.checked) false ⟨#[], #[.slice none 0 0, .int .u8 0], []⟩ 8 (by kernel_rfl) (by kernel_rfl) (by kernel_rfl) (by kernel_rfl)) ?_
  intro W base args ds gs before hval0 hW hcnd _
  have hval : ∀ (j : Nat) t v, Try.f6.params[j]? = some t → args[j]? = some v → Value.okWide Try.prog W .any base t v := hval0
  have hW' := hW
  obtain ⟨p, q, hA0, hV, rfl, hfz, hnd⟩ := hW
  have hA : DataW.TrodAll enc Try.prog W 0 (fun _ => true) true Try.f6.params.toList args.toList ds p := hA0
  rw [Try.params6] at hA hval
  obtain ⟨v0, vs0, d0, ds0, p0, q0, hargs, rfl, rfl, h0, r0⟩ := trodAll_cons hA
  obtain ⟨v1, vs1, d1, ds1, p1, q1, rfl, rfl, rfl, h1, r1⟩ := trodAll_cons r0
  obtain ⟨rfl, rfl, rfl⟩ := trodAll_nil r1
  obtain rfl : args = #[v0, v1] := by cases args; simp_all
  obtain ⟨rfl, rfl⟩ := trodVars_none hV
  obtain ⟨a0, len0, cap0, rfl⟩ := okWide_slice Try.underlying26 (hval 0 26 v0 rfl rfl)
  have k0 := h0
  have lt0 : ∀ x ∈ p0, x.block < W.heap.size := by obtain ⟨m, hm⟩ := k0; exact DataW.trod_lt m _ _ _ hm
  obtain ⟨z0, w0⟩ : ∃ zs, IsRow .u8 W a0 len0 cap0 zs := by
    obtain ⟨fuel, hf⟩ := h0
    rcases open_ints Try.underlying26 Try.underlying5 (by kernel_rfl) hf with ⟨hcs, _⟩ | ⟨x, l, c, zs, hcs, _, hl, hm, hz, _, hcell, hwz⟩
    · simp [Value.cells] at hcs
      obtain ⟨rfl, rfl, rfl⟩ := hcs
      exact ⟨[], .inl ⟨rfl, rfl, rfl, rfl⟩⟩
    · simp [Value.cells] at hcs
      obtain ⟨rfl, rfl, rfl⟩ := hcs
      exact ⟨zs, .inr ⟨_, rfl, hl, hm, by simpa using hz, hcell, hwz⟩⟩
  obtain ⟨a1, rfl, rfl, rfl, w1⟩ := open_int Try.underlying5 (hval 1 5 v1 rfl rfl) h1
  clear hA0 hval0
  refine (walk a0 len0 cap0 z0 a1 W w0 w1).mono fun e W' ⟨he, bel⟩ => ?_
  subst he
  exact ⟨_, rfl, _, _, _, [], _, [], hW', trodAll_mk1 (shut_bool Try.underlying4 _), (trodAll_cons_mk (Below.trod laidOut (by kernel_rfl) (of_decide_eq_true (by kernel_rfl)) k0 bel lt0) (trodAll_cons_mk (shut_int Try.underlying5 w1) trodAll_mk0)), rfl, bel.frame _, fun h => by cases h⟩

theorem over : Rows.ringOwnRow.holds Try.pinned (OpenSpec.ofChange Rows.ringOwnSpec) :=
  OpenClaim.holds_of_wide 6 Try.f6 rfl rfl rfl rfl rfl rfl rfl ⟨rfl, rfl, rfl, rfl, rfl⟩ rfl rfl rfl rfl rfl (by kernel_rfl) Try.func6 (by kernel_rfl)
    (of_decide_eq_true (by kernel_rfl)) (by unfold Func.isWrapper; first | (rw [if_pos (by decide +kernel)]; kernel_rfl) | (rw [if_neg (by decide +kernel)]; exact ⟨rfl, rfl⟩))
    (fun os started H enc _ => lifted os started H enc)

/-- ████ THE STATEMENT ████ -/
theorem proved : Rows.RingOwnSaid := over
#print axioms proved
end Go.Proofs.Ytfnglidobljlgaa.ringOwn
