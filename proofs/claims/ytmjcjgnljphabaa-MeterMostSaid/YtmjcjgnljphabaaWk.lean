/-
  The contracts of the functions of package meter that the laws reach, and of the laws' own helpers: what each call answers; the world stays as it was.
-/
import Derived.Test.YtmjcjgnljphabaaRows
import Derived.Test.YtmjcjgnljphabaaFl
import Derived.WalkKit
import Derived.WalkSpells
import Derived.WalkLawsBesides
import Derived.IntWalk
namespace Go.Proofs.Ytmjcjgnljphabaa
open Go.RowKit

def fitI (n : Int) : Int := if n ≤ 0 then 0 else if n ≤ 1099511627776 then n else 1099511627776
def capI (n : Int) : Int := if n ≤ 1099511627776 then n else 1099511627776

theorem fitI_bd (n : Int) : 0 ≤ fitI n ∧ fitI n ≤ 1099511627776 := by unfold fitI; split <;> (try split) <;> omega
theorem capI_bd (n : Int) (h : 0 ≤ n) : 0 ≤ capI n ∧ capI n ≤ 1099511627776 := by unfold capI; split <;> omega

theorem fl_most : floatOfInt .f64 1099511627776 = 4787326403894837248 := by decide

/-- min of two floats of whole numbers. -/
theorem run_min_fl {P : Program} (w : World) (ts : Array TypeId) (t : TypeId) (a : Int) (ha : 0 ≤ a) (h : a < 9007199254740992) :
    (Builtin.min_ ts t #[.float .f64 (floatOfInt .f64 a), .float .f64 4787326403894837248]).run P w = .ok (.float .f64 (floatOfInt .f64 (capI a))) w := by
  have ho := order_fl a 1099511627776 ha (by omega) h (by omega)
  have hn := neg_fl a ha h
  rw [← fl_most]
  unfold capI
  have ho' : FloatKind.f64.format.order (floatOfInt .f64 a) (floatOfInt .f64 1099511627776) = some (if a < 1099511627776 then .lt else if a = 1099511627776 then .eq else .gt) := ho
  have hn' : (FloatKind.f64.decode (floatOfInt .f64 a)).neg = false := hn
  rcases Int.lt_trichotomy a 1099511627776 with c | c | c
  · rw [if_pos c] at ho'
    rw [if_pos (by omega)]
    simp [Builtin.min_, Builtin.min2, ho']
  · rw [if_neg (by omega), if_pos c] at ho'
    rw [if_pos (by omega)]
    simp [Builtin.min_, Builtin.min2, ho', hn']; rw [c]
  · rw [if_neg (by omega), if_neg (by omega)] at ho'
    rw [if_neg (by omega)]
    simp [Builtin.min_, Builtin.min2, ho']

set_option maxHeartbeats 400000 in
theorem whole_any (n : Int) (w : World) :
    Calls Try.prog 16 #[.int .i64 n] w fun e w' => e = .returned (.float .f64 (floatOfInt .f64 (fitI n))) ∧ w = w' := by
  unfold fitI
  by_cases c1 : n ≤ 0
  · rw [if_pos c1]
    go_enter Try.func16, Try.ntmps16
    go_wp2
    go_ret
    exact ⟨rfl, rfl⟩
  · by_cases c2 : n ≤ 1099511627776
    · rw [if_neg c1, if_pos c2]
      go_enter Try.func16, Try.ntmps16
      go_wp2
      go_ret
      exact ⟨rfl, rfl⟩
    · rw [if_neg c1, if_neg c2]
      go_enter Try.func16, Try.ntmps16
      go_wp2
      go_ret
      exact ⟨rfl, rfl⟩

set_option maxHeartbeats 400000 in
theorem fit_any (n : Int) (w : World) :
    Calls Try.prog 11 #[.int .i64 n] w fun e w' => e = .returned (.int .i64 (fitI n)) ∧ w = w' := by
  unfold fitI
  by_cases c1 : n ≤ 0
  · rw [if_pos c1]
    go_enter Try.func11, Try.ntmps11
    go_wp2
    go_ret
    exact ⟨rfl, rfl⟩
  · by_cases c2 : n ≤ 1099511627776
    · rw [if_neg c1, if_pos c2]
      go_enter Try.func11, Try.ntmps11
      go_wp2
      go_ret
      exact ⟨rfl, rfl⟩
    · rw [if_neg c1, if_neg c2]
      go_enter Try.func11, Try.ntmps11
      go_wp2
      go_ret
      exact ⟨rfl, rfl⟩

set_option maxHeartbeats 400000 in
theorem well_any (a : Int) (b : Nat) (ha : 0 ≤ a) (h : a ≤ 1099511627776) (w : World) :
    Calls Try.prog 12 #[.complex .f64 (floatOfInt .f64 a) b] w fun e w' => e = .returned (.int .i64 a) ∧ w = w' := by
  have hc : ∀ w, (convert 36 3 (.float .f64 (floatOfInt .f64 a))).run Try.prog w = .ok (.int .i64 a) w := fun w => run_convert_float_int w 36 3 .f64 .i64 _ a (by rw [Try.underlying36]; rfl) Try.underlying3 (cut_fl a ha (by omega))
  go_enter Try.func12, Try.ntmps12
  go_wp2_with (simp only [hc])
  go_ret
  exact ⟨rfl, rfl⟩

set_option maxHeartbeats 400000 in
theorem ill_any (a : Int) (b : Nat) (ha : 0 ≤ a) (h : a ≤ 1099511627776) (w : World) :
    Calls Try.prog 13 #[.complex .f64 b (floatOfInt .f64 a)] w fun e w' => e = .returned (.int .i64 a) ∧ w = w' := by
  have hc : ∀ w, (convert 36 3 (.float .f64 (floatOfInt .f64 a))).run Try.prog w = .ok (.int .i64 a) w := fun w => run_convert_float_int w 36 3 .f64 .i64 _ a (by rw [Try.underlying36]; rfl) Try.underlying3 (cut_fl a ha (by omega))
  go_enter Try.func13, Try.ntmps13
  go_wp2_with (simp only [hc])
  go_ret
  exact ⟨rfl, rfl⟩

set_option maxHeartbeats 400000 in
theorem make_any (a b : Int) (w : World) :
    Calls Try.prog 9 #[.int .u16 a, .int .u16 b] w fun e w' => e = .returned (.complex .f64 (floatOfInt .f64 a) (floatOfInt .f64 b)) ∧ w = w' := by
  go_enter Try.func9, Try.ntmps9
  go_wp2
  go_ret
  exact ⟨rfl, rfl⟩

set_option maxHeartbeats 400000 in
theorem add_any (a b n m : Int) (ha : 0 ≤ a) (h : a ≤ 1099511627776) (hb : 0 ≤ b) (h' : b ≤ 1099511627776) (w : World) :
    Calls Try.prog 10 #[.complex .f64 (floatOfInt .f64 a) (floatOfInt .f64 b), .int .i64 n, .int .i64 m] w fun e w' =>
      e = .returned (.complex .f64 (floatOfInt .f64 (capI (a + fitI n))) (floatOfInt .f64 (capI (b + fitI m)))) ∧ w = w' := by
  have hn := fitI_bd n
  have hm := fitI_bd m
  have h1 : ∀ t w, (binOp .add t (.float .f64 (floatOfInt .f64 a)) (.float .f64 (floatOfInt .f64 (fitI n)))).run Try.prog w = .ok (.float .f64 (floatOfInt .f64 (a + fitI n))) w := fun t w => run_float_arith w .add t .f64 _ _ _ (add_fl _ _ ha hn.1 (by omega))
  have h2 : ∀ t w, (binOp .add t (.float .f64 (floatOfInt .f64 b)) (.float .f64 (floatOfInt .f64 (fitI m)))).run Try.prog w = .ok (.float .f64 (floatOfInt .f64 (b + fitI m))) w := fun t w => run_float_arith w .add t .f64 _ _ _ (add_fl _ _ hb hm.1 (by omega))
  have h3 := fun (w : World) ts t => run_min_fl (P := Try.prog) w ts t (a + fitI n) (by omega) (by omega)
  have h4 := fun (w : World) ts t => run_min_fl (P := Try.prog) w ts t (b + fitI m) (by omega) (by omega)
  go_enter Try.func10, Try.ntmps10
  go_wp2_with (first | (go_at_call 16; refine (whole_any _ _).mono ?_; rintro e w' ⟨rfl, rfl⟩))
  go_ret
  exact ⟨rfl, rfl⟩

theorem share_nn (a b : Int) (ha : 0 ≤ a) (h : a ≤ 1099511627776) (hb : 0 ≤ b) (h' : b ≤ 1099511627776) : 0 ≤ a * 100 / (a + b) ∧ a * 100 / (a + b) ≤ 100 := by
  constructor
  · exact Int.ediv_nonneg (by omega) (by omega)
  · by_cases e : a + b = 0
    · rw [e, Int.ediv_zero]; omega
    · exact Int.le_of_lt_add_one (Int.ediv_lt_of_lt_mul (by omega) (by omega))

def shareI (a b : Int) : Int := if a + b = 0 then 100 else a * 100 / (a + b)

set_option maxHeartbeats 400000 in
theorem share_any (a b : Int) (ha : 0 ≤ a) (h : a ≤ 1099511627776) (hb : 0 ≤ b) (h' : b ≤ 1099511627776) (w : World) :
    Calls Try.prog 14 #[.complex .f64 (floatOfInt .f64 a) (floatOfInt .f64 b)] w fun e w' => e = .returned (.int .i64 (shareI a b)) ∧ w = w' := by
  unfold shareI
  by_cases c : a + b = 0
  · rw [if_pos c]
    go_enter Try.func14, Try.ntmps14
    go_wp2_with (first | (go_at_call 12; refine (well_any _ _ ha h _).mono ?_; rintro e w' ⟨rfl, rfl⟩) | (go_at_call 13; refine (ill_any _ _ hb h' _).mono ?_; rintro e w' ⟨rfl, rfl⟩))
    go_ret
    exact ⟨rfl, rfl⟩
  · rw [if_neg c]
    have hc : ((a + b : Int) == 0) = false := by simpa using c
    go_enter Try.func14, Try.ntmps14
    go_wp2_with (first | (go_at_call 12; refine (well_any _ _ ha h _).mono ?_; rintro e w' ⟨rfl, rfl⟩) | (go_at_call 13; refine (ill_any _ _ hb h' _).mono ?_; rintro e w' ⟨rfl, rfl⟩))
    go_ret
    exact ⟨rfl, rfl⟩

theorem add_start (w : World) :
    Calls Try.prog 10 #[.complex .f64 0 0, .int .i64 3, .int .i64 1] w fun e w' => e = .returned (.complex .f64 (floatOfInt .f64 3) (floatOfInt .f64 1)) ∧ w = w' := by
  have := add_any 0 0 3 1 (by omega) (by omega) (by omega) (by omega) w
  rw [fl_zero] at this
  exact this

theorem eq3 : (FloatKind.f64.format.order (floatOfInt .f64 3) 4613937818241073152 == some .eq) = true := by decide
theorem eq1 : (FloatKind.f64.format.order (floatOfInt .f64 1) 4607182418800017408 == some .eq) = true := by decide

set_option maxHeartbeats 400000 in
theorem awake_any (w : World) :
    Calls Try.prog 8 #[] w fun e w' => e = .returned (.bool true) ∧ w = w' := by
  have h3 := eq3
  have h1 := eq1
  have hs : shareI 3 1 = 75 := by decide
  go_enter Try.func8, Try.ntmps8
  go_wp2_with (first | (go_at_call 10; refine (add_start _).mono ?_; rintro e w' ⟨rfl, rfl⟩) | (go_at_call 12; refine (well_any 3 _ (by omega) (by omega) _).mono ?_; rintro e w' ⟨rfl, rfl⟩) | (go_at_call 14; refine (share_any 3 1 (by omega) (by omega) (by omega) (by omega) _).mono ?_; rintro e w' ⟨rfl, rfl⟩))
  go_ret
  exact ⟨rfl, rfl⟩

theorem u16_bd {a : Int} (h : (Lit.int .u16 a).wf = true) : 0 ≤ a ∧ a ≤ 65535 := by
  simp [Lit.wf] at h
  have e1 : IntKind.u16.min = 0 := by decide
  have e2 : IntKind.u16.max = 65535 := by decide
  omega

theorem u8_bd {a : Int} (h : (Lit.int .u8 a).wf = true) : 0 ≤ a ∧ a ≤ 255 := by
  simp [Lit.wf] at h
  have e1 : IntKind.u8.min = 0 := by decide
  have e2 : IntKind.u8.max = 255 := by decide
  omega

theorem fitI_nn (n : Int) (h : 0 ≤ n) : fitI n = capI n := by
  unfold fitI capI
  split
  · split <;> omega
  · rfl

theorem share_bd (a b : Int) (ha : 0 ≤ a) (h : a ≤ 1099511627776) (hb : 0 ≤ b) (h' : b ≤ 1099511627776) : 0 ≤ shareI a b ∧ shareI a b ≤ 100 := by
  unfold shareI
  split
  · omega
  · exact share_nn a b ha h hb h'

theorem share_pure (a b : Int) (ha : 0 ≤ a) (hb : 0 ≤ b) (hm : a + b ≤ 131070) (h : 0 < a + b) :
    shareI a b * (a + b) ≤ 100 * a ∧ 100 * a < (shareI a b + 1) * (a + b) ∧ 0 ≤ shareI a b * (a + b) ∧ (shareI a b + 1) * (a + b) ≤ 101 * 131070 := by
  unfold shareI
  rw [if_neg (by omega)]
  have h1 := Int.ediv_mul_le (a * 100) (show a + b ≠ 0 by omega)
  have h2 := Int.lt_ediv_add_one_mul_self (a * 100) h
  have h3 : 0 ≤ a * 100 / (a + b) := Int.ediv_nonneg (by omega) (by omega)
  have h4 : 0 ≤ a * 100 / (a + b) * (a + b) := Int.mul_nonneg h3 (by omega)
  have h5 : (a * 100 / (a + b) + 1) * (a + b) = a * 100 / (a + b) * (a + b) + (a + b) := by rw [Int.add_mul, Int.one_mul]
  rw [h5] at h2 ⊢
  omega

theorem add_first (a : Int) (l : 0 ≤ a) (u : a ≤ 65535) (w : World) :
    Calls Try.prog 10 #[.complex .f64 (floatOfInt .f64 a) (floatOfInt .f64 a), .int .i64 4611686018427387904, .int .i64 4611686018427387904] w fun e w' =>
      e = .returned (.complex .f64 (floatOfInt .f64 1099511627776) (floatOfInt .f64 1099511627776)) ∧ w = w' := by
  have h := add_any a a 4611686018427387904 4611686018427387904 l (by omega) l (by omega) w
  have e1 : fitI 4611686018427387904 = 1099511627776 := by decide
  have e2 : capI (a + 1099511627776) = 1099511627776 := by unfold capI; split <;> omega
  rw [e1, e2] at h
  exact h

theorem add_more (n : Int) (h : n ≤ 0) (w : World) :
    Calls Try.prog 10 #[.complex .f64 (floatOfInt .f64 1099511627776) (floatOfInt .f64 1099511627776), .int .i64 1099511627776, .int .i64 n] w fun e w' =>
      e = .returned (.complex .f64 (floatOfInt .f64 1099511627776) (floatOfInt .f64 1099511627776)) ∧ w = w' := by
  have h2 := add_any 1099511627776 1099511627776 1099511627776 n (by omega) (by omega) (by omega) (by omega) w
  have e1 : fitI 1099511627776 = 1099511627776 := by decide
  have e2 : capI (1099511627776 + 1099511627776) = 1099511627776 := by decide
  have e3 : fitI n = 0 := by unfold fitI; rw [if_pos h]
  have e4 : capI (1099511627776 + 0) = 1099511627776 := by decide
  rw [e1, e2, e3, e4] at h2
  exact h2

def worseB (a b c d : Int) : Bool := if shareI a b = shareI c d then decide (d < b) else decide (shareI a b < shareI c d)

set_option maxHeartbeats 400000 in
theorem worse_any (a b c d : Int) (ha : 0 ≤ a) (ha' : a ≤ 1099511627776) (hb : 0 ≤ b) (hb' : b ≤ 1099511627776) (hc : 0 ≤ c) (hc' : c ≤ 1099511627776) (hd : 0 ≤ d) (hd' : d ≤ 1099511627776) (w : World) :
    Calls Try.prog 15 #[.complex .f64 (floatOfInt .f64 a) (floatOfInt .f64 b), .complex .f64 (floatOfInt .f64 c) (floatOfInt .f64 d)] w fun e w' => e = .returned (.bool (worseB a b c d)) ∧ w = w' := by
  unfold worseB
  by_cases h : shareI a b = shareI c d
  · rw [if_pos h]
    have h' : (shareI a b == shareI c d) = true := by simpa using h
    clear h
    go_enter Try.func15, Try.ntmps15
    go_wp2_with (first | (go_at_call 14; refine (share_any _ _ (by omega) (by omega) (by omega) (by omega) _).mono ?_; rintro e w' ⟨rfl, rfl⟩) | (go_at_call 13; refine (ill_any _ _ (by omega) (by omega) _).mono ?_; rintro e w' ⟨rfl, rfl⟩))
    go_ret
    exact ⟨rfl, rfl⟩
  · rw [if_neg h]
    have h' : (shareI a b == shareI c d) = false := by simpa using h
    clear h
    go_enter Try.func15, Try.ntmps15
    go_wp2_with (first | (go_at_call 14; refine (share_any _ _ (by omega) (by omega) (by omega) (by omega) _).mono ?_; rintro e w' ⟨rfl, rfl⟩) | (go_at_call 13; refine (ill_any _ _ (by omega) (by omega) _).mono ?_; rintro e w' ⟨rfl, rfl⟩))
    go_ret
    exact ⟨rfl, rfl⟩

theorem worse_self (a b : Int) : worseB a b a b = false := by
  unfold worseB; rw [if_pos rfl]; simp

theorem worse_less (a b c d : Int) (h : shareI a b < shareI c d) : worseB a b c d = true := by
  unfold worseB; rw [if_neg (by omega)]; simpa using h

theorem worse_more (a b c d : Int) (h : shareI c d < shareI a b) : worseB a b c d = false := by
  unfold worseB; rw [if_neg (by omega)]; simp; omega

theorem worse_same (a b c d : Int) (h : shareI a b = shareI c d) : worseB a b c d = decide (d < b) := by
  unfold worseB; rw [if_pos h]

theorem worse_iff (a b c d : Int) : worseB a b c d = true ↔ (shareI a b < shareI c d ∨ (shareI a b = shareI c d ∧ d < b)) := by
  rcases Int.lt_trichotomy (shareI a b) (shareI c d) with h | h | h
  · rw [worse_less _ _ _ _ h]; simp [h]
  · rw [worse_same _ _ _ _ h]; simp; omega
  · rw [worse_more _ _ _ _ h]; simp; omega

theorem worse_trans (a b c d e f : Int) (h1 : worseB a b c d = true) (h2 : worseB c d e f = true) : worseB a b e f = true := by
  rw [worse_iff] at *; omega

theorem worse_asym (a b c d : Int) (h1 : worseB a b c d = true) : worseB c d a b = false := by
  rw [Bool.eq_false_iff]; intro h
  rw [worse_iff] at *; omega

theorem worse_none (a b c d : Int) (h1 : worseB a b c d = false) (h2 : worseB c d a b = false) : shareI a b = shareI c d ∧ b = d := by
  rw [Bool.eq_false_iff, ne_eq, worse_iff] at *; omega

end Go.Proofs.Ytmjcjgnljphabaa
