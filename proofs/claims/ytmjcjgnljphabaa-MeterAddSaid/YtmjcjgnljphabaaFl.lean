/-
  Plain facts on float64 at whole numbers from 0 to 2 ^ 53: reading, adding, ordering and cutting them is exact. No program in sight.
-/
import Derived.Laws.FloatArith
import Derived.WalkLawsBesides
namespace Go.Proofs.Ytmjcjgnljphabaa
open Ieee

/-- A datum that stands for the whole number n, by e digits behind the point. -/
def Whole (d : Datum) (n : Nat) : Prop := ∃ e : Nat, e ≤ 1074 ∧ d = .number false (n * 2 ^ e) (-(e : Int))

theorem log2_mul_pow (n e : Nat) (h : n ≠ 0) : (n * 2 ^ e).log2 = n.log2 + e := by
  have hm : n * 2 ^ e ≠ 0 := Nat.mul_ne_zero h (Nat.ne_of_gt (Nat.pow_pos (by decide)))
  rw [Nat.log2_eq_iff hm]
  have h1 := Nat.log2_self_le h
  have h2 := Nat.lt_log2_self (n := n)
  constructor
  · rw [Nat.pow_add]; exact Nat.mul_le_mul_right _ h1
  · rw [show n.log2 + e + 1 = (n.log2 + 1) + e by omega, Nat.pow_add]
    exact Nat.mul_lt_mul_of_pos_right h2 (Nat.pow_pos (by decide))

theorem cut_whole (way : Toward) (n e : Nat) : way.cut false (n * 2 ^ e) e = n := by
  unfold Toward.cut
  by_cases h : n = 0
  · subst h
    cases way <;> simp [Nat.shiftLeft_eq] <;> exact Nat.pow_pos (by decide)
  · have hm : min e ((n * 2 ^ e).log2 + 2) = e := by rw [log2_mul_pow n e h]; omega
    have hp : 0 < 2 ^ e := Nat.pow_pos (by decide)
    have hd : n * 2 ^ e / 2 ^ e = n := Nat.mul_div_cancel _ hp
    have hr : n * 2 ^ e % 2 ^ e = 0 := Nat.mul_mod_left _ _
    rw [hm]
    cases way <;> simp [Nat.shiftLeft_eq, hd, hr] <;> omega

/-- The rung of a whole number that is not nought. -/
def rungOf (n : Nat) : Nat := (n.log2 + 1022) * 4503599627370496 + n * 2 ^ (52 - n.log2)

theorem log2_lt_53 (n : Nat) (h : n < 9007199254740992) : n.log2 < 53 := by
  by_cases h0 : n = 0
  · subst h0; decide
  · exact (Nat.log2_lt h0).2 (by simpa using h)

theorem signif (n : Nat) (h0 : n ≠ 0) (h : n < 9007199254740992) : 4503599627370496 ≤ n * 2 ^ (52 - n.log2) ∧ n * 2 ^ (52 - n.log2) < 9007199254740992 := by
  have hl := log2_lt_53 n h
  have h1 := Nat.log2_self_le h0
  have h2 := Nat.lt_log2_self (n := n)
  have hp : 0 < 2 ^ (52 - n.log2) := Nat.pow_pos (by decide)
  constructor
  · have : 2 ^ n.log2 * 2 ^ (52 - n.log2) ≤ n * 2 ^ (52 - n.log2) := Nat.mul_le_mul_right _ h1
    rw [← Nat.pow_add, show n.log2 + (52 - n.log2) = 52 by omega] at this
    simpa using this
  · have : n * 2 ^ (52 - n.log2) < 2 ^ (n.log2 + 1) * 2 ^ (52 - n.log2) := Nat.mul_lt_mul_of_pos_right h2 hp
    rw [← Nat.pow_add, show n.log2 + 1 + (52 - n.log2) = 53 by omega] at this
    simpa using this

theorem leastPlace_double : double.leastPlace = -1074 := by decide
theorem binade_double : double.binade = 4503599627370496 := by decide
theorem infRung_double : double.infRung = 9218868437227405312 := by decide
theorem signWeight_double : double.signWeight = 9223372036854775808 := by decide
theorem fractionBits_double : double.fractionBits = 52 := rfl

theorem write_whole {d : Datum} {n : Nat} (hd : Whole d n) (h0 : n ≠ 0) (h : n < 9007199254740992) : double.write d = rungOf n := by
  obtain ⟨e, he, rfl⟩ := hd
  have hl := log2_lt_53 n h
  have hs := signif n h0 h
  have hm : n * 2 ^ e ≠ 0 := Nat.mul_ne_zero h0 (Nat.ne_of_gt (Nat.pow_pos (by decide)))
  have hlast : max (-(e : Int) + ((n * 2 ^ e).log2 : Nat) - (52 : Nat)) (-1074) = (n.log2 : Int) - 52 := by
    rw [log2_mul_pow n e h0]; omega
  have hkept : Toward.even.cut false ((n * 2 ^ e) <<< (-(e : Int) - ((n.log2 : Int) - 52)).toNat) ((n.log2 : Int) - 52 - -(e : Int)).toNat = n * 2 ^ (52 - n.log2) := by
    by_cases c : e + n.log2 ≤ 52
    · have e1 : (-(e : Int) - ((n.log2 : Int) - 52)).toNat = 52 - n.log2 - e := by omega
      have e2 : ((n.log2 : Int) - 52 - -(e : Int)).toNat = 0 := by omega
      rw [e1, e2, Nat.shiftLeft_eq]
      have := cut_whole .even (n * 2 ^ e * 2 ^ (52 - n.log2 - e)) 0
      rw [Nat.pow_zero, Nat.mul_one] at this
      rw [this, Nat.mul_assoc, ← Nat.pow_add, show e + (52 - n.log2 - e) = 52 - n.log2 by omega]
    · have e1 : (-(e : Int) - ((n.log2 : Int) - 52)).toNat = 0 := by omega
      have e2 : ((n.log2 : Int) - 52 - -(e : Int)).toNat = e + n.log2 - 52 := by omega
      rw [e1, e2, Nat.shiftLeft_eq, Nat.pow_zero, Nat.mul_one]
      have := cut_whole .even (n * 2 ^ (52 - n.log2)) (e + n.log2 - 52)
      rw [Nat.mul_assoc, ← Nat.pow_add, show 52 - n.log2 + (e + n.log2 - 52) = e by omega] at this
      exact this
  show double.nearest false (n * 2 ^ e) (-(e : Int)) = _
  unfold Format.nearest
  rw [if_neg hm, leastPlace_double, fractionBits_double, binade_double, infRung_double, hlast]
  simp only [hkept]
  unfold Format.word rungOf
  have e3 : ((n.log2 : Int) - 52 - -1074).toNat = n.log2 + 1022 := by omega
  rw [e3]
  simp only [Bool.false_eq_true, if_false]
  have : (n.log2 + 1022) * 4503599627370496 ≤ 1074 * 4503599627370496 := Nat.mul_le_mul_right _ (by omega)
  omega

theorem fl_eq (n : Nat) : floatOfInt .f64 (n : Int) = double.write (.number false n 0) := by
  unfold floatOfInt FloatKind.nearest FloatKind.encode
  have : decide ((n : Int) < 0) = false := by simp
  rw [this]; rfl

theorem whole_self (n : Nat) : Whole (.number false n 0) n := ⟨0, by omega, by simp⟩

theorem fl_rung (n : Nat) (h0 : n ≠ 0) (h : n < 9007199254740992) : floatOfInt .f64 (n : Int) = rungOf n := by
  rw [fl_eq]; exact write_whole (whole_self n) h0 h

theorem fl_zero : floatOfInt .f64 (0 : Int) = 0 := by decide

/-- THE READING of the float of a whole number. -/
theorem read_fl (n : Nat) (h : n < 9007199254740992) : Whole (double.read (floatOfInt .f64 (n : Int))) n := by
  by_cases h0 : n = 0
  · subst h0
    obtain ⟨k, hk⟩ : ∃ k : Nat, k = 1074 := ⟨_, rfl⟩
    refine ⟨k, by omega, ?_⟩
    rw [show ((0 : Nat) : Int) = 0 from rfl, fl_zero, Nat.zero_mul, hk]; decide
  · have hl := log2_lt_53 n h
    have hs := signif n h0 h
    rw [fl_rung n h0 h]
    refine ⟨52 - n.log2, by omega, ?_⟩
    have hb : rungOf n < 9218868437227405312 := by
      unfold rungOf
      have : (n.log2 + 1022) * 4503599627370496 ≤ 1074 * 4503599627370496 := Nat.mul_le_mul_right _ (by omega)
      omega
    have hge : 4503599627370496 ≤ rungOf n := by unfold rungOf; omega
    have hdiv : rungOf n / 4503599627370496 = n.log2 + 1023 := by unfold rungOf; omega
    have hmod : 4503599627370496 + rungOf n % 4503599627370496 = n * 2 ^ (52 - n.log2) := by unfold rungOf; omega
    unfold Format.read
    rw [signWeight_double, binade_double, infRung_double, leastPlace_double]
    have e1 : rungOf n % 9223372036854775808 = rungOf n := Nat.mod_eq_of_lt (by omega)
    have e2 : rungOf n / 9223372036854775808 = 0 := Nat.div_eq_of_lt (by omega)
    simp only [e1, e2, hdiv, hmod]
    rw [if_neg (by omega), if_pos hb]
    have e3 : (-1074 : Int) + ((n.log2 + 1023 - 1 : Nat) : Int) = -((52 - n.log2 : Nat) : Int) := by omega
    rw [e3]; rfl

theorem signed_false (m k : Nat) : signed false m k = ((m * 2 ^ k : Nat) : Int) := by
  unfold signed; simp [Nat.shiftLeft_eq]

theorem sum_whole {d d' : Datum} {n m : Nat} (hd : Whole d n) (hd' : Whole d' m) : ∃ r, d.sum d' = some r ∧ Whole r (n + m) := by
  obtain ⟨e, he, rfl⟩ := hd
  obtain ⟨e', he', rfl⟩ := hd'
  simp only [Datum.sum, signed_false]
  refine ⟨_, rfl, max e e', by omega, ?_⟩
  have hb : min (-(e : Int)) (-(e' : Int)) = -((max e e' : Nat) : Int) := by omega
  rw [hb]
  have e1 : (-(e : Int) - -((max e e' : Nat) : Int)).toNat = max e e' - e := by omega
  have e2 : (-(e' : Int) - -((max e e' : Nat) : Int)).toNat = max e e' - e' := by omega
  rw [e1, e2, Nat.mul_assoc, Nat.mul_assoc, ← Nat.pow_add, ← Nat.pow_add, show e + (max e e' - e) = max e e' by omega, show e' + (max e e' - e') = max e e' by omega]
  rw [← Int.natCast_add, ← Nat.add_mul, Int.natAbs_natCast]
  have hn : ¬ ((((n + m) * 2 ^ max e e' : Nat) : Int) < 0) := by omega
  have hb : (if (((n + m) * 2 ^ max e e' : Nat) : Int) = 0 then (false && false) else decide ((((n + m) * 2 ^ max e e' : Nat) : Int) < 0)) = false := by
    rw [decide_eq_false hn]; simp
  rw [hb]

theorem pow_pos2 (k : Nat) : 0 < 2 ^ k := Nat.pow_pos (by decide)

theorem order_whole {d d' : Datum} {n m : Nat} (hd : Whole d n) (hd' : Whole d' m) : d.order d' = some (if n < m then .lt else if n = m then .eq else .gt) := by
  obtain ⟨e, he, rfl⟩ := hd
  obtain ⟨e', he', rfl⟩ := hd'
  simp only [Datum.order, signed_false]
  have hb : min (-(e : Int)) (-(e' : Int)) = -((max e e' : Nat) : Int) := by omega
  rw [hb]
  have e1 : (-(e : Int) - -((max e e' : Nat) : Int)).toNat = max e e' - e := by omega
  have e2 : (-(e' : Int) - -((max e e' : Nat) : Int)).toNat = max e e' - e' := by omega
  rw [e1, e2, Nat.mul_assoc, Nat.mul_assoc, ← Nat.pow_add, ← Nat.pow_add, show e + (max e e' - e) = max e e' by omega, show e' + (max e e' - e') = max e e' by omega]
  congr 1
  have hp := pow_pos2 (max e e')
  show compareOfLessAndEq _ _ = _
  unfold compareOfLessAndEq
  rcases Nat.lt_trichotomy n m with h | h | h
  · have : n * 2 ^ max e e' < m * 2 ^ max e e' := Nat.mul_lt_mul_of_pos_right h hp
    rw [if_pos (by omega), if_pos h]
  · subst h
    rw [if_neg (by omega), if_pos rfl, if_neg (by omega), if_pos rfl]
  · have : m * 2 ^ max e e' < n * 2 ^ max e e' := Nat.mul_lt_mul_of_pos_right h hp
    rw [if_neg (by omega), if_neg (by omega), if_neg (by omega), if_neg (by omega)]

theorem toInt_whole {d : Datum} {n : Nat} (hd : Whole d n) : d.toInt .zero = some (n : Int) := by
  obtain ⟨e, he, rfl⟩ := hd
  simp only [Datum.toInt, Datum.integral]
  have e1 : (-(e : Int)).toNat = 0 := by omega
  have e2 : (- -(e : Int)).toNat = e := by omega
  rw [e1, e2, Nat.shiftLeft_zero, cut_whole, signed_false]
  simp

/-! The three operations that the meter uses, at floats of whole numbers (as integers). -/

theorem add_fl (a b : Int) (ha : 0 ≤ a) (hb : 0 ≤ b) (h : a + b < 9007199254740992) :
    floatBits .add .f64 (floatOfInt .f64 a) (floatOfInt .f64 b) = some (floatOfInt .f64 (a + b)) := by
  obtain ⟨n, rfl⟩ := Int.eq_ofNat_of_zero_le ha
  obtain ⟨m, rfl⟩ := Int.eq_ofNat_of_zero_le hb
  have hn := read_fl n (by omega)
  have hm := read_fl m (by omega)
  obtain ⟨r, hr, hw⟩ := sum_whole hn hm
  show (((double.read _).sum (double.read _)).map double.write) = _
  rw [hr, ← Int.natCast_add]
  simp only [Option.map_some]
  congr 1
  by_cases h0 : n + m = 0
  · have e1 : n = 0 := by omega
    have e2 : m = 0 := by omega
    subst e1; subst e2
    have : (double.read (floatOfInt .f64 ((0 : Nat) : Int))).sum (double.read (floatOfInt .f64 ((0 : Nat) : Int))) = some (.number false 0 (-1074)) := by decide
    rw [this] at hr
    cases hr
    decide
  · rw [write_whole hw h0 (by omega), fl_rung _ h0 (by omega)]

theorem order_fl (a b : Int) (ha : 0 ≤ a) (hb : 0 ≤ b) (h : a < 9007199254740992) (h' : b < 9007199254740992) :
    double.order (floatOfInt .f64 a) (floatOfInt .f64 b) = some (if a < b then .lt else if a = b then .eq else .gt) := by
  obtain ⟨n, rfl⟩ := Int.eq_ofNat_of_zero_le ha
  obtain ⟨m, rfl⟩ := Int.eq_ofNat_of_zero_le hb
  show (double.read _).order (double.read _) = _
  rw [order_whole (read_fl n (by omega)) (read_fl m (by omega))]
  simp only [Int.ofNat_lt, Int.ofNat_inj]

theorem cut_fl (a : Int) (ha : 0 ≤ a) (h : a < 9007199254740992) : floatToIntVal .f64 (floatOfInt .f64 a) .i64 = some a := by
  obtain ⟨n, rfl⟩ := Int.eq_ofNat_of_zero_le ha
  unfold floatToIntVal
  show (match (double.read _).toInt .zero with | some n => _ | none => _) = _
  rw [toInt_whole (read_fl n (by omega))]
  simp only
  rw [if_pos]
  have e1 : IntKind.i64.min = -9223372036854775808 := by decide
  have e2 : IntKind.i64.max = 9223372036854775807 := by decide
  rw [e1, e2]; omega

theorem neg_fl (a : Int) (ha : 0 ≤ a) (h : a < 9007199254740992) : (double.read (floatOfInt .f64 a)).neg = false := by
  obtain ⟨n, rfl⟩ := Int.eq_ofNat_of_zero_le ha
  obtain ⟨e, _, he⟩ := read_fl n (by omega)
  rw [he]; rfl

end Go.Proofs.Ytmjcjgnljphabaa
