/-
  The plain law of a demux's segments: they tile what was given, each byte lies in the segment of whose turn it was, neighbours differ, and the parts are what was given to each. No memory in sight.
-/
import Derived.Test.YtmikfnnaiojpiaaPart
namespace Go.Proofs.Ytmikfnnaiojpiaa

def sumS : List Seg → Nat
  | [] => 0
  | x :: r => x.s + sumS r

theorem sumS_append (a b : List Seg) : sumS (a ++ b) = sumS a + sumS b := by
  induction a with
  | nil => simp [sumS]
  | cons x r ih => simp only [List.cons_append, sumS, ih]; omega

def selB : List Nat → List UInt8 → Nat → List UInt8
  | m :: tt, c :: F, M => (if m = M then [c] else []) ++ selB tt F M
  | _, _, _ => []

theorem selB_snoc (tt : List Nat) (F : List UInt8) (m : Nat) (c : UInt8) (M : Nat) (h : F.length = tt.length) : selB (tt ++ [m]) (F ++ [c]) M = selB tt F M ++ (if m = M then [c] else []) := by
  induction tt generalizing F with
  | nil =>
    have : F = [] := List.eq_nil_of_length_eq_zero (by simpa using h)
    subst this
    simp [selB]
  | cons x r ih =>
    cases F with
    | nil => simp at h
    | cons y F =>
      simp only [List.cons_append, selB, ih F (by simpa using h), List.append_assoc]

theorem selB_le (tt : List Nat) (F : List UInt8) (M : Nat) : (selB tt F M).length ≤ tt.length := by
  induction tt generalizing F with
  | nil => simp [selB]
  | cons x r ih =>
    cases F with
    | nil => simp [selB]
    | cons y F =>
      have := ih F
      simp only [selB, List.length_append, List.length_cons]
      split <;> simp <;> omega

theorem selB_three (tt : List Nat) (F : List UInt8) (h : F.length = tt.length) (h3 : ∀ m, m ∈ tt → m < 3) : (selB tt F 0).length + (selB tt F 1).length + (selB tt F 2).length = tt.length := by
  induction tt generalizing F with
  | nil => simp [selB]
  | cons x r ih =>
    cases F with
    | nil => simp at h
    | cons y F =>
      have h' := ih F (by simpa using h) (fun m hm => h3 m (by simp [hm]))
      have hx := h3 x (by simp)
      simp only [selB, List.length_append, List.length_cons]
      have : x = 0 ∨ x = 1 ∨ x = 2 := by omega
      rcases this with rfl | rfl | rfl <;> simp <;> omega

structure SegInv (ss : List Seg) (tt : List Nat) : Prop where
  sum : sumS ss = tt.length
  starts : ∀ k x, ss[k]? = some x → x.f = sumS (ss.take k) ∧ 1 ≤ x.s
  modes : ∀ x, x ∈ ss → ∀ i, i < x.s → tt[x.f + i]? = some x.m
  adj : ∀ k x y, ss[k]? = some x → ss[k + 1]? = some y → x.m ≠ y.m
  part : ∀ (F : List UInt8) (M : Nat), F.length = tt.length → partOf ss M F = selB tt F M

theorem segInv_nil : SegInv [] [] := ⟨rfl, fun k x h => by simp at h, fun x h => by simp at h, fun k x y h => by simp at h, fun F M h => rfl⟩

theorem le_sum {ss : List Seg} {x : Seg} (h : x ∈ ss) : x.s ≤ sumS ss := by
  induction ss with
  | nil => simp at h
  | cons y r ih =>
    simp only [sumS]
    rcases List.mem_cons.1 h with rfl | h
    · omega
    · have := ih h; omega

theorem SegInv.fit {ss : List Seg} {tt : List Nat} (h : SegInv ss tt) (x : Seg) (hx : x ∈ ss) : x.f + x.s ≤ tt.length := by
  obtain ⟨k, hk⟩ := List.mem_iff_getElem?.1 hx
  have h1 := (h.starts k x hk).1
  have h2 : ss = ss.take k ++ ss.drop k := (List.take_append_drop k ss).symm
  have h3 := h.sum
  rw [h2, sumS_append] at h3
  have h4 : x ∈ ss.drop k := List.mem_iff_getElem?.2 ⟨0, by simpa using hk⟩
  have := le_sum h4
  omega

theorem partOf_more (ss : List Seg) (M : Nat) (F : List UInt8) (c : UInt8) (h : ∀ x, x ∈ ss → x.f + x.s ≤ F.length) : partOf ss M (F ++ [c]) = partOf ss M F := by
  induction ss with
  | nil => rfl
  | cons x r ih =>
    have h1 := h x (by simp)
    have e : partOne x M (F ++ [c]) = partOne x M F := by
      unfold partOne
      by_cases hm : x.m = M
      · rw [if_pos ⟨hm, by simp; omega⟩, if_pos ⟨hm, h1⟩, List.drop_append_of_le_length (by omega), List.take_append_of_le_length (by simp; omega)]
      · rw [if_neg (by intro e; exact hm e.1), if_neg (by intro e; exact hm e.1)]
    have h2 := ih (fun y hy => h y (by simp [hy]))
    simp only [partOf, List.flatMap_cons] at h2 ⊢
    rw [e, h2]

theorem snoc_form {α : Type} (F : List α) (n : Nat) (h : F.length = n + 1) : ∃ G c, F = G ++ [c] ∧ G.length = n := by
  rcases List.eq_nil_or_concat F with rfl | ⟨G, c, rfl⟩
  · simp at h
  · exact ⟨G, c, by simp, by simpa using h⟩

/-- One byte more. -/
theorem SegInv.push {ss : List Seg} {tt : List Nat} (h : SegInv ss tt) (m : Nat) : SegInv (pushSeg ss m tt.length) (tt ++ [m]) := by
  have hnew : ∀ (hm : ∀ l, ss.getLast? = some l → l.m ≠ m), SegInv (ss ++ [⟨m, tt.length, 1⟩]) (tt ++ [m]) := by
    intro hm
    refine ⟨?_, ?_, ?_, ?_, ?_⟩
    · rw [sumS_append, h.sum]; simp [sumS]
    · intro k x hk
      by_cases hlt : k < ss.length
      · rw [List.getElem?_append_left hlt] at hk
        have := h.starts k x hk
        rw [List.take_append_of_le_length (by omega)]
        exact this
      · have hk2 : k = ss.length := by
          have := (List.getElem?_eq_some_iff.1 hk).1
          simp at this; omega
        subst hk2
        simp at hk
        subst hk
        rw [List.take_left']
        · exact ⟨h.sum.symm, Nat.le_refl _⟩
        · rfl
    · intro x hx i hi
      rcases List.mem_append.1 hx with hx | hx
      · have := h.fit x hx
        rw [List.getElem?_append_left (by omega)]
        exact h.modes x hx i hi
      · simp at hx
        subst hx
        simp only at hi ⊢
        have : i = 0 := by omega
        subst this
        simp
    · intro k x y hx hy
      by_cases hlt : k + 1 < ss.length
      · rw [List.getElem?_append_left (by omega)] at hx
        rw [List.getElem?_append_left hlt] at hy
        exact h.adj k x y hx hy
      · have hk2 : k + 1 = ss.length := by
          have := (List.getElem?_eq_some_iff.1 hy).1
          simp at this; omega
        rw [List.getElem?_append_left (by omega)] at hx
        rw [hk2] at hy
        simp at hy
        subst hy
        exact hm x (by rw [List.getLast?_eq_getElem?, show ss.length - 1 = k by omega]; exact hx)
    · intro F M hF
      obtain ⟨G, c, rfl, hG⟩ := snoc_form F tt.length (by simpa using hF)
      rw [partOf_snoc, partOf_more ss M G c (fun x hx => by rw [hG]; exact h.fit x hx), h.part G M hG, selB_snoc tt G m c M hG]
      congr 1
      unfold partOne
      by_cases e : m = M
      · rw [if_pos ⟨e, by simp; omega⟩, if_pos e]
        simp only
        rw [← hG, List.drop_left']
        · rfl
        · rfl
      · rw [if_neg (by intro e'; exact e e'.1), if_neg e]
  rcases List.eq_nil_or_concat ss with rfl | ⟨pre, l, rfl⟩
  · have := hnew (by simp)
    have e : tt.length = 0 := by have := h.sum; simp [sumS] at this; omega
    rw [pushSeg_nil]
    exact this
  · obtain ⟨lm, f, s⟩ := l
    by_cases hm : lm = m
    · subst hm
      rw [List.concat_eq_append] at h ⊢
      rw [pushSeg_same]
      have hst := h.starts pre.length ⟨lm, f, s⟩ (by simp)
      rw [List.take_left' rfl] at hst
      simp only at hst
      have hsum := h.sum
      rw [sumS_append] at hsum
      simp only [sumS] at hsum
      have hpre : ∀ x, x ∈ pre → x.f + x.s ≤ tt.length := fun x hx => h.fit x (by simp [hx])
      refine ⟨?_, ?_, ?_, ?_, ?_⟩
      · rw [sumS_append]; simp only [sumS, List.length_append, List.length_cons, List.length_nil]; omega
      · intro k x hk
        by_cases hlt : k < pre.length
        · rw [List.getElem?_append_left hlt] at hk
          have := h.starts k x (by rw [List.getElem?_append_left hlt]; exact hk)
          rw [List.take_append_of_le_length (by omega)] at this ⊢
          exact this
        · have hk2 : k = pre.length := by
            have := (List.getElem?_eq_some_iff.1 hk).1
            simp at this; omega
          subst hk2
          simp at hk
          subst hk
          rw [List.take_left' rfl]
          exact ⟨hst.1, by simp only; omega⟩
      · intro x hx i hi
        rcases List.mem_append.1 hx with hx | hx
        · have := hpre x hx
          rw [List.getElem?_append_left (by omega)]
          exact h.modes x (by simp [hx]) i hi
        · simp at hx
          subst hx
          simp only at hi ⊢
          by_cases e : i < s
          · rw [List.getElem?_append_left (by omega)]
            exact h.modes ⟨lm, f, s⟩ (by simp) i e
          · have e2 : f + i = tt.length := by omega
            rw [e2]
            simp
      · intro k x y hx hy
        by_cases hlt : k + 1 < pre.length
        · rw [List.getElem?_append_left (by omega)] at hx
          rw [List.getElem?_append_left hlt] at hy
          exact h.adj k x y (by rw [List.getElem?_append_left (by omega)]; exact hx) (by rw [List.getElem?_append_left hlt]; exact hy)
        · have hk2 : k + 1 = pre.length := by
            have := (List.getElem?_eq_some_iff.1 hy).1
            simp at this; omega
          rw [List.getElem?_append_left (by omega)] at hx
          rw [hk2] at hy
          simp at hy
          subst hy
          exact h.adj k x ⟨lm, f, s⟩ (by rw [List.getElem?_append_left (by omega)]; exact hx) (by rw [hk2]; simp)
      · intro F M hF
        obtain ⟨G, c, rfl, hG⟩ := snoc_form F tt.length (by simpa using hF)
        have hold := h.part G M hG
        rw [partOf_snoc] at hold ⊢
        rw [partOf_more pre M G c (fun x hx => by rw [hG]; exact hpre x hx), selB_snoc tt G lm c M hG, ← hold, List.append_assoc]
        congr 1
        unfold partOne
        by_cases e : lm = M
        · rw [if_pos ⟨e, by simp; omega⟩, if_pos ⟨e, by simp only; omega⟩, if_pos e]
          simp only
          have e1 : (G ++ [c]).drop f = G.drop f ++ [c] := List.drop_append_of_le_length (by omega)
          rw [e1, List.take_of_length_le (by simp; omega), List.take_of_length_le (by simp; omega)]
        · rw [if_neg (by intro e'; exact e e'.1), if_neg (by intro e'; exact e e'.1), if_neg e]
          rfl
    · rw [List.concat_eq_append] at h hnew ⊢
      rw [pushSeg_other _ _ _ _ hm]
      exact hnew (by intro l' e; simp at e; subst e; exact hm)

end Go.Proofs.Ytmikfnnaiojpiaa
