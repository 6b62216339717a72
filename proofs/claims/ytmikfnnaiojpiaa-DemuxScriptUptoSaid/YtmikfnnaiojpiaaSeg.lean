/-
  The contracts of Put (whatever the turn) and of Segments.
-/
import Derived.Test.YtmikfnnaiojpiaaPut
namespace Go.Proofs.Ytmikfnnaiojpiaa
open Go.RowKit

theorem put_any (D base : Nat) (v : Value) (mode n : Nat) (ss : List Seg) (c : Int) (w : World) (h : Demuxed w D base v mode n ss) (hn : n + 1 ≤ 1099511627776) :
    Calls Try.prog 12 #[.pointer (some ⟨D, 0, none⟩), .int .u8 c] w fun e w' => ∃ v', e = .returned (.int .i64 mode) ∧ Demuxed w' D base v' mode (n + 1) (pushSeg ss mode n) ∧ Only (D :: v.ownBlock.toList) w w' ∧ (∀ g, v'.ownBlock = some g → v.ownBlock = some g ∨ w.heap.size ≤ g) := by
  have hv : ∃ a cp, v = .slice a ss.length cp := by
    rcases h.own.2 with ⟨hv, hn⟩ | ⟨g, c, cur, hv, _⟩
    · exact ⟨none, 0, by rw [hv, hn]⟩
    · exact ⟨_, _, hv⟩
  obtain ⟨a, cp, rfl⟩ := hv
  rcases List.eq_nil_or_concat ss with hss | ⟨pre, l, hss⟩
  · subst hss
    refine (put_new D base a cp mode n 0 [] c w rfl h hn (by simp)).mono ?_
    rintro e w' ⟨g, cap, he, hd, ho, hg⟩
    exact ⟨_, he, hd, ho, fun g' e' => by simp [Value.ownBlock] at e'; subst e'; exact hg⟩
  · subst hss
    obtain ⟨m, f, s⟩ := l
    by_cases hm : m = mode
    · subst hm
      rw [List.concat_eq_append] at h ⊢
      have hl : (pre ++ [(⟨m, f, s⟩ : Seg)]).length = pre.length + 1 := by simp
      rw [hl] at h ⊢
      have hown := h.own
      rw [hl] at hown
      obtain ⟨g, c', hv, hg, _⟩ := own_form hown (by omega)
      simp only [Value.slice.injEq] at hv
      obtain ⟨rfl, _, rfl⟩ := hv
      refine (put_same D base g cp m n f s pre.length pre c w rfl h hn).mono ?_
      rintro e w' ⟨he, hd, ho⟩
      exact ⟨_, he, by rw [pushSeg_same]; exact hd, ho.weaken (by simp [Value.ownBlock]), fun g' e' => .inl e'⟩
    · rw [List.concat_eq_append] at h ⊢
      refine (put_new D base a cp mode n _ _ c w rfl h hn (by intro l' e; simp at e; subst e; exact hm)).mono ?_
      rintro e w' ⟨g, cap, he, hd, ho, hg⟩
      exact ⟨_, he, by rw [pushSeg_other _ _ _ _ hm]; exact hd, ho, fun g' e' => by simp [Value.ownBlock] at e'; subst e'; exact hg⟩

theorem Demuxed.below {w w' : World} {D base B : Nat} {v : Value} {mode n : Nat} {ss : List Seg} (h : Demuxed w D base v mode n ss) (ho : Only (D :: v.ownBlock.toList) w w') (hB : B ≤ D) : Below B w w' := by
  have hl := h.lt
  have hle := h.le
  have hb := h.blk
  refine ho.below (by omega) (fun x hx => ?_)
  rcases List.mem_cons.1 hx with e | e
  · omega
  · have := hb x (by simpa using e); omega

theorem Demuxed.below1 {w w' : World} {D base B : Nat} {v : Value} {mode n : Nat} {ss : List Seg} (h : Demuxed w D base v mode n ss) (ho : Only [D] w w') (hB : B ≤ D) : Below B w w' :=
  h.below (ho.weaken (by simp)) hB

theorem cells_one (ss : List Seg) : ∀ u ∈ segCells ss, u.oneCell' = true := by
  induction ss with
  | nil => simp [segCells]
  | cons x r ih =>
    intro u hu
    simp only [segCells, List.mem_cons] at hu
    rcases hu with rfl | rfl | rfl | hu
    · rfl
    · rfl
    · rfl
    · exact ih u hu

/-- append of the segments onto nothing. -/
theorem run_segs (w : World) (base : Nat) (ty : TypeId) (v : Value) (ss : List Seg) (hown : w.ownsRow base 31 3 v ss.length (segCells ss)) (hl : ss.length ≤ 1099511627776) :
    ∃ v' w', (Builtin.append_ #[28, 28] ty #[.slice none 0 0, v]).run Try.prog w = .ok v' w' ∧ w'.ownsRow w.heap.size 31 3 v' ss.length (segCells ss) ∧ w.grownBy w' none := by
  obtain ⟨i0, hi, hz0, hz1, hz2⟩ := info_parts Try.info31
  rcases hown.2 with ⟨hv, hn⟩ | ⟨g, c, cur, hv, hg, hh, hle, hm, hs, ht⟩
  · subst hv
    have hss : ss = [] := List.eq_nil_of_length_eq_zero hn
    subst hss
    exact ⟨_, w, run_append_owned_none (P := Try.prog) w w.heap.size 28 ty 31 i0 3 Try.underlying28 hi _ 0 [] (World.ownsRow_nil _ _ _ _), World.ownsRow_nil _ _ _ _, World.grownBy.refl _ _⟩
  · subst hv
    obtain ⟨v', w', hr, h1, h2, _⟩ := run_append_own (P := Try.prog) w w.heap.size 28 ty 31 i0 _ 3 24 Try.underlying28 hi hz0 hz1 hz2 rfl (by decide) (.slice none 0 0) 0 [] (World.ownsRow_nil _ _ _ _) ⟨g, 0, none⟩ ss.length c (segCells ss) (segCells_length ss)
      (hown.cells rfl) (cells_one ss) (by unfold maxLen; omega) (by omega) (Nat.le_refl _)
    exact ⟨v', w', hr, by simpa using h1, h2⟩

theorem wpList_segs (w : World) {ops : Array Oper} {rest : List Oper} {o : Oper} {a : Act} {Q : Exit → Act → World → Prop}
    (hg : o.guard = none) (x : Operand) (hop : o.op = Op.call { callee := Callee.builtin Builtin.append, args := #[.const (.slice none 0 0), x], argTypes := #[28, 28] })
    (base : Nat) (v : Value) (ss : List Seg) (hx : a.eval x = v) (hown : w.ownsRow base 31 3 v ss.length (segCells ss)) (hl : ss.length ≤ 1099511627776)
    (hK : ∀ v' w', w'.ownsRow w.heap.size 31 3 v' ss.length (segCells ss) → w.grownBy w' none → wpList Try.prog ops Q rest (a.put o.dst v') w') :
    wpList Try.prog ops Q (o :: rest) a w := by
  refine wpList_plain hg fun K hK' => ?_
  obtain ⟨v', w', hrun, r1, r2⟩ := run_segs w base o.type v ss hown hl
  have hs : a.eval (.const (.slice none 0 0)) = .slice none 0 0 := rfl
  unfold Oper.wp
  simp [execOp, hop, resolve, invoke, builtin, hs, hx, hrun, Result.andThen]
  exact hK' _ _ (hK v' w' r1 r2)

set_option maxHeartbeats 400000 in
theorem segments_any (D base : Nat) (v : Value) (mode n : Nat) (ss : List Seg) (w : World) (h : Demuxed w D base v mode n ss) :
    Calls Try.prog 13 #[.pointer (some ⟨D, 0, none⟩)] w fun e w' => ∃ v', e = .returned v' ∧ w'.ownsRow w.heap.size 31 3 v' ss.length (segCells ss) ∧ Only [] w w' := by
  have c2 : w.cell? ⟨D, 2, none⟩ = some v := cell_at h.str rfl
  have hl : ss.length ≤ 1099511627776 := Nat.le_trans h.cnt h.nle
  have H := Lib.hid h.own
  clear h
  go_enter Try.func13, Try.ntmps13
  go_wp2_with (at_builtin; refine wpList_segs _ rfl (.tmp 6) rfl base v ss rfl H.out hl ?_)
  intro v' w1 hown hg
  have HO := Lib.hid (And.intro hown hg)
  clear hown hg
  go_wp2
  go_ret
  exact ⟨_, rfl, HO.out.1, (Only.refl _ _).grown HO.out.2 (by intro k e; cases e)⟩

end Go.Proofs.Ytmikfnnaiojpiaa
