/-
  The contract of awake: the document's example of a demux comes out as it says.
-/
import Derived.Test.YtmikfnnaiojpiaaSeg
import Derived.Laws.StructEq
namespace Go.Proofs.Ytmikfnnaiojpiaa
open Go.RowKit

/-- The cells of one segment of a row. -/
theorem row_cell {w : World} {base g n c : Nat} {ss : List Seg} (h : w.ownsRow base 31 3 (.slice (some ⟨g, 0, none⟩) n c) n (segCells ss)) (hn : ss.length = n) (k : Nat) (x : Seg) (hx : ss[k]? = some x) :
    w.cell? ⟨g, k * 3, none⟩ = some (.int .i64 x.m) ∧ w.cell? ⟨g, k * 3 + 1, none⟩ = some (.int .i64 x.f) ∧ w.cell? ⟨g, k * 3 + 2, none⟩ = some (.int .i64 x.s) := by
  have hk : k < n := by rw [← hn]; exact (List.getElem?_eq_some_iff.1 hx).1
  obtain ⟨h0, h1, h2⟩ := segCells_get ss k x hx
  exact ⟨(h.cellAt (k * 3) (by omega)).trans h0, (h.cellAt (k * 3 + 1) (by omega)).trans h1, (h.cellAt (k * 3 + 2) (by omega)).trans h2⟩

theorem own_slice {w : World} {base e size : Nat} {v : Value} {n : Nat} {xs : List Value} (h : w.ownsRow base e size v n xs) : ∃ a c, v = .slice a n c := by
  rcases h.2 with ⟨hv, hn⟩ | ⟨g, cap, cur, hv, _⟩
  · exact ⟨none, 0, by rw [hv, hn]⟩
  · exact ⟨_, _, hv⟩

theorem u8_bd {a : Int} (h : (Lit.int .u8 a).wf = true) : 0 ≤ a ∧ a ≤ 255 := by
  simp [Lit.wf] at h
  have e1 : IntKind.u8.min = 0 := by decide
  have e2 : IntKind.u8.max = 255 := by decide
  omega

set_option maxHeartbeats 1000000 in
theorem awake_any (w : World) :
    Calls Try.prog 9 #[] w fun e w' => e = .returned (.bool true) ∧ Below w.heap.size w w' := by
  go_enter Try.func9, Try.ntmps9
  go_wp2_with fail
  refine (of_any 1 _).mono ?_
  rintro e w1 ⟨rfl, hd1, ho1⟩
  rw [show fitM 1 = 1 from rfl] at hd1
  have b1 := ho1.below (B := w.heap.size) (Nat.le_refl _) (by simp)
  have HO1 := Lib.hid b1
  clear ho1 b1
  go_wp2_with fail
  refine (put_any _ _ _ _ _ _ _ _ hd1 (by omega)).mono ?_
  rintro e w2 ⟨v2, rfl, hd2, ho2, _⟩
  have HO2 := Lib.hid (HO1.out.trans (hd1.below ho2 (Nat.le_refl _)))
  clear ho2 hd1 HO1
  go_wp2_with fail
  refine (switch_any _ _ _ _ _ _ 2 _ hd2).mono ?_
  rintro e w3 ⟨rfl, hd3, ho3⟩
  rw [show fitM 2 = 2 from rfl] at hd3
  have HO3 := Lib.hid (HO2.out.trans (hd2.below1 ho3 (Nat.le_refl _)))
  clear ho3 hd2 HO2
  go_wp2_with fail
  refine (put_any _ _ _ _ _ _ _ _ hd3 (by omega)).mono ?_
  rintro e w4 ⟨v4, rfl, hd4, ho4, _⟩
  have HO4 := Lib.hid (HO3.out.trans (hd3.below ho4 (Nat.le_refl _)))
  clear ho4 hd3 HO3
  go_wp2_with fail
  refine (put_any _ _ _ _ _ _ _ _ hd4 (by omega)).mono ?_
  rintro e w5 ⟨v5, rfl, hd5, ho5, _⟩
  have HO5 := Lib.hid (HO4.out.trans (hd4.below ho5 (Nat.le_refl _)))
  clear ho5 hd4 HO4
  go_wp2_with fail
  refine (segments_any _ _ _ _ _ _ _ hd5).mono ?_
  rintro e w6 ⟨v6, rfl, hown, ho6⟩
  obtain ⟨g, c6, hv, hg, hgl, hc6⟩ := own_form hown (by decide)
  rw [hv] at hown ⊢
  have hss : pushSeg (pushSeg (pushSeg [] 1 0) 2 (0 + 1)) 2 (0 + 1 + 1) = [⟨1, 0, 1⟩, ⟨2, 1, 2⟩] := rfl
  have hll : (pushSeg (pushSeg (pushSeg [] 1 0) 2 (0 + 1)) 2 (0 + 1 + 1)).length = 2 := rfl
  rw [hss] at hown
  rw [hll]
  obtain ⟨a0, a1, a2⟩ := row_cell hown rfl 0 _ rfl
  obtain ⟨b0, b1, b2⟩ := row_cell hown rfl 1 _ rfl
  have HO6 := Lib.hid (HO5.out.trans (ho6.below HO5.out.size (by simp)))
  clear hown ho6 hss hll hv HO5 hd5
  go_wp2
  go_ret
  exact ⟨rfl, HO6.out⟩

end Go.Proofs.Ytmikfnnaiojpiaa
