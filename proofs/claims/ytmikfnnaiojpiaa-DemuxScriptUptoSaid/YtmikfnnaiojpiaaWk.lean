/-
  The contracts of package demux's small functions: Of, Switch, Mode, Len.
-/
import Derived.Test.YtmikfnnaiojpiaaBase
namespace Go.Proofs.Ytmikfnnaiojpiaa
open Go.RowKit

set_option maxHeartbeats 400000 in
theorem switch_any (D base : Nat) (v : Value) (mode n : Nat) (ss : List Seg) (m : Int) (w : World) (h : Demuxed w D base v mode n ss) :
    Calls Try.prog 11 #[.pointer (some ⟨D, 0, none⟩), .int .i64 m] w fun e w' => e = .returned (.tuple #[]) ∧ Demuxed w' D base v (fitM m) n ss ∧ Only [D] w w' := by
  have c0 : w.cell? ⟨D, 0, none⟩ = some (.int .i64 mode) := cell_at h.str rfl
  have f0 : w.frozen? ⟨D, 0, none⟩ = false := free_at h.str
  have H := Lib.hid h
  clear h
  unfold fitM
  by_cases c1 : m = 1
  · subst c1
    rw [if_pos rfl]
    go_enter Try.func11, Try.ntmps11
    go_wp2
    go_end0
    exact ⟨rfl, H.out.setMode 1, only_set w D 0 _⟩
  · by_cases c2 : m = 2
    · subst c2
      rw [if_neg c1, if_pos rfl]
      go_enter Try.func11, Try.ntmps11
      go_wp2
      go_end0
      exact ⟨rfl, H.out.setMode 2, only_set w D 0 _⟩
    · rw [if_neg c1, if_neg c2]
      have d1 : (m == 1) = false := by simpa using c1
      have d2 : (m == 2) = false := by simpa using c2
      have d3 : (m != 1) = true := by simpa using c1
      have d4 : (m != 2) = true := by simpa using c2
      clear c1 c2
      go_enter Try.func11, Try.ntmps11
      go_wp2
      go_end0
      exact ⟨rfl, H.out.setMode 0, only_set w D 0 _⟩

set_option maxHeartbeats 400000 in
theorem of_any (m : Int) (w : World) :
    Calls Try.prog 10 #[.int .i64 m] w fun e w' => e = .returned (.pointer (some ⟨w.heap.size, 0, none⟩)) ∧ Demuxed w' w.heap.size (w.heap.size + 1) (.slice none 0 0) (fitM m) 0 [] ∧ Only [] w w' := by
  have hd := demuxed_new w 0
  go_enter Try.func10, Try.ntmps10
  go_wp2_with fail
  refine (switch_any _ _ _ _ _ _ m _ hd).mono ?_
  rintro e w1 ⟨rfl, hd1, ho1⟩
  have H1 := Lib.hid hd1
  have HO := Lib.hid ho1
  clear hd hd1 ho1
  go_wp2
  go_ret
  refine ⟨rfl, H1.out, ?_⟩
  have ho := HO.out
  exact ⟨ho.os, ho.tape, ho.output, by have := ho.size; simp at this; omega, fun k hk _ => (ho.block k (by simp; omega) (by simp; omega)).trans (Below.heap_alloc _ _ _ hk)⟩

set_option maxHeartbeats 400000 in
theorem mode_any (D base : Nat) (v : Value) (mode n : Nat) (ss : List Seg) (w : World) (h : Demuxed w D base v mode n ss) :
    Calls Try.prog 15 #[.pointer (some ⟨D, 0, none⟩)] w fun e w' => e = .returned (.int .i64 mode) ∧ w = w' := by
  have c0 : w.cell? ⟨D, 0, none⟩ = some (.int .i64 mode) := cell_at h.str rfl
  clear h
  go_enter Try.func15, Try.ntmps15
  go_wp2
  go_ret
  exact ⟨rfl, rfl⟩

set_option maxHeartbeats 400000 in
theorem len_any (D base : Nat) (v : Value) (mode n : Nat) (ss : List Seg) (w : World) (h : Demuxed w D base v mode n ss) :
    Calls Try.prog 14 #[.pointer (some ⟨D, 0, none⟩)] w fun e w' => e = .returned (.int .i64 n) ∧ w = w' := by
  have c0 : w.cell? ⟨D, 1, none⟩ = some (.int .i64 n) := cell_at h.str rfl
  clear h
  go_enter Try.func14, Try.ntmps14
  go_wp2
  go_ret
  exact ⟨rfl, rfl⟩

end Go.Proofs.Ytmikfnnaiojpiaa
