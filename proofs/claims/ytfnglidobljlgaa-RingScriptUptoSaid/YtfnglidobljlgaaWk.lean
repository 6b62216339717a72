/-
  The contracts of package ring's small functions: Of, Len, Room, Lost.
-/
import Derived.Test.YtfnglidobljlgaaBase
import Derived.BigRegion
import Derived.BigQuiet
import Derived.Deep.QuietTactic
namespace Go.Proofs.Ytfnglidobljlgaa
open Go.RowKit

def capOf (n : Int) : Nat := if n ≤ 1 then 1 else if n ≤ 4096 then n.toNat else 4096

theorem capOf_bd (n : Int) : 0 < capOf n ∧ capOf n ≤ 4096 := by unfold capOf; split <;> (try split) <;> omega

theorem mk_run (w : World) (c : Nat) (C : Int) (hC : C = c) (h1 : c ≤ 4096) :
    (Instr.makeSlice 26 (.int .i64 C) (.int .i64 C)).run Try.prog w = .ok (.slice (some ⟨w.heap.size, 0, none⟩) c c) (w.alloc (.cells (madeCells #[.int .u8 0] c) 5)) := by
  obtain ⟨i, hi, hz, hs, hb⟩ := info_parts Try.info5
  have hmk := run_make (P := Try.prog) w 26 5 i (.int .u8 0) Try.underlying26 hi hz .i64 .i64 c c (by omega) (by omega) (by rw [hb]; omega) (by omega)
  rw [hs] at hmk
  simp only [Int.toNat_natCast, Nat.mul_one] at hmk
  rw [hC]; exact hmk

theorem of_case (n : Int) (c : Nat) (h0 : 0 < c) (h1 : c ≤ 4096) (w : World) (hn : (c = 1 ∧ n ≤ 1) ∨ (n = c) ∨ (c = 4096 ∧ 4096 < n)) :
    Calls Try.prog 10 #[.int .i64 n] w fun e w' => e = .returned (.pointer (some ⟨w.heap.size + 1, 0, none⟩)) ∧ Ringed w' w.heap.size (w.heap.size + 1) c 0 [] 0 ∧ Only [] w w' := by
  rcases hn with ⟨rfl, hn⟩ | rfl | ⟨rfl, hn⟩
  · have hmk := mk_run w 1 1 rfl (by omega)
    go_enter Try.func10, Try.ntmps10
    go_wp2
    go_ret
    exact ⟨rfl, ringed_new w 1 (by omega) (by omega), ((Only.refl _ _).alloc _).alloc _⟩
  · by_cases c1 : (c : Int) = 1
    · obtain rfl : c = 1 := by omega
      have hmk := mk_run w 1 1 rfl (by omega)
      go_enter Try.func10, Try.ntmps10
      go_wp2
      go_ret
      exact ⟨rfl, ringed_new w 1 (by omega) (by omega), ((Only.refl _ _).alloc _).alloc _⟩
    · have hmk := mk_run w c c rfl h1
      go_enter Try.func10, Try.ntmps10
      go_wp2
      go_ret
      exact ⟨rfl, ringed_new w c (by omega) (by omega), ((Only.refl _ _).alloc _).alloc _⟩
  · have hmk := mk_run w 4096 4096 rfl (by omega)
    go_enter Try.func10, Try.ntmps10
    go_wp2
    go_ret
    exact ⟨rfl, ringed_new w 4096 (by omega) (by omega), ((Only.refl _ _).alloc _).alloc _⟩

theorem of_any (n : Int) (w : World) :
    Calls Try.prog 10 #[.int .i64 n] w fun e w' => e = .returned (.pointer (some ⟨w.heap.size + 1, 0, none⟩)) ∧ Ringed w' w.heap.size (w.heap.size + 1) (capOf n) 0 [] 0 ∧ Only [] w w' := by
  have h := capOf_bd n
  refine of_case n (capOf n) h.1 h.2 w ?_
  unfold capOf
  split
  · exact .inl ⟨rfl, ‹_›⟩
  · split
    · exact .inr (.inl (by omega))
    · exact .inr (.inr ⟨rfl, by omega⟩)

set_option maxHeartbeats 400000 in
theorem len_any (R S cap at_ : Nat) (q : List UInt8) (lost : Int) (w : World) (h : Ringed w R S cap at_ q lost) :
    Calls Try.prog 14 #[.pointer (some ⟨S, 0, none⟩)] w fun e w' => e = .returned (.int .i64 q.length) ∧ w = w' := by
  have h2 : w.cell? ⟨S, 2, none⟩ = some (.int .i64 q.length) := cell_at h.str rfl
  clear h
  go_enter Try.func14, Try.ntmps14
  go_wp2
  go_ret
  exact ⟨rfl, rfl⟩

set_option maxHeartbeats 400000 in
theorem lost_any (R S cap at_ : Nat) (q : List UInt8) (lost : Int) (w : World) (h : Ringed w R S cap at_ q lost) :
    Calls Try.prog 13 #[.pointer (some ⟨S, 0, none⟩)] w fun e w' => e = .returned (.int .i64 lost) ∧ w = w' := by
  have h2 : w.cell? ⟨S, 3, none⟩ = some (.int .i64 lost) := cell_at h.str rfl
  clear h
  go_enter Try.func13, Try.ntmps13
  go_wp2
  go_ret
  exact ⟨rfl, rfl⟩

set_option maxHeartbeats 400000 in
theorem room_any (R S cap at_ : Nat) (q : List UInt8) (lost : Int) (w : World) (h : Ringed w R S cap at_ q lost) :
    Calls Try.prog 15 #[.pointer (some ⟨S, 0, none⟩)] w fun e w' => e = .returned (.int .i64 ((cap : Int) - q.length)) ∧ ∃ n, w' = w.drewN n := by
  have h0 : w.cell? ⟨S, 0, none⟩ = some (.slice (some ⟨R, 0, none⟩) cap cap) := cell_at h.str rfl
  have h2 : w.cell? ⟨S, 2, none⟩ = some (.int .i64 q.length) := cell_at h.str rfl
  have hl := h.len
  have hc := h.capLe
  clear h
  go_enter Try.func15, Try.ntmps15
  go_wp2
  go_quiet (fail)
  go_wp2
  go_ret
  exact ⟨rfl, _, rfl⟩

end Go.Proofs.Ytfnglidobljlgaa
