/- A part of the proofs of the laws of lifelinetop (TopNever, TopLost, TopRoom): contracts of functions that these laws reach. No condition of its own. -/
import Derived.Test.YtplaamfoeaaaiaaGreatDoorG02
import Derived.Test.YtplaamfoeaaaiaaGreatDoorG03
import Derived.BigRegion
import Derived.BigQuiet
import Derived.Deep.QuietTactic
import Derived.StillTailTactics
import Derived.Lib.IfaceEq
import Derived.Lib.IfaceNeq
import Derived.WideLaws
set_option maxRecDepth 100000
set_option maxHeartbeats 8000000
set_option linter.unusedVariables false
namespace Go.Proofs.YtplaamfoeaaaiaaGreatDoor
open Go.RowKit
structure Ringed (w : World) (R S cap at_ : Nat) (q : List UInt8) (lost : Int) : Prop where
  ne : R ≠ S
  capPos : 0 < cap
  capLe : cap ≤ 4096
  atLt : at_ < cap
  len : q.length ≤ cap
  str : w.heap[S]? = some (.cells #[.slice (some ⟨R, 0, none⟩) cap cap, .int .i64 at_, .int .i64 q.length, .int .i64 lost] 126 (0, 0))
  room : ∃ buf : Array Value, w.heap[R]? = some (.cells buf 5 (0, 0)) ∧ buf.size = cap ∧ (∀ i, i < cap → ∃ x : UInt8, buf[i]? = some (byteV x)) ∧
    ∀ i, i < q.length → buf[(at_ + i) % cap]? = some (byteV (q.getD i 0))
theorem Ringed.of_only {w w' : World} {R S cap at_ : Nat} {q : List UInt8} {lost : Int} {bs : List Nat} (h : Ringed w R S cap at_ q lost) (ho : Only bs w w') (hR : R ∉ bs) (hS : S ∉ bs) : Ringed w' R S cap at_ q lost := by
  obtain ⟨buf, hb, rest⟩ := h.room
  refine ⟨h.ne, h.capPos, h.capLe, h.atLt, h.len, ?_, buf, ?_, rest⟩
  · rw [ho.block S (Array.getElem?_eq_some_iff.1 h.str).1 hS]; exact h.str
  · rw [ho.block R (Array.getElem?_eq_some_iff.1 hb).1 hR]; exact hb
theorem Ringed.drew {w : World} {R S cap at_ : Nat} {q : List UInt8} {lost : Int} (h : Ringed w R S cap at_ q lost) : Ringed w.drew R S cap at_ q lost :=
  h.of_only (Only.refl [] w).drew (by simp) (by simp)
theorem Ringed.lt {w : World} {R S cap at_ : Nat} {q : List UInt8} {lost : Int} (h : Ringed w R S cap at_ q lost) : R < w.heap.size ∧ S < w.heap.size := by
  obtain ⟨buf, hb, _⟩ := h.room
  exact ⟨(Array.getElem?_eq_some_iff.1 hb).1, (Array.getElem?_eq_some_iff.1 h.str).1⟩
theorem ringed_new (w : World) (cap : Nat) (h0 : 0 < cap) (h1 : cap ≤ 4096) :
    Ringed ((w.alloc (.cells (madeCells #[.int .u8 0] cap) 5)).alloc (.cells #[.slice (some ⟨w.heap.size, 0, none⟩) cap cap, .int .i64 0, .int .i64 0, .int .i64 0] 126)) w.heap.size (w.heap.size + 1) cap 0 [] 0 := by
  refine ⟨by omega, h0, h1, h0, by simp, ?_, madeCells #[.int .u8 0] cap, ?_, size_madeCells _ _, ?_, ?_⟩
  · show ((w.heap.push _).push _)[w.heap.size + 1]? = _
    rw [Array.getElem?_push, if_pos (by simp)]; rfl
  · show ((w.heap.push _).push _)[w.heap.size]? = _
    rw [Array.getElem?_push, if_neg (by simp), Array.getElem?_push, if_pos rfl]
  · intro i hi
    refine ⟨0, ?_⟩
    have := toList_madeCells_one (.int .u8 0) cap
    rw [← Array.getElem?_toList, this, List.getElem?_replicate, if_pos hi]; rfl
  · intro i hi; simp at hi
theorem mod_ne {a b c m : Nat} (h0 : a < m) (hb : b < m) (hc : c < m) (h : b ≠ c) : (a + b) % m ≠ (a + c) % m := by
  have e1 : (a + b) % m = if a + b < m then a + b else a + b - m := by
    split
    · exact Nat.mod_eq_of_lt ‹_›
    · rw [Nat.mod_eq_sub_mod (by omega), Nat.mod_eq_of_lt (by omega)]
  have e2 : (a + c) % m = if a + c < m then a + c else a + c - m := by
    split
    · exact Nat.mod_eq_of_lt ‹_›
    · rw [Nat.mod_eq_sub_mod (by omega), Nat.mod_eq_of_lt (by omega)]
  rw [e1, e2]
  split <;> split <;> omega
theorem Ringed.put {w : World} {R S cap at_ : Nat} {q : List UInt8} {lost : Int} (h : Ringed w R S cap at_ q lost) (hl : q.length < cap) (x : UInt8) :
    Ringed ((w.setCell ⟨R, (at_ + q.length) % cap, none⟩ (byteV x)).setCell ⟨S, 2, none⟩ (.int .i64 ((q.length : Int) + 1))) R S cap at_ (q ++ [x]) lost := by
  obtain ⟨buf, hb, hsz, hall, hq⟩ := h.room
  have hpos := h.capPos
  have hat := h.atLt
  have hm : (at_ + q.length) % cap < buf.size := by rw [hsz]; exact Nat.mod_lt _ hpos
  refine ⟨h.ne, h.capPos, h.capLe, h.atLt, by simp; omega, ?_, buf.setIfInBounds ((at_ + q.length) % cap) (byteV x), ?_, by simpa using hsz, ?_, ?_⟩
  · have h1 : (w.setCell ⟨R, (at_ + q.length) % cap, none⟩ (byteV x)).heap[S]? = _ := (heap_set_other (Ne.symm h.ne)).trans h.str
    rw [heap_set_same h1]
    simp
  · rw [heap_set_other h.ne, heap_set_same hb]
  · intro i hi
    rw [Array.getElem?_setIfInBounds]
    split
    · exact ⟨x, by first | rfl | rw [if_pos hm]⟩
    · exact hall i hi
  · intro i hi
    simp at hi
    rw [Array.getElem?_setIfInBounds]
    by_cases e : i = q.length
    · subst e
      rw [if_pos rfl, if_pos hm]
      simp
    · have hne := mod_ne (a := at_) (b := q.length) (c := i) hat hl (by omega) (fun e' => e e'.symm)
      rw [if_neg hne, hq i (by omega)]
      simp [List.getD, List.getElem?_append, show i < q.length by omega]
theorem Ringed.setLost {w : World} {R S cap at_ : Nat} {q : List UInt8} {lost : Int} (h : Ringed w R S cap at_ q lost) (l : Int) :
    Ringed (w.setCell ⟨S, 3, none⟩ (.int .i64 l)) R S cap at_ q l := by
  obtain ⟨buf, hb, rest⟩ := h.room
  refine ⟨h.ne, h.capPos, h.capLe, h.atLt, h.len, ?_, buf, ?_, rest⟩
  · rw [heap_set_same h.str]; simp
  · rw [heap_set_other h.ne]; exact hb
theorem Ringed.take {w : World} {R S cap at_ : Nat} {x : UInt8} {q : List UInt8} {lost : Int} (h : Ringed w R S cap at_ (x :: q) lost) :
    Ringed ((w.setCell ⟨S, 1, none⟩ (.int .i64 (((at_ + 1) % cap : Nat) : Int))).setCell ⟨S, 2, none⟩ (.int .i64 (q.length : Int))) R S cap ((at_ + 1) % cap) q lost := by
  obtain ⟨buf, hb, hsz, hall, hq⟩ := h.room
  have hpos := h.capPos
  have hat := h.atLt
  refine ⟨h.ne, h.capPos, h.capLe, Nat.mod_lt _ hpos, by have := h.len; simp at this; omega, ?_, buf, ?_, hsz, hall, ?_⟩
  · rw [heap_set_same (heap_set_same h.str)]; simp
  · rw [heap_set_other h.ne, heap_set_other h.ne]; exact hb
  · intro i hi
    have := hq (i + 1) (by simp; omega)
    rw [Nat.mod_add_mod, Nat.add_assoc, Nat.add_comm 1 i]
    simpa using this
theorem Ringed.first {w : World} {R S cap at_ : Nat} {x : UInt8} {q : List UInt8} {lost : Int} (h : Ringed w R S cap at_ (x :: q) lost) : w.cell? ⟨R, at_, none⟩ = some (byteV x) := by
  obtain ⟨buf, hb, hsz, hall, hq⟩ := h.room
  have := hq 0 (by simp)
  rw [Nat.add_zero, Nat.mod_eq_of_lt h.atLt] at this
  exact cell_at hb (by simpa using this)
theorem Ringed.grown {w w' : World} {R S cap at_ : Nat} {q : List UInt8} {lost : Int} {row : Option Nat} (h : Ringed w R S cap at_ q lost) (hg : w.grownBy w' row) (hR : row ≠ some R) (hS : row ≠ some S) : Ringed w' R S cap at_ q lost := by
  obtain ⟨buf, hb, rest⟩ := h.room
  refine ⟨h.ne, h.capPos, h.capLe, h.atLt, h.len, ?_, buf, ?_, rest⟩
  · rw [hg.block S (Array.getElem?_eq_some_iff.1 h.str).1 (Ne.symm hS)]; exact h.str
  · rw [hg.block R (Array.getElem?_eq_some_iff.1 hb).1 (Ne.symm hR)]; exact hb
theorem owns_set {w : World} {base : Nat} {v : Value} {n : Nat} {xs : List Value} (h : w.ownsRow base 5 1 v n xs) {b i : Nat} (hb : b < base) (u : Value) : (w.setCell ⟨b, i, none⟩ u).ownsRow base 5 1 v n xs :=
  ownsRow_setCell_below h hb u
def capOf (n : Int) : Nat := if n ≤ 1 then 1 else if n ≤ 4096 then n.toNat else 4096
theorem capOf_bd (n : Int) : 0 < capOf n ∧ capOf n ≤ 4096 := by unfold capOf; split <;> (try split) <;> omega
theorem mk_run (w : World) (c : Nat) (C : Int) (hC : C = c) (h1 : c ≤ 4096) :
    (Instr.makeSlice 22 (.int .i64 C) (.int .i64 C)).run Tryz.prog w = .ok (.slice (some ⟨w.heap.size, 0, none⟩) c c) (w.alloc (.cells (madeCells #[.int .u8 0] c) 5)) := by
  obtain ⟨i, hi, hz, hs, hb⟩ := info_parts Tryz.info5
  have hmk := run_make (P := Tryz.prog) w 22 5 i (.int .u8 0) Tryz.underlying22 hi hz .i64 .i64 c c (by omega) (by omega) (by rw [hb]; omega) (by omega)
  rw [hs] at hmk
  simp only [Int.toNat_natCast, Nat.mul_one] at hmk
  rw [hC]; exact hmk
theorem of_case (n : Int) (c : Nat) (h0 : 0 < c) (h1 : c ≤ 4096) (w : World) (hn : (c = 1 ∧ n ≤ 1) ∨ (n = c) ∨ (c = 4096 ∧ 4096 < n)) :
    Calls Tryz.prog 40 #[.int .i64 n] w fun e w' => e = .returned (.pointer (some ⟨w.heap.size + 1, 0, none⟩)) ∧ Ringed w' w.heap.size (w.heap.size + 1) c 0 [] 0 ∧ Only [] w w' := by
  rcases hn with ⟨rfl, hn⟩ | rfl | ⟨rfl, hn⟩
  · have hmk := mk_run w 1 1 rfl (by omega)
    go_enter Tryz.func40, Tryz.ntmps40
    go_wp2
    go_ret
    exact ⟨rfl, ringed_new w 1 (by omega) (by omega), ((Only.refl _ _).alloc _).alloc _⟩
  · by_cases c1 : (c : Int) = 1
    · obtain rfl : c = 1 := by omega
      have hmk := mk_run w 1 1 rfl (by omega)
      go_enter Tryz.func40, Tryz.ntmps40
      go_wp2
      go_ret
      exact ⟨rfl, ringed_new w 1 (by omega) (by omega), ((Only.refl _ _).alloc _).alloc _⟩
    · have hmk := mk_run w c c rfl h1
      go_enter Tryz.func40, Tryz.ntmps40
      go_wp2
      go_ret
      exact ⟨rfl, ringed_new w c (by omega) (by omega), ((Only.refl _ _).alloc _).alloc _⟩
  · have hmk := mk_run w 4096 4096 rfl (by omega)
    go_enter Tryz.func40, Tryz.ntmps40
    go_wp2
    go_ret
    exact ⟨rfl, ringed_new w 4096 (by omega) (by omega), ((Only.refl _ _).alloc _).alloc _⟩
theorem ringof_any (n : Int) (w : World) :
    Calls Tryz.prog 40 #[.int .i64 n] w fun e w' => e = .returned (.pointer (some ⟨w.heap.size + 1, 0, none⟩)) ∧ Ringed w' w.heap.size (w.heap.size + 1) (capOf n) 0 [] 0 ∧ Only [] w w' := by
  have h := capOf_bd n
  refine of_case n (capOf n) h.1 h.2 w ?_
  unfold capOf
  split
  · exact .inl ⟨rfl, ‹_›⟩
  · split
    · exact .inr (.inl (by omega))
    · exact .inr (.inr ⟨rfl, by omega⟩)
theorem lost_any (R S cap at_ : Nat) (q : List UInt8) (lost : Int) (w : World) (h : Ringed w R S cap at_ q lost) :
    Calls Tryz.prog 30 #[.pointer (some ⟨S, 0, none⟩)] w fun e w' => e = .returned (.int .i64 lost) ∧ w = w' := by
  have h2 : w.cell? ⟨S, 3, none⟩ = some (.int .i64 lost) := cell_at h.str rfl
  clear h
  go_enter Tryz.func30, Tryz.ntmps30
  go_wp2
  go_ret
  exact ⟨rfl, rfl⟩
theorem sum_w (a m c : Nat) (ha : a < c) (hm : m < c) (hc : c ≤ 4096) : wrap64 ((a : Int) + (m : Int)) = (a : Int) + m := by
  unfold wrap64; omega
theorem sum_i (a m c : Nat) (ha : a < c) (hm : m < c) (hc : c ≤ 4096) : IntKind.i64.wrap ((a : Int) + (m : Int)) = (a : Int) + m := by
  rw [IntKind.wrap_i64]; omega
theorem sum_mod (a m c x : Nat) (hx : x = (a + m) % c) : ((a : Int) + (m : Int)).tmod (c : Int) = (x : Int) := by
  rw [Int.tmod_eq_emod_of_nonneg (by omega), hx]
  simp
theorem sub_w (n f : Nat) (h : f ≤ n) (h2 : n ≤ 9223372036854775807) : wrap64 ((n : Int) - f) = (n : Int) - f := by
  unfold wrap64; omega
theorem rput_some (R S cap at_ : Nat) (q : List UInt8) (lost : Int) (B off : Nat) (bs : List UInt8) (c G F : Nat) (w : World) (h : Ringed w R S cap at_ q lost)
    (hb : Bytes w (some ⟨B, off, none⟩) bs) (hR : B ≠ R) (hS : B ≠ S) (hc : bs.length ≤ c) (hm : c ≤ 9223372036854775807) (hG : (cap : Int) - (q.length : Int) = (G : Int)) (hF : F = min bs.length G) :
    Calls Tryz.prog 29 #[.pointer (some ⟨S, 0, none⟩), .slice (some ⟨B, off, none⟩) bs.length c] w fun e w' =>
      e = .returned (.int .i64 F) ∧ Ringed w' R S cap at_ (q ++ bs.take F) (wrap64 (lost + ((bs.length : Int) - F))) ∧ Only [R, S] w w' := by
  have hql := h.len
  have hcl := h.capLe
  have hsl := run_head Tryz.prog w.drew 22 (some ⟨B, off, none⟩) bs.length c F Tryz.elem22 1 Tryz.size5 (by omega) .i64
  have g0 : w.cell? ⟨S, 0, none⟩ = some (.slice (some ⟨R, 0, none⟩) cap cap) := cell_at h.str rfl
  have g2 : w.cell? ⟨S, 2, none⟩ = some (.int .i64 q.length) := cell_at h.str rfl
  have hmin : (if G < bs.length then (G : Int) else (bs.length : Int)) = (F : Int) := by split <;> omega
  have HF : Hid (F = min bs.length G) := hF
  clear hF
  go_enter Tryz.func29, Tryz.ntmps29
  go_wp2
  go_region
  go_wp2
  clear hsl hmin g0 g2
  go_loopw [25] (fun i wr => ∃ k : Nat, k ≤ F ∧ i = .int .i64 k ∧ Ringed wr R S cap at_ (q ++ bs.take k) lost ∧ Only [R, S] w wr) (fun i _ => F - (intOf i).toNat)
  case atStart => exact ⟨0, Nat.zero_le _, rfl, by simpa using h.drew, (Only.refl _ _).drew⟩
  case round =>
    obtain ⟨k, hk, rfl, hr, ho⟩ := hrel
    by_cases hlt : k < F
    · obtain ⟨m, hmm⟩ : ∃ m, m = q.length + k := ⟨_, rfl⟩
      obtain ⟨x, hx⟩ : ∃ x, x = (at_ + m) % cap := ⟨_, rfl⟩
      have hlen : (q ++ bs.take k).length = m := by have hF := HF.out; simp; omega
      have hlt2 : m < cap := by have hF := HF.out; omega
      have hkb : k < 4096 := by have hF := HF.out; omega
      have hxc : x < cap := by rw [hx]; exact Nat.mod_lt _ h.capPos
      have hbb : wr.cell? ⟨B, off + k, none⟩ = some (byteV (bs.getD k 0)) := by have h' := (hb.of_only ho (.inr (by intro ad e; cases e; simp [hR, hS]))).cell _ rfl k (by have hF := HF.out; omega); rw [Addr.add_lit] at h'; exact h'
      have hp := hr.put (by omega) (bs.getD k 0)
      have hstr := hr.str
      have hat := hr.atLt
      obtain ⟨buf, hbuf, hbs, hall, _⟩ := hr.room
      obtain ⟨xo, hxo⟩ := hall x hxc
      rw [hlen, ← hx] at hp
      rw [hlen] at hstr
      rw [List.append_assoc, ← take_snoc bs k (by have hF := HF.out; omega)] at hp
      have HP := LH hp
      have g0 : wr.cell? ⟨S, 0, none⟩ = some (.slice (some ⟨R, 0, none⟩) cap cap) := cell_at hstr rfl
      have g1 : wr.cell? ⟨S, 1, none⟩ = some (.int .i64 at_) := cell_at hstr rfl
      have g2 : wr.cell? ⟨S, 2, none⟩ = some (.int .i64 m) := cell_at hstr rfl
      have gx : wr.cell? ⟨R, x, none⟩ = some (byteV xo) := cell_at hbuf hxo
      have f2 : wr.frozen? ⟨S, 2, none⟩ = false := free_at hstr
      have fx : wr.frozen? ⟨R, x, none⟩ = false := free_at hbuf
      have e1 := sum_w at_ m cap hat hlt2 hcl
      have e2 := sum_i at_ m cap hat hlt2 hcl
      have e3 := sum_mod at_ m cap x hx
      have hne := hr.ne
      have hcz : ¬ cap = 0 := by have := hr.capPos; omega
      have Hx := LH hx
      have Hm := LH hmm
      have Hs := LH hbs
      clear hx hmm hp hlen hstr hbuf hall hbs hxo hr
      go_wp2
      go_still_tail 21, (by kernel_rfl)
      change wpList _ _ _ _ _ wr.drew
      clear e1 e2 e3 hcz
      go_wp2
      go_roundw
      case rel => exact ⟨k + 1, by omega, by go_num, by have h' := HP.out.drew; rw [List.getD_eq_getElem?_getD] at h'; exact h', ((ho.drew.setCell (by simp) _).setCell (by simp) _)⟩
      case measure => simp [intOf]; omega
    · obtain rfl : k = F := by omega
      have g3 : wr.cell? ⟨S, 3, none⟩ = some (.int .i64 lost) := cell_at hr.str rfl
      have f3 : wr.frozen? ⟨S, 3, none⟩ = false := free_at hr.str
      have hp := hr.setLost (wrap64 (lost + ((bs.length : Int) - k)))
      have HP := LH hp
      have HO := LH ho
      have hF := HF.out
      have e1 : wrap64 ((bs.length : Int) - (k : Int)) = (bs.length : Int) - k := sub_w _ _ (by omega) (by omega)
      clear hp hr ho hF
      go_wp2
      go_ret
      exact ⟨rfl, HP.out, HO.out.setCell (by simp) _⟩
theorem rput_nil (R S cap at_ : Nat) (q : List UInt8) (lost : Int) (a : Option Addr) (c G : Nat) (w : World) (h : Ringed w R S cap at_ q lost) (hG : (cap : Int) - (q.length : Int) = (G : Int)) (hl : wrap64 lost = lost) :
    Calls Tryz.prog 29 #[.pointer (some ⟨S, 0, none⟩), .slice a 0 c] w fun e w' =>
      e = .returned (.int .i64 0) ∧ Ringed w' R S cap at_ q lost ∧ Only [R, S] w w' := by
  have hql := h.len
  have hcl := h.capLe
  have hsl := run_head Tryz.prog w.drew 22 a 0 c 0 Tryz.elem22 1 Tryz.size5 (by omega) .i64
  have g0 : w.cell? ⟨S, 0, none⟩ = some (.slice (some ⟨R, 0, none⟩) cap cap) := cell_at h.str rfl
  have g2 : w.cell? ⟨S, 2, none⟩ = some (.int .i64 q.length) := cell_at h.str rfl
  have g3 : w.cell? ⟨S, 3, none⟩ = some (.int .i64 lost) := cell_at h.str rfl
  have f3 : w.frozen? ⟨S, 3, none⟩ = false := free_at h.str
  have hp := (h.setLost lost).drew
  have HP := LH hp
  clear hp
  go_enter Tryz.func29, Tryz.ntmps29
  go_wp2
  go_region
  go_wp2
  refine wp_loop_rounds 1 ?_
  rw [rounds_succ]
  go_wp2
  go_ret
  exact ⟨rfl, HP.out, ((Only.refl _ _).setCell (by simp) _).drew⟩
theorem put_any (R S cap at_ : Nat) (q : List UInt8) (lost : Int) (a : Option Addr) (bs : List UInt8) (n c : Nat) (w : World) (h : Ringed w R S cap at_ q lost) (hl : wrap64 lost = lost)
    (hb : Bytes w a bs) (ha : bs = [] ∨ Away a [R, S]) (hn : bs.length = n) (hc : n ≤ c) (hm : c ≤ 9223372036854775807) :
    Calls Tryz.prog 29 #[.pointer (some ⟨S, 0, none⟩), .slice a n c] w fun e w' =>
      e = .returned (.int .i64 (min n (cap - q.length) : Nat)) ∧ Ringed w' R S cap at_ (q ++ bs.take (min n (cap - q.length))) (wrap64 (lost + ((n : Int) - (min n (cap - q.length) : Nat)))) ∧ Only [R, S] w w' := by
  have hG : (cap : Int) - (q.length : Int) = ((cap - q.length : Nat) : Int) := by have := h.len; omega
  subst hn
  cases bs with
  | nil =>
    have := rput_nil R S cap at_ q lost a c _ w h hG hl
    simpa [hl] using this
  | cons x bs =>
    cases a with
    | none => cases hb.nil rfl
    | some ad =>
      obtain ⟨B, off, sp⟩ := ad
      have hsp := spot_of_cell (hb.cell _ rfl 0 (by simp))
      simp only [Addr.add, if_pos] at hsp
      subst hsp
      have hm2 := (ha.resolve_left (by simp)) _ rfl
      simp only [List.mem_cons, List.not_mem_nil, or_false, not_or] at hm2
      exact rput_some R S cap at_ q lost B off (x :: bs) c _ _ w h hb hm2.1 hm2.2 hc hm hG rfl
theorem wrap_in (x : Int) (h0 : 0 ≤ x) (h1 : x ≤ 9223372036854775807) : wrap64 x = x := by
  unfold wrap64; omega
theorem put_fit (R S cap at_ : Nat) (q : List UInt8) (lost : Int) (a : Option Addr) (bs : List UInt8) (n c : Nat) (w : World) (h : Ringed w R S cap at_ q lost)
    (hb : Bytes w a bs) (ha : bs = [] ∨ Away a [R, S]) (hn : bs.length = n) (hc : n ≤ c) (hm : c ≤ 9223372036854775807) (h0 : 0 ≤ lost) (h1 : lost + n ≤ 9223372036854775807)
    (F : Nat) (hF : F = min n (cap - q.length)) (q' : List UInt8) (hq : q' = q ++ bs.take F) (l' : Int) (hl' : l' = lost + ((n : Int) - F)) :
    Calls Tryz.prog 29 #[.pointer (some ⟨S, 0, none⟩), .slice a n c] w fun e w' =>
      e = .returned (.int .i64 F) ∧ Ringed w' R S cap at_ q' l' ∧ Only [R, S] w w' := by
  have hw : wrap64 (lost + ((n : Int) - F)) = l' := by rw [hl']; exact wrap_in _ (by omega) (by omega)
  have := put_any R S cap at_ q lost a bs n c w h (wrap_in _ h0 (by omega)) hb ha hn hc hm
  rw [← hF, ← hq, hw] at this
  exact this
def errV (e : Nat) : Value := if e = 0 then .nilIface else .iface 57 (.int .i64 e)
theorem errV_zero : errV 0 = .nilIface := rfl
theorem errV_pos {e : Nat} (h : 0 < e) : errV e = .iface 57 (.int .i64 e) := by unfold errV; rw [if_neg (by omega)]
theorem u46 : Tryz.prog.underlying 46 = some (.interface (Tryz.prog.methodsAt 46)) := by kernel_rfl
theorem u57 : Tryz.prog.underlying 57 = some (.int .i64) := by kernel_rfl
theorem c57 : (Tryz.prog.info? 57).map (·.comparable) = some true := by kernel_rfl
theorem eql_ii (w : World) (a b : Int) : (binOp .eql 46 (.iface 57 (.int .i64 a)) (.iface 57 (.int .i64 b))).run Tryz.prog w = .ok (.bool (a == b)) w := Lib.run_eql_iface_int w a b u46 c57 u57
theorem eql_ni (w : World) (t : TypeId) (x : Value) : (binOp .eql 46 .nilIface (.iface t x)).run Tryz.prog w = .ok (.bool false) w := by
  have h : ∀ d : Nat, (Op.equalIn (d + 1) 46 .nilIface (.iface t x)).run Tryz.prog w = .ok false w := fun d => by
    simp [Op.equalIn, run_underlying u46]
  simp only [binOp]
  simp [Op.equal, Op.maxDepth, h 9999]
theorem eql_in (w : World) (t : TypeId) (x : Value) : (binOp .eql 46 (.iface t x) .nilIface).run Tryz.prog w = .ok (.bool false) w := run_eql_held_nil w 46 t x u46
theorem neq_in (w : World) (t : TypeId) (x : Value) : (binOp .neq 46 (.iface t x) .nilIface).run Tryz.prog w = .ok (.bool true) w := run_neq_held_nil w 46 t x u46
theorem eql_nn (w : World) : (binOp .eql 46 .nilIface .nilIface).run Tryz.prog w = .ok (.bool true) w := run_eql_nil_nil w 46 u46
theorem neq_nn (w : World) : (binOp .neq 46 .nilIface .nilIface).run Tryz.prog w = .ok (.bool false) w := run_neq_nil_nil w 46 u46
theorem run_appAt (w : World) (base : Nat) (ty : TypeId) (v : Value) (n : Nat) (xs : List UInt8) (hown : w.ownsRow base 5 1 v n (xs.map byteV)) (a : Option Addr) (m c : Nat) (bs : List UInt8) (hb : Bytes w a bs) (hm : bs.length = m) (hn : a = none → c = 0)
    (hl : n + m ≤ 140737488355328) (hbase : base ≤ w.heap.size) :
    ∃ v' w', (Builtin.append_ #[22, 22] ty #[v, .slice a m c]).run Tryz.prog w = .ok v' w' ∧ w'.ownsRow base 5 1 v' (n + m) ((xs ++ bs).map byteV) ∧ w.grownBy w' v.ownBlock ∧ (∀ g', v'.ownBlock = some g' → v.ownBlock = some g' ∨ w.heap.size ≤ g') := by
  obtain ⟨i0, hi, hz0, hz1, hz2⟩ := info_parts Tryz.info5
  cases a with
  | none =>
    obtain rfl := hn rfl
    obtain rfl := hb.nil rfl
    simp only [List.length_nil] at hm
    subst hm
    refine ⟨v, w, run_append_owned_none (P := Tryz.prog) w base 22 ty 5 i0 1 Tryz.underlying22 hi v n _ hown, ?_, World.grownBy.refl _ _, fun g e => .inl e⟩
    simpa using hown
  | some ad =>
    obtain ⟨v', w', hr, h1, h2, _, h4⟩ := run_append_own_at (P := Tryz.prog) w base 22 ty 5 i0 (.int .u8 0) 1 1 Tryz.underlying22 hi hz0 hz1 hz2 rfl (by decide) v n _ hown ad m c (bs.map byteV) (by simp [hm]) (bytes_news hb) (byteV_one bs)
      (by unfold maxLen; omega) (by omega) hbase
    refine ⟨v', w', hr, by rw [List.map_append]; exact h1, h2, fun g' e' => ?_⟩
    rcases h4 with r4 | r4
    · left; rw [← r4]; exact e'
    · right; rw [r4] at e'; cases e'; exact Nat.le_refl _
theorem wpList_appAt (w : World) {ops : Array Oper} {rest : List Oper} {o : Oper} {a : Act} {Q : Exit → Act → World → Prop}
    (hg : o.guard = none) (s x : Operand) (hop : o.op = Op.call { callee := Callee.builtin Builtin.append, args := #[s, x], argTypes := #[22, 22] })
    (base : Nat) (v : Value) (n : Nat) (xs : List UInt8) (hs : a.eval s = v) (hown : w.ownsRow base 5 1 v n (xs.map byteV)) (ao : Option Addr) (m c : Nat) (bs : List UInt8) (hx : a.eval x = .slice ao m c) (hb : Bytes w ao bs) (hm : bs.length = m) (hn : ao = none → c = 0)
    (zs : List UInt8) (hz : xs ++ bs = zs) (N : Nat) (hN : n + m = N) (hl : N ≤ 140737488355328) (hbase : base ≤ w.heap.size)
    (hK : ∀ a' c' w', w'.ownsRow base 5 1 (.slice a' N c') N (zs.map byteV) → w.grownBy w' v.ownBlock → (∀ g', (Value.slice a' N c').ownBlock = some g' → v.ownBlock = some g' ∨ w.heap.size ≤ g') → wpList Tryz.prog ops Q rest (a.put o.dst (.slice a' N c')) w') :
    wpList Tryz.prog ops Q (o :: rest) a w := by
  subst hz
  subst hN
  refine wpList_plain hg fun K hK' => ?_
  obtain ⟨v', w', hrun, r1, r2, r3⟩ := run_appAt w base o.type v n xs hown ao m c bs hb hm hn hl hbase
  obtain ⟨a', c', rfl⟩ := own_slice r1
  unfold Oper.wp
  simp [execOp, hop, resolve, invoke, builtin, hs, hx, hrun, Result.andThen]
  exact hK' _ _ (hK _ _ w' r1 r2 r3)
abbrev RowB (w : World) (v : Value) (bs : List UInt8) : Prop := w.ownsRow 0 5 1 v bs.length (bs.map byteV)
theorem RowB.live {w : World} {v : Value} {bs : List UInt8} (h : RowB w v bs) : ∀ g, v.ownBlock = some g → g < w.heap.size := fun g e => (World.ownsRow.lt h g e).2
theorem RowB.slc {w : World} {v : Value} {bs : List UInt8} (h : RowB w v bs) : Slc w (ownL v) v bs := by
  obtain ⟨a, c, rfl⟩ := own_slice h
  obtain ⟨h1, h2, h3, h4, h5, h6⟩ := Bytes.of_owns h
  refine ⟨a, c, rfl, h1, h3, h6, h4, fun x e => ?_⟩
  subst e
  rcases h.2 with ⟨hv, _⟩ | ⟨g, cap, cur, hv, _⟩
  · cases hv
  · simp only [Value.slice.injEq] at hv
    obtain ⟨e, _, _⟩ := hv
    cases e
    simp [ownL, Value.ownBlock]
theorem RowB.nil (w : World) : RowB w (.slice none 0 0) [] := World.ownsRow_nil _ _ _ _
theorem Out.row {w w' : World} {v : Value} {bs : List UInt8} (h : Out w w' v bs) : RowB w' v bs := ownsRow_base h (Nat.zero_le _)
theorem mem_ownL {v : Value} {g : Nat} : g ∈ ownL v ↔ v.ownBlock = some g := by simp [ownL]
def parts : Nat → List UInt8 → List (List UInt8)
  | 0, _ => []
  | f + 1, d => if d = [] then [] else (d.take 128 ++ List.replicate (128 - d.length) 26) :: parts f (d.drop 128)
theorem parts_fuel : ∀ (f : Nat) (d : List UInt8), d.length ≤ f → ∀ f', d.length ≤ f' → parts f d = parts f' d := by
  intro f
  induction f with
  | zero =>
    intro d h f' h'
    have : d = [] := List.eq_nil_of_length_eq_zero (by omega)
    subst this
    cases f' <;> simp [parts]
  | succ f ih =>
    intro d h f' h'
    cases f' with
    | zero =>
      have : d = [] := List.eq_nil_of_length_eq_zero (by omega)
      subst this
      simp [parts]
    | succ f' =>
      unfold parts
      split
      · rfl
      · rename_i hne
        have : 0 < d.length := List.length_pos_iff.2 hne
        rw [ih (d.drop 128) (by simp; omega) f' (by simp; omega)]
theorem split_parts (d : List UInt8) (large : Bool) (h : large = false ∨ d.length < 1024) : M.split d large = parts d.length d := by
  have main : ∀ (f : Nat) (d : List UInt8), (large = false ∨ d.length < 1024) → M.splitF large f d = parts f d := by
    intro f
    induction f with
    | zero => intro d _; rfl
    | succ f ih =>
      intro d h
      unfold M.splitF parts
      split
      · rfl
      · have hn : (if large = true ∧ 1024 ≤ d.length then 1024 else 128) = 128 := by
          rw [if_neg]
          rintro ⟨h1, h2⟩
          rcases h with h | h
          · rw [h] at h1; cases h1
          · omega
        simp only [hn]
        have hl : (d.take (min 128 d.length)).length = min 128 d.length := by simp
        have ht : d.take (min 128 d.length) = d.take 128 := by
          rcases Nat.le_total 128 d.length with h' | h'
          · rw [Nat.min_eq_left h']
          · rw [Nat.min_eq_right h', List.take_length, List.take_of_length_le h']
        have hd : d.drop (min 128 d.length) = d.drop 128 := by
          rcases Nat.le_total 128 d.length with h' | h'
          · rw [Nat.min_eq_left h']
          · rw [Nat.min_eq_right h', List.drop_length, List.drop_of_length_le h']
        rw [hl, ht, hd, ih _ (by rcases h with h | h; · exact .inl h
                                 · right; simp; omega)]
        congr 2
        congr 1
        omega
  exact main d.length d h
theorem parts_len (f : Nat) (d : List UInt8) : ∀ p, p ∈ parts f d → p.length = 128 := by
  induction f generalizing d with
  | zero => intro p hp; simp [parts] at hp
  | succ f ih =>
    intro p hp
    unfold parts at hp
    split at hp
    · simp at hp
    · rcases List.mem_cons.1 hp with rfl | hp
      · simp; omega
      · exact ih _ p hp
structure Parts (w : World) (base : Nat) (ro : List Nat) (v : Value) (ps : List (List UInt8)) : Prop where
  own : ∃ us, w.ownsRow base 22 1 v ps.length us ∧ ∀ (j : Nat) p, ps[j]? = some p → ∃ u, us[j]? = some u ∧ Slc w ro u p
  lo : ∀ b, b ∈ ro → base ≤ b ∧ b < w.heap.size
  sep : ∀ g, v.ownBlock = some g → g ∉ ro
theorem Parts.of_only {w w' : World} {base : Nat} {ro ks : List Nat} {v : Value} {ps : List (List UInt8)} (h : Parts w base ro v ps) (ho : Only ks w w') (hk : ∀ b, b ∈ ks → b < base) : Parts w' base ro v ps := by
  obtain ⟨us, h1, h2⟩ := h.own
  refine ⟨⟨us, ownsRow_only h1 ho (fun g e hg => by have := hk g hg; have := (h1.lt g e).1; omega), fun j p hj => ?_⟩, fun b hb => ⟨(h.lo b hb).1, Nat.lt_of_lt_of_le (h.lo b hb).2 ho.size⟩, h.sep⟩
  obtain ⟨u, q1, q2⟩ := h2 j p hj
  exact ⟨u, q1, q2.of_only ho (fun b hb hc => by have := hk b hc; have := (h.lo b hb).1; omega)⟩
theorem Parts.slcs {w : World} {base : Nat} {ro : List Nat} {v : Value} {ps : List (List UInt8)} (h : Parts w base ro v ps) : ∃ a c, v = .slice a ps.length c ∧ Slcs w (ownL v ++ ro) a ps ∧ ps.length ≤ c := by
  obtain ⟨us, h1, h2⟩ := h.own
  obtain ⟨a, c, rfl⟩ := own_slice h1
  refine ⟨a, c, rfl, fun k b hk => ?_, ?_⟩
  · obtain ⟨u, q1, q2⟩ := h2 k b hk
    obtain ⟨g, rfl, q3, q4, q5⟩ := row_at h1 k u q1
    exact ⟨g, u, rfl, by simp [ownL, Value.ownBlock], q5, q2.more (by intro b hb; simp [hb])⟩
  · rcases h1.2 with ⟨hv, h0⟩ | ⟨g, cap, cur, hv, hg, hh, hle, hm, _⟩
    · omega
    · simp only [Value.slice.injEq] at hv; omega
theorem Parts.push {w w1 : World} {base B1 n : Nat} {ro : List Nat} {v v' u : Value} {ps : List (List UInt8)} {p : List UInt8} {o : Obj} (h : Parts w base ro v ps) (hu : RowB w u p) (hlo : ∀ g, u.ownBlock = some g → B1 ≤ g) (hv : ∀ g, v.ownBlock = some g → g < B1) (hb : base ≤ B1)
    (hg : (w.alloc o).grownBy w1 v.ownBlock) (hat : ∀ g, v'.ownBlock = some g → v.ownBlock = some g ∨ w.heap.size ≤ g)
    (us0 : List Value) (hown : w1.ownsRow base 22 1 v' n (us0 ++ [u])) (hn : n = ps.length + 1) (hus0 : w.ownsRow base 22 1 v ps.length us0) (hus1 : ∀ (j : Nat) q, ps[j]? = some q → ∃ u, us0[j]? = some u ∧ Slc w ro u q) :
    Parts w1 base (ro ++ ownL u) v' (ps ++ [p]) := by
  have o1 : Only (ownL v) w w1 := ((Only.refl _ w).alloc o).trans (only_grown hg)
  subst hn
  have hul := hu.live
  refine ⟨⟨us0 ++ [u], by simpa using hown, fun j q hj => ?_⟩, fun b hb' => ?_, fun g e hg' => ?_⟩
  · have hl : us0.length = ps.length := by have := hus0.1; omega
    rcases Nat.lt_trichotomy j ps.length with hlt | heq | hgt
    · rw [List.getElem?_append_left hlt] at hj
      obtain ⟨x, q1, q2⟩ := hus1 j q hj
      refine ⟨x, by rw [List.getElem?_append_left (by omega)]; exact q1, (q2.of_only o1 (fun b hb hc => h.sep b (mem_ownL.1 hc) hb)).more (by intro b hb; simp [hb])⟩
    · subst heq
      simp at hj
      subst hj
      refine ⟨u, by rw [← hl]; simp, (hu.slc.of_only o1 (fun b hb hc => ?_)).more (by intro b hb; simp [hb])⟩
      have h1 := hlo b (mem_ownL.1 hb)
      have h2 := hv b (mem_ownL.1 hc)
      omega
    · rw [List.getElem?_eq_none (by simp; omega)] at hj; cases hj
  · rcases List.mem_append.1 hb' with h' | h'
    · exact ⟨(h.lo b h').1, Nat.lt_of_lt_of_le (h.lo b h').2 o1.size⟩
    · exact ⟨Nat.le_trans hb (hlo b (mem_ownL.1 h')), Nat.lt_of_lt_of_le (hul b (mem_ownL.1 h')) o1.size⟩
  · rcases List.mem_append.1 hg' with h' | h'
    · rcases hat g e with h2 | h2
      · exact h.sep g h2 h'
      · have := (h.lo g h').2; omega
    · have h3 := hlo g (mem_ownL.1 h')
      rcases hat g e with h2 | h2
      · have := hv g h2; omega
      · have := hul g (mem_ownL.1 h'); omega
theorem Tryz.info22 : (Tryz.prog.info? 22).map (fun i => (i.zero, i.size, i.bytes)) = some (some (.slice none 0 0), 1, 24) := by kernel_rfl
theorem parts_one (d : List UInt8) (h : 0 < d.length) : parts d.length d = (d.take 128 ++ List.replicate (128 - d.length) 26) :: parts (d.drop 128).length (d.drop 128) := by
  have hne : d ≠ [] := by intro e; rw [e] at h; simp at h
  obtain ⟨f, hf⟩ : ∃ f, d.length = f + 1 := ⟨d.length - 1, by omega⟩
  rw [hf]
  show (if d = [] then [] else _) = _
  rw [if_neg hne, parts_fuel f (d.drop 128) (by simp; omega) (d.drop 128).length (Nat.le_refl _), ← hf]
theorem split_any (a0 : Option Addr) (n0 c0 : Nat) (large : Bool) (d0 : List UInt8) (w : World) (hb : Bytes w a0 d0) (hn : d0.length = n0) (hc : n0 ≤ c0) (hm : c0 ≤ 9223372036854775807) (hnil : a0 = none → c0 = 0) (ha : ∀ ad, a0 = some ad → ad.block < w.heap.size) (hl : n0 < 1024) :
    Calls Tryz.prog 90 #[.slice a0 n0 c0, .bool large] w fun e w' => ∃ v ro, e = .returned v ∧ Parts w' w.heap.size ro v (parts n0 d0) ∧ Only [] w w' := by
  have HB := LH (AI hb (AI hn (AI hnil ha)))
  have hpd : parts d0.length d0 = parts n0 d0 := by rw [hn]
  have HPD := LH hpd
  clear hb hn hnil ha hpd
  go_enter Tryz.func90, Tryz.ntmps90
  go_wp2_with fail
  go_loopw [0, 5] (fun s0 s5 wr => ∃ (ds : List UInt8) (done : List (List UInt8)) (a : Option Addr) (m c : Nat) (ro : List Nat), s0 = .slice a m c ∧ ds.length = m ∧ m ≤ n0 ∧ Bytes wr a ds ∧ (a = none → c = 0) ∧ m ≤ c ∧ c ≤ 9223372036854775807 ∧ (∀ ad, a = some ad → ad.block < w.heap.size) ∧ Parts wr w.heap.size ro s5 done ∧ Only [] w wr ∧ done ++ parts ds.length ds = parts n0 d0 ∧ done.length + m ≤ n0) (fun s0 _ _ => match s0 with | .slice _ m _ => m | _ => 0)
  case atStart =>
    exact ⟨d0, [], a0, n0, c0, [], rfl, HB.out.2.1, Nat.le_refl _, HB.out.1, HB.out.2.2.1, hc, hm, HB.out.2.2.2, ⟨⟨[], World.ownsRow_nil _ _ _ _, fun j p hj => by simp at hj⟩, fun b hb => by simp at hb, fun g e => by simp [Value.ownBlock] at e⟩, Only.refl _ _, by rw [← HPD.out]; rfl, by simp⟩
  case round =>
    obtain ⟨ds, done, a, m, c, ro, rfl, hdm, hmn, hby, hnil, hmc, hcm, hal, hpa, ho, heq, hcnt⟩ := hrel
    by_cases hm0 : 0 < m
    · obtain ⟨B, o, rfl, _⟩ := hby.at 0 (by omega)
      obtain ⟨q, hq⟩ : ∃ q, q = min 128 m := ⟨_, rfl⟩
      have hmin : (if (m : Int) < 128 then (m : Int) else 128) = (q : Int) := by split <;> omega
      have hq1 : 1 ≤ q := by omega
      have hqm : q ≤ m := by omega
      have hq8 : q ≤ 128 := by omega
      have hhd := fun w => run_head Tryz.prog w 22 (some ⟨B, o, none⟩) m c q Tryz.elem22 1 Tryz.size5 (by omega) .i64
      obtain ⟨A', hA'⟩ : ∃ A', A' = (if c = q then some ⟨B, o, none⟩ else (some ⟨B, o, none⟩ : Option Addr).map (·.add (q * 1))) := ⟨_, rfl⟩
      have htl := fun w => run_tail Tryz.prog w 22 (some ⟨B, o, none⟩) m c q Tryz.elem22 1 Tryz.size5 (by omega) .i64
      simp only [← hA'] at htl
      have hby' : Bytes wr A' (ds.drop q) := by rw [hA']; exact hby.tail q c (by omega) (by omega)
      have hbh := hby.head q
      have hdl : ds.length = m := hdm
      have hpo := parts_one ds (by omega)
      have e1 : ds.take 128 = ds.take q := by
        rcases Nat.le_total 128 m with h' | h'
        · rw [hq, Nat.min_eq_left h']
        · rw [hq, Nat.min_eq_right h', ← hdl, List.take_length, List.take_of_length_le (by omega)]
      have e2 : ds.drop 128 = ds.drop q := by
        rcases Nat.le_total 128 m with h' | h'
        · rw [hq, Nat.min_eq_left h']
        · rw [hq, Nat.min_eq_right h', ← hdl, List.drop_length, List.drop_of_length_le (by omega)]
      have e3 : 128 - ds.length = 128 - q := by omega
      rw [e1, e2, e3] at hpo
      rw [hpo] at heq
      have htn : A' = none → c - q = 0 := by intro h; rw [hA'] at h; split at h <;> simp at h
      have hA'l : ∀ ad, A' = some ad → ad.block < w.heap.size := by
        intro ad h
        rw [hA'] at h
        split at h
        · cases h; exact hal _ rfl
        · simp at h; subst h; rw [add_block]; exact hal _ rfl
      have hlg : large = false ∨ decide ((m : Int) ≥ 1024) = false := .inr (by simp; omega)
      have d0 : decide ((m : Int) > 0) = true := by simp; omega
      have d1 : decide ((m : Int) ≥ 1024) = false := by simp; omega
      have hdm2 : (ds.drop q).length = m - q := by simp; omega
      have htk : (ds.take q).length = q := by simp; omega
      have HX := LH (AI hpa (AI ho (AI heq (AI hby' (AI hbh (AI htn (AI hA'l (AI hdm2 htk))))))))
      have hwr := ho.size
      clear hpa ho heq hby' hbh htn hA'l hdm2 htk hby hnil hal hdm hpo e1 e2 e3 hq hA' hdl hlg
      obtain ⟨i5, h50, h51, h52, h53⟩ := info_parts Tryz.info5
      obtain ⟨i22, g0, g1, g2, g3⟩ := info_parts Tryz.info22
      have HI := LH (AI (AI h50 (AI h51 (AI h52 h53))) (AI g0 (AI g1 (AI g2 g3))))
      clear h50 h51 h52 h53 g0 g1 g2 g3
      cases large
      all_goals
        go_wp2_with (at_builtin; go_loud (refine wpList_appAt _ rfl (.const (.slice none 0 0)) (.tmp 22) rfl wr.heap.size (.slice none 0 0) 0 [] rfl (World.ownsRow_nil _ _ _ _) (some ⟨B, o, none⟩) q c (ds.take q) rfl HX.out.2.2.2.2.1 HX.out.2.2.2.2.2.2.2.2 (by intro e; cases e) (ds.take q) rfl q (Nat.zero_add _) (by omega) (Nat.le_refl _) ?_); intro a' c' w1 q1 q2 q3; have ho1 : Only [] wr w1 := (only_grown q2).weaken (by simp [Value.ownBlock]); have H1 := LH (AI q1 ho1); clear q1 q2 q3 ho1)
        clear hhd htl
        obtain ⟨S0, hS0⟩ : ∃ S0, S0 = wr.heap.size := ⟨_, rfl⟩
        have HS0 := LH hS0
        rw [← hS0] at hwr
        go_loopw [7] (fun s7 wi => ∃ k av cv, s7 = .slice av k cv ∧ q ≤ k ∧ k ≤ 128 ∧ wi.ownsRow S0 5 1 s7 k ((ds.take q ++ List.replicate (k - q) 26).map byteV) ∧ Only [] wr wi) (fun s7 _ => match s7 with | .slice _ k _ => 128 - k | _ => 0)
        case atStart => exact ⟨q, a', c', rfl, Nat.le_refl _, hq8, by rw [Nat.sub_self, HS0.out]; simpa using H1.out.1, H1.out.2⟩
        case round =>
          obtain ⟨k, av, cv, rfl, hqk, hk8, hrow, hoi⟩ := hrel
          have hS1 : S0 ≤ wr.heap.size := by rw [HS0.out]; exact hoi.size
          by_cases hk : k < 128
          · have hk' : ((k : Int) < 128) = True := by simp; omega
            have HR := LH (AI hrow hoi)
            clear hrow hoi hS0
            obtain ⟨⟨h50, h51, h52, h53⟩, _⟩ := HI.out
            go_wp2_with (at_builtin; go_loud (refine wpList_push _ rfl (.tmp 32) (.tmp 33) 22 5 rfl i5 (.int .u8 0) 1 Tryz.underlying22 h50 h51 h52 h53 rfl S0 (.slice av k cv) k _ rfl (HR.out.1.alloc _) wr.heap.size (.int .u8 26) rfl (World.cell?_alloc_at _ _ _ _ rfl) rfl (by unfold maxLen; omega) (by omega) (by simp; omega) ?_); intro v' w2 q1 q2 q3)
            obtain ⟨a2, c2, rfl⟩ := own_slice q1
            refine ⟨⟨k + 1, a2, c2, rfl, by omega, by omega, ?_, (HR.out.2.alloc _).grown q2 (fun b hb => .inr (by have := (HR.out.1.lt b hb).1; rw [HS0.out] at this; exact this))⟩, by simp; omega⟩
            have e : k + 1 - q = (k - q) + 1 := by omega
            rw [e, List.replicate_succ', ← List.append_assoc, List.map_append]
            exact q1
          · obtain rfl : k = 128 := by omega
            have hpa' := HX.out.1.of_only hoi (by simp)
            obtain ⟨us0, hus0, hus1⟩ := hpa'.own
            have hpl : (ds.take q ++ List.replicate (128 - q) 26).length = 128 := by simp [HX.out.2.2.2.2.2.2.2.2]; omega
            have hrb : RowB wr (.slice av 128 cv) (ds.take q ++ List.replicate (128 - q) 26) := by unfold RowB; rw [hpl]; exact ownsRow_base hrow (Nat.zero_le _)
            have HR := LH (AI hrow (AI hoi (AI hpa' (AI hus0 (AI hus1 hrb)))))
            clear hrow hoi hS0 hpa' hus0 hus1 hrb hpl
            obtain ⟨_, ⟨g0, g1, g2, g3⟩⟩ := HI.out
            go_wp2_with (at_builtin; go_loud (refine wpList_push _ rfl (.tmp 35) (.tmp 37) 26 22 rfl i22 (.slice none 0 0) 24 Tryz.underlying26 g0 g1 g2 g3 rfl w.heap.size u5 done.length us0 rfl (HR.out.2.2.2.1.alloc _) wr.heap.size (.slice av 128 cv) rfl (World.cell?_alloc_at _ _ _ _ rfl) rfl (by unfold maxLen; omega) (by omega) (by simp; omega) ?_); intro v' w3 q1 q2 q3)
            have o3 : Only [] w w3 := ((HX.out.2.1.trans HR.out.2.1).alloc _).grown q2 (fun b hb => .inr ((HR.out.2.2.2.1.lt b hb).1))
            have oo3 : Only (ownL u5) wr w3 := ((Only.refl _ wr).alloc _).trans (only_grown q2)
            have hp3 := HR.out.2.2.1.push (B1 := S0) (n := done.length + 1) (p := ds.take q ++ List.replicate (128 - q) 26) HR.out.2.2.2.2.2 (fun g e => (HR.out.1.lt g e).1) (fun g e => by obtain ⟨us, h1, _⟩ := HX.out.1.own; rw [HS0.out]; exact (h1.lt g e).2) hwr q2 (fun g e => (q3 g e).imp id (by intro h; simp at h; omega)) us0 q1 rfl HR.out.2.2.2.1 HR.out.2.2.2.2.1
            obtain ⟨h1, h2, h3, h4, h5, h6, h7, h8, h9⟩ := HX.out
            refine ⟨⟨ds.drop q, done ++ [ds.take q ++ List.replicate (128 - q) 26], A', m - q, c - q, _, rfl, h8, by omega, ?_, h6, by omega, by omega, h7, hp3, o3, ?_, by simp; omega⟩, by simp; omega⟩
            · exact (h4.of_only HR.out.2.1 (.inr (by intro ad e; simp))).of_only oo3 (.inr fun ad e hb => by
                have h10 := h7 ad e
                have h11 := (HR.out.2.2.2.1.lt _ (mem_ownL.1 hb)).1
                omega)
            · rw [List.append_assoc, ← h3]; rfl
    · obtain rfl : m = 0 := by omega
      have hds : ds = [] := List.eq_nil_of_length_eq_zero hdm
      have HX := LH (AI hpa (AI ho (AI heq hds)))
      clear hpa ho heq hds hby hnil hal hdm
      go_wp2_with fail
      go_ret
      refine ⟨_, ro, rfl, ?_, HX.out.2.1⟩
      have h1 := HX.out.2.2.1
      rw [HX.out.2.2.2] at h1
      have h2 : done = parts n0 d0 := by simpa [parts] using h1
      rw [← h2]
      exact HX.out.1
end Go.Proofs.YtplaamfoeaaaiaaGreatDoor
