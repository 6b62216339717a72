/-
  The contract of (*Ring).Put: as many bytes as there is room for are laid behind the others; the rest is counted as lost.
-/
import Derived.Test.YtfnglidobljlgaaWk
import Derived.StillTailTactics
namespace Go.Proofs.Ytfnglidobljlgaa
open Go.RowKit

theorem Try.size5 (w : World) : (sizeOf (Try.prog.elem 26)).run Try.prog w = .ok 1 w := by
  have h : Try.prog.elem 26 = 5 := by kernel_rfl
  rw [h]
  obtain ⟨i, hi, _, hs, _⟩ := info_parts Try.info5
  simp [sizeOf, typeInfo, hi, hs]

theorem Try.elem26 : Try.prog.underlying 26 = some (.slice (Try.prog.elem 26)) := by kernel_rfl

theorem take_snoc (bs : List UInt8) (k : Nat) (h : k < bs.length) : bs.take (k + 1) = bs.take k ++ [bs.getD k 0] := by
  rw [List.take_succ_eq_append_getElem h]; simp [List.getD, h]

theorem sum_w (a m c : Nat) (ha : a < c) (hm : m < c) (hc : c ≤ 4096) : wrap64 ((a : Int) + (m : Int)) = (a : Int) + m := by
  unfold wrap64; omega

theorem sum_i (a m c : Nat) (ha : a < c) (hm : m < c) (hc : c ≤ 4096) : IntKind.i64.wrap ((a : Int) + (m : Int)) = (a : Int) + m := by
  rw [IntKind.wrap_i64]; omega

theorem sum_mod (a m c x : Nat) (hx : x = (a + m) % c) : ((a : Int) + (m : Int)).tmod (c : Int) = (x : Int) := by
  rw [Int.tmod_eq_emod_of_nonneg (by omega), hx]
  simp

theorem sub_w (n f : Nat) (h : f ≤ n) (h2 : n ≤ 9223372036854775807) : wrap64 ((n : Int) - f) = (n : Int) - f := by
  unfold wrap64; omega

set_option maxHeartbeats 1000000 in
theorem put_some (R S cap at_ : Nat) (q : List UInt8) (lost : Int) (B off : Nat) (bs : List UInt8) (c G F : Nat) (w : World) (h : Ringed w R S cap at_ q lost)
    (hb : Bytes w (some ⟨B, off, none⟩) bs) (hR : B ≠ R) (hS : B ≠ S) (hc : bs.length ≤ c) (hm : c ≤ 9223372036854775807) (hG : (cap : Int) - (q.length : Int) = (G : Int)) (hF : F = min bs.length G) :
    Calls Try.prog 11 #[.pointer (some ⟨S, 0, none⟩), .slice (some ⟨B, off, none⟩) bs.length c] w fun e w' =>
      e = .returned (.int .i64 F) ∧ Ringed w' R S cap at_ (q ++ bs.take F) (wrap64 (lost + ((bs.length : Int) - F))) ∧ Only [R, S] w w' := by
  have hql := h.len
  have hcl := h.capLe
  have hsl := run_head Try.prog w.drew 26 (some ⟨B, off, none⟩) bs.length c F Try.elem26 1 Try.size5 (by omega) .i64
  have g0 : w.cell? ⟨S, 0, none⟩ = some (.slice (some ⟨R, 0, none⟩) cap cap) := cell_at h.str rfl
  have g2 : w.cell? ⟨S, 2, none⟩ = some (.int .i64 q.length) := cell_at h.str rfl
  have hmin : (if G < bs.length then (G : Int) else (bs.length : Int)) = (F : Int) := by split <;> omega
  have HF : Hid (F = min bs.length G) := hF
  clear hF
  go_enter Try.func11, Try.ntmps11
  go_wp2
  go_region
  go_wp2
  clear hsl hmin g0 g2
  go_loopw [25] (fun i wr => ∃ k : Nat, k ≤ F ∧ i = .int .i64 k ∧ Ringed wr R S cap at_ (q ++ bs.take k) lost ∧ Only [R, S] w wr) (fun i _ => F - (intOf i).toNat)
  case atStart => exact ⟨0, Nat.zero_le _, rfl, by simpa using h.drew, (Only.refl _ _).drew⟩
  case round =>
    obtain ⟨k, hk, rfl, hr, ho⟩ := hrel
    by_cases hlt : k < F
    · obtain ⟨m, hmm⟩ : ∃ m, m = q.length + k := ⟨_, rfl⟩
      obtain ⟨x, hx⟩ : ∃ x, x = (at_ + m) % cap := ⟨_, rfl⟩
      have hlen : (q ++ bs.take k).length = m := by have hF := HF.out; simp; omega
      have hlt2 : m < cap := by have hF := HF.out; omega
      have hkb : k < 4096 := by have hF := HF.out; omega
      have hxc : x < cap := by rw [hx]; exact Nat.mod_lt _ h.capPos
      have hbb : wr.cell? ⟨B, off + k, none⟩ = some (byteV (bs.getD k 0)) := by have h' := (hb.of_only ho (.inr (by intro ad e; cases e; simp [hR, hS]))).cell _ rfl k (by have hF := HF.out; omega); rw [Addr.add_lit] at h'; exact h'
      have hp := hr.put (by omega) (bs.getD k 0)
      have hstr := hr.str
      have hat := hr.atLt
      obtain ⟨buf, hbuf, hbs, hall, _⟩ := hr.room
      obtain ⟨xo, hxo⟩ := hall x hxc
      rw [hlen, ← hx] at hp
      rw [hlen] at hstr
      rw [List.append_assoc, ← take_snoc bs k (by have hF := HF.out; omega)] at hp
      have HP := Lib.hid hp
      have g0 : wr.cell? ⟨S, 0, none⟩ = some (.slice (some ⟨R, 0, none⟩) cap cap) := cell_at hstr rfl
      have g1 : wr.cell? ⟨S, 1, none⟩ = some (.int .i64 at_) := cell_at hstr rfl
      have g2 : wr.cell? ⟨S, 2, none⟩ = some (.int .i64 m) := cell_at hstr rfl
      have gx : wr.cell? ⟨R, x, none⟩ = some (byteV xo) := cell_at hbuf hxo
      have f2 : wr.frozen? ⟨S, 2, none⟩ = false := free_at hstr
      have fx : wr.frozen? ⟨R, x, none⟩ = false := free_at hbuf
      have e1 := sum_w at_ m cap hat hlt2 hcl
      have e2 := sum_i at_ m cap hat hlt2 hcl
      have e3 := sum_mod at_ m cap x hx
      have hne := hr.ne
      have hcz : ¬ cap = 0 := by have := hr.capPos; omega
      have Hx := Lib.hid hx
      have Hm := Lib.hid hmm
      have Hs := Lib.hid hbs
      clear hx hmm hp hlen hstr hbuf hall hbs hxo hr
      go_wp2
      go_still_tail 21, (by kernel_rfl)
      change wpList _ _ _ _ _ wr.drew
      clear e1 e2 e3 hcz
      go_wp2
      go_roundw
      case rel => exact ⟨k + 1, by omega, by go_num, by have h' := HP.out.drew; rw [List.getD_eq_getElem?_getD] at h'; exact h', ((ho.drew.setCell (by simp) _).setCell (by simp) _)⟩
      case measure => simp [intOf]; omega
    · obtain rfl : k = F := by omega
      have g3 : wr.cell? ⟨S, 3, none⟩ = some (.int .i64 lost) := cell_at hr.str rfl
      have f3 : wr.frozen? ⟨S, 3, none⟩ = false := free_at hr.str
      have hp := hr.setLost (wrap64 (lost + ((bs.length : Int) - k)))
      have HP := Lib.hid hp
      have HO := Lib.hid ho
      have hF := HF.out
      have e1 : wrap64 ((bs.length : Int) - (k : Int)) = (bs.length : Int) - k := sub_w _ _ (by omega) (by omega)
      clear hp hr ho hF
      go_wp2
      go_ret
      exact ⟨rfl, HP.out, HO.out.setCell (by simp) _⟩

set_option maxHeartbeats 400000 in
theorem put_nil (R S cap at_ : Nat) (q : List UInt8) (lost : Int) (a : Option Addr) (c G : Nat) (w : World) (h : Ringed w R S cap at_ q lost) (hG : (cap : Int) - (q.length : Int) = (G : Int)) (hl : wrap64 lost = lost) :
    Calls Try.prog 11 #[.pointer (some ⟨S, 0, none⟩), .slice a 0 c] w fun e w' =>
      e = .returned (.int .i64 0) ∧ Ringed w' R S cap at_ q lost ∧ Only [R, S] w w' := by
  have hql := h.len
  have hcl := h.capLe
  have hsl := run_head Try.prog w.drew 26 a 0 c 0 Try.elem26 1 Try.size5 (by omega) .i64
  have g0 : w.cell? ⟨S, 0, none⟩ = some (.slice (some ⟨R, 0, none⟩) cap cap) := cell_at h.str rfl
  have g2 : w.cell? ⟨S, 2, none⟩ = some (.int .i64 q.length) := cell_at h.str rfl
  have g3 : w.cell? ⟨S, 3, none⟩ = some (.int .i64 lost) := cell_at h.str rfl
  have f3 : w.frozen? ⟨S, 3, none⟩ = false := free_at h.str
  have hp := (h.setLost lost).drew
  have HP := Lib.hid hp
  clear hp
  go_enter Try.func11, Try.ntmps11
  go_wp2
  go_region
  go_wp2
  refine wp_loop_rounds 1 ?_
  rw [rounds_succ]
  go_wp2
  go_ret
  exact ⟨rfl, HP.out, ((Only.refl _ _).setCell (by simp) _).drew⟩

/-- PUT, whatever the slice. -/
theorem put_any (R S cap at_ : Nat) (q : List UInt8) (lost : Int) (a : Option Addr) (bs : List UInt8) (n c : Nat) (w : World) (h : Ringed w R S cap at_ q lost) (hl : wrap64 lost = lost)
    (hb : Bytes w a bs) (ha : bs = [] ∨ Away a [R, S]) (hn : bs.length = n) (hc : n ≤ c) (hm : c ≤ 9223372036854775807) :
    Calls Try.prog 11 #[.pointer (some ⟨S, 0, none⟩), .slice a n c] w fun e w' =>
      e = .returned (.int .i64 (min n (cap - q.length) : Nat)) ∧ Ringed w' R S cap at_ (q ++ bs.take (min n (cap - q.length))) (wrap64 (lost + ((n : Int) - (min n (cap - q.length) : Nat)))) ∧ Only [R, S] w w' := by
  have hG : (cap : Int) - (q.length : Int) = ((cap - q.length : Nat) : Int) := by have := h.len; omega
  subst hn
  cases bs with
  | nil =>
    have := put_nil R S cap at_ q lost a c _ w h hG hl
    simpa [hl] using this
  | cons x bs =>
    cases a with
    | none => cases hb.nil rfl
    | some ad =>
      obtain ⟨B, off, sp⟩ := ad
      have hsp := spot_of_cell (hb.cell _ rfl 0 (by simp))
      simp only [Addr.add, if_pos] at hsp
      subst hsp
      have hm2 := (ha.resolve_left (by simp)) _ rfl
      simp only [List.mem_cons, List.not_mem_nil, or_false, not_or] at hm2
      exact put_some R S cap at_ q lost B off (x :: bs) c _ _ w h hb hm2.1 hm2.2 hc hm hG rfl

theorem wrap_in (x : Int) (h0 : 0 ≤ x) (h1 : x ≤ 9223372036854775807) : wrap64 x = x := by
  unfold wrap64; omega

/-- PUT, where the count of what was lost does not wrap. -/
theorem put_fit (R S cap at_ : Nat) (q : List UInt8) (lost : Int) (a : Option Addr) (bs : List UInt8) (n c : Nat) (w : World) (h : Ringed w R S cap at_ q lost)
    (hb : Bytes w a bs) (ha : bs = [] ∨ Away a [R, S]) (hn : bs.length = n) (hc : n ≤ c) (hm : c ≤ 9223372036854775807) (h0 : 0 ≤ lost) (h1 : lost + n ≤ 9223372036854775807)
    (F : Nat) (hF : F = min n (cap - q.length)) (q' : List UInt8) (hq : q' = q ++ bs.take F) (l' : Int) (hl' : l' = lost + ((n : Int) - F)) :
    Calls Try.prog 11 #[.pointer (some ⟨S, 0, none⟩), .slice a n c] w fun e w' =>
      e = .returned (.int .i64 F) ∧ Ringed w' R S cap at_ q' l' ∧ Only [R, S] w w' := by
  have hw : wrap64 (lost + ((n : Int) - F)) = l' := by rw [hl']; exact wrap_in _ (by omega) (by omega)
  have := put_any R S cap at_ q lost a bs n c w h (wrap_in _ h0 (by omega)) hb ha hn hc hm
  rw [← hF, ← hq, hw] at this
  exact this

end Go.Proofs.Ytfnglidobljlgaa
