/-
  The contract of (*Ring).Take: the first bytes come out, in new memory; the others stay.
-/
import Derived.Test.YtfnglidobljlgaaWk
import Derived.StillTailTactics
import Derived.OwnWalk
import Derived.Deep.RegionHeld3
import Derived.Deep.AppendLies
namespace Go.Proofs.Ytfnglidobljlgaa
open Go.RowKit

theorem drop_cons (q : List UInt8) (k : Nat) (h : k < q.length) : q.drop k = q.getD k 0 :: q.drop (k + 1) := by
  rw [List.drop_eq_getElem_cons h]; simp [List.getD, h]

theorem take_snocT (q : List UInt8) (k : Nat) (h : k < q.length) : (q.take (k + 1)).map byteV = (q.take k).map byteV ++ [byteV (q.getD k 0)] := by
  rw [List.take_succ_eq_append_getElem h, List.map_append]; simp [List.getD, h]

theorem next_w (a c : Nat) (ha : a < c) (hc : c ≤ 4096) : wrap64 ((a : Int) + 1) = (a : Int) + 1 := by
  unfold wrap64; omega
theorem next_i (a c : Nat) (ha : a < c) (hc : c ≤ 4096) : IntKind.i64.wrap ((a : Int) + 1) = (a : Int) + 1 := by
  rw [IntKind.wrap_i64]; omega
theorem next_mod (a c x : Nat) (hx : x = (a + 1) % c) : ((a : Int) + 1).tmod (c : Int) = (x : Int) := by
  rw [Int.tmod_eq_emod_of_nonneg (by omega), hx]
  simp

theorem keep3 {w w1 : World} {row : Option Nat} {R S p : Nat} {a b c : Value} (hg : w.grownBy w1 row) (hR : R < w.heap.size) (hS : S < w.heap.size) (nR : row ≠ some R) (nS : row ≠ some S)
    (h0 : w.cell? ⟨S, 0, none⟩ = some a) (h1 : w.cell? ⟨S, 1, none⟩ = some b) (h2 : w.cell? ⟨R, p, none⟩ = some c) :
    w1.cell? ⟨S, 0, none⟩ = some a ∧ w1.cell? ⟨S, 1, none⟩ = some b ∧ w1.cell? ⟨R, p, none⟩ = some c :=
  ⟨(World.cell?_of_block (hg.block S hS (Ne.symm nS))).trans h0, (World.cell?_of_block (hg.block S hS (Ne.symm nS))).trans h1, (World.cell?_of_block (hg.block R hR (Ne.symm nR))).trans h2⟩

set_option maxHeartbeats 1000000 in
theorem take_any (R S cap at_ : Nat) (q : List UInt8) (lost : Int) (n : Int) (F : Nat) (w : World) (h : Ringed w R S cap at_ q lost)
    (hF : (F = 0 ∧ n ≤ 0) ∨ (n = F ∧ F ≤ q.length) ∨ (F = q.length ∧ (q.length : Int) < n)) :
    Calls Try.prog 12 #[.pointer (some ⟨S, 0, none⟩), .int .i64 n] w fun e w' =>
      ∃ v, e = .returned v ∧ w'.ownsRow w.heap.size 5 1 v F ((q.take F).map byteV) ∧ Ringed w' R S cap ((at_ + F) % cap) (q.drop F) lost ∧ Only [R, S] w w' := by
  obtain ⟨i0, hi, hz0, hz1, hz2⟩ := info_parts Try.info5
  have HI := Lib.hid (And.intro hi (And.intro hz0 (And.intro hz1 hz2)))
  obtain ⟨hRw, hSw⟩ := h.lt
  have hql := h.len
  have hcl := h.capLe
  obtain ⟨M, hM⟩ : ∃ M : Int, (if (q.length : Int) < n then (q.length : Int) else n) = M := ⟨_, rfl⟩
  have hmx : (if 0 < M then M else 0) = (F : Int) := by
    rw [← hM]; split <;> split <;> omega
  have hFq : F ≤ q.length := by omega
  clear hF
  have g2 : w.cell? ⟨S, 2, none⟩ = some (.int .i64 q.length) := cell_at h.str rfl
  go_enter Try.func12, Try.ntmps12
  go_wp2
  clear hM hmx g2
  go_loopw [5, 13] (fun v i wr => ∃ k : Nat, k ≤ F ∧ i = .int .i64 k ∧ wr.ownsRow w.heap.size 5 1 v k ((q.take k).map byteV) ∧ Ringed wr R S cap ((at_ + k) % cap) (q.drop k) lost ∧ Only [R, S] w wr) (fun _ i _ => F - (intOf i).toNat)
  case atStart => exact ⟨0, Nat.zero_le _, rfl, by simpa using World.ownsRow_nil w w.heap.size 5 1, by simpa [Nat.mod_eq_of_lt h.atLt] using h, Only.refl _ _⟩
  case round =>
    obtain ⟨k, hk, rfl, hown, hr, ho⟩ := hrel
    by_cases hlt : k < F
    · obtain ⟨p, hp⟩ : ∃ p, p = (at_ + k) % cap := ⟨_, rfl⟩
      obtain ⟨x, hx⟩ : ∃ x, x = (p + 1) % cap := ⟨_, rfl⟩
      obtain ⟨l, hll⟩ : ∃ l, l = (q.drop (k + 1)).length := ⟨_, rfl⟩
      have hpk : (at_ + (k + 1)) % cap = x := by rw [hx, hp, Nat.mod_add_mod, Nat.add_assoc]
      have hlq : l < 4096 := by rw [hll]; simp; omega
      rw [← hp, drop_cons q k (by omega)] at hr
      have hat := hr.atLt
      have hfst := hr.first
      have hstr := hr.str
      rw [List.length_cons, ← hll] at hstr
      have hkb : k < 4096 := by omega
      have g0 : wr.cell? ⟨S, 0, none⟩ = some (.slice (some ⟨R, 0, none⟩) cap cap) := cell_at hstr rfl
      have g1 : wr.cell? ⟨S, 1, none⟩ = some (.int .i64 p) := cell_at hstr rfl
      have HS := Lib.hid hstr
      have HR := Lib.hid hr
      have HX := Lib.hid hx
      have HL := Lib.hid hll
      have HP := Lib.hid hp
      have HK := Lib.hid hpk
      clear hstr hr hx hll hp hpk hz0 hz1 hz2 hi
      go_wp2
      obtain ⟨hi, hz0, hz1, hz2⟩ := HI.out
      have hrow : ∀ j, u5.ownBlock = some j → w.heap.size ≤ j := fun j hj => (hown.lt j hj).1
      have hnR : u5.ownBlock ≠ some R := fun e => by have := hrow R e; omega
      have hnS : u5.ownBlock ≠ some S := fun e => by have := hrow S e; omega
      have hwr : w.heap.size ≤ wr.heap.size := ho.size
      have hp0 : (0 : Int) ≤ (p : Int) := Int.natCast_nonneg _
      have hp1 : (p : Int) < (cap : Int) := by omega
      go_region_held3 (fun w' => w'.cell? ⟨S, 0, none⟩ = some (.slice (some ⟨R, 0, none⟩) cap cap) ∧ w'.cell? ⟨S, 1, none⟩ = some (.int .i64 p) ∧ w'.cell? ⟨R, p, none⟩ = some (byteV (q.getD k 0)))
        (first
          | (go_split_ands; exact keep3 hgrow (by simp; omega) (by simp; omega) hnR hnS ‹_› ‹_› ‹_›)
          | go_keep)
        ((refine step_append_lies _ (by rfl) _ _ _ (by rfl) w.heap.size 5 i0 _ 1 1 Try.underlying26 hi hz0 hz1 hz2 rfl (by omega) u5 k _ (by rfl) ((hown.alloc _).drew)
            ⟨wr.heap.size, 0, none⟩ 1 1 [byteV (q.getD k 0)] (by rfl) (by rfl) (World.news_of_block (cs := #[byteV (q.getD k 0)]) (t := 5) (fr := (0, 0)) (heap_alloc_new wr _)) (by simp [Value.oneCell'])
            (by omega) (by unfold maxLen; omega) (by omega) (by simp; omega) (wr.heap.size + 1) (by simp) ?_; intro gg cp w1 hown' hgrow hat' hlt'))
      rw [List.getD_eq_getElem?_getD] at hown'
      have hr1 := ((HR.out.of_only ((Only.refl [] wr).alloc (.cells #[byteV (q[k]?.getD 0)] 5)) (by simp) (by simp)).drew).grown hgrow hnR hnS
      have ho1 : Only [R, S] w w1 := ((ho.alloc (.cells #[byteV (q[k]?.getD 0)] 5)).drew).grown hgrow hrow
      have hown2 : w1.ownsRow w.heap.size 5 1 (.slice (some ⟨gg, 0, none⟩) (k + 1) cp) (k + 1) ((q.take (k + 1)).map byteV) := by rw [take_snocT q k (by omega), List.getD_eq_getElem?_getD]; exact hown'
      have ht := hr1.take
      have hstr := hr1.str
      rw [List.length_cons, ← HL.out] at hstr
      rw [← HX.out, ← HL.out] at ht
      have g0' : w1.cell? ⟨S, 0, none⟩ = some (.slice (some ⟨R, 0, none⟩) cap cap) := cell_at hstr rfl
      have g1' : w1.cell? ⟨S, 1, none⟩ = some (.int .i64 p) := cell_at hstr rfl
      have g2' : w1.cell? ⟨S, 2, none⟩ = some (.int .i64 (l + 1 : Nat)) := cell_at hstr rfl
      have f1' : w1.frozen? ⟨S, 1, none⟩ = false := free_at hstr
      have f2' : w1.frozen? ⟨S, 2, none⟩ = false := free_at hstr
      have HT := Lib.hid ht
      have HO := Lib.hid ho1
      have HW := Lib.hid hown2
      have hcz : ¬ cap = 0 := by omega
      have e1 := next_w p cap hat hcl
      have e2 := next_i p cap hat hcl
      have e3 := next_mod p cap x HX.out
      clear hr1 ht hstr ho1 hown' hown2 hgrow hrow hi hz0 hz1 hz2 g0 g1 hfst hnR hnS
      go_wp2
      go_still_tail 14, (by kernel_rfl)
      change wpList _ _ _ _ _ w1.drew
      clear e1 e2 e3 hcz
      go_wp2
      go_roundw
      case rel => exact ⟨k + 1, by omega, by go_num, (owns_set (owns_set HW.out hSw _) hSw _).drew, by rw [HK.out]; exact HT.out.drew, ((HO.out.setCell (by simp) _).setCell (by simp) _).drew⟩
      case measure => simp [intOf]; omega
    · obtain rfl : k = F := by omega
      have HR := Lib.hid hr
      have HO := Lib.hid ho
      have HW := Lib.hid hown
      clear hr ho hown
      go_wp2
      go_ret
      exact ⟨_, rfl, HW.out, HR.out, HO.out⟩

end Go.Proofs.Ytfnglidobljlgaa
