/-
  The contract of (*Demux).Part: of all bytes those that were given to one, segment by segment.
-/
import Derived.Test.YtmikfnnaiojpiaaAwake
import Derived.Test.YtmikfnnaiojpiaaBytes
namespace Go.Proofs.Ytmikfnnaiojpiaa
open Go.RowKit

/-- What Part gives. -/
def partOne (x : Seg) (M : Nat) (bs : List UInt8) : List UInt8 := if x.m = M ∧ x.f + x.s ≤ bs.length then (bs.drop x.f).take x.s else []
def partOf (ss : List Seg) (M : Nat) (bs : List UInt8) : List UInt8 := ss.flatMap fun x => partOne x M bs

theorem partOf_snoc (ss : List Seg) (x : Seg) (M : Nat) (bs : List UInt8) : partOf (ss ++ [x]) M bs = partOf ss M bs ++ partOne x M bs := by
  simp [partOf]

theorem partOf_append (a b : List Seg) (M : Nat) (bs : List UInt8) : partOf (a ++ b) M bs = partOf a M bs ++ partOf b M bs := by
  simp [partOf]

theorem partOf_take (ss : List Seg) (M : Nat) (bs : List UInt8) (k : Nat) : (partOf (ss.take k) M bs).length ≤ (partOf ss M bs).length := by
  have h : partOf ss M bs = partOf (ss.take k) M bs ++ partOf (ss.drop k) M bs := by rw [← partOf_append, List.take_append_drop]
  rw [h, List.length_append]; omega

theorem take_snocS (ss : List Seg) (k : Nat) (x : Seg) (h : ss[k]? = some x) : ss.take (k + 1) = ss.take k ++ [x] := by
  obtain ⟨hk, hx⟩ := List.getElem?_eq_some_iff.1 h
  rw [List.take_succ_eq_append_getElem hk, hx]

theorem run_mid (w : World) (a : Option Addr) (n c f s : Nat) (h : f + s ≤ c) :
    (Instr.slice 37 (.slice a n c) (some (.int .i64 (f : Int))) (some (.int .i64 ((f : Int) + (s : Int)))) none).run Try.prog w = .ok (.slice (if c = f then a else a.map (·.add (f * 1))) s (c - f)) w := by
  rw [run_slice_lh w 37 a n c Try.elem37 .i64 .i64 f ((f : Int) + s) (by omega) (by omega) (by omega), Try.size5b]
  have e1 : ((f : Int) + (s : Int)).toNat = f + s := by omega
  simp only [Result.andThen, sliced, Int.toNat_natCast, e1]
  have e2 : f + s - f = s := by omega
  rw [e2]

theorem row_cell' {w : World} {base : Nat} {v : Value} {n : Nat} {ss : List Seg} (h : w.ownsRow base 31 3 v n (segCells ss)) (hn : ss.length = n) (k : Nat) (x : Seg) (hx : ss[k]? = some x) :
    ∃ g c, v = .slice (some ⟨g, 0, none⟩) n c ∧ w.cell? ⟨g, k * 3, none⟩ = some (.int .i64 x.m) ∧ w.cell? ⟨g, k * 3 + 1, none⟩ = some (.int .i64 x.f) ∧ w.cell? ⟨g, k * 3 + 2, none⟩ = some (.int .i64 x.s) := by
  have hk : k < n := by rw [← hn]; exact (List.getElem?_eq_some_iff.1 hx).1
  obtain ⟨g, c, rfl, _⟩ := own_form h (by omega)
  exact ⟨g, c, rfl, row_cell h hn k x hx⟩

set_option maxHeartbeats 1000000 in
theorem part_any (D base : Nat) (v : Value) (mode n : Nat) (ss : List Seg) (M : Nat) (ab : Option Addr) (bs : List UInt8) (len cap L : Nat) (w : World) (h : Demuxed w D base v mode n ss)
    (hb : Bytes w ab bs) (hbl : bs.length = len) (hlc : len ≤ cap) (hcm : cap ≤ 9223372036854775807) (hnil : ab = none → cap = 0) (hL : (partOf ss M bs).length = L) (hP : L ≤ 140737488355328) :
    Calls Try.prog 16 #[.pointer (some ⟨D, 0, none⟩), .slice ab len cap, .int .i64 M] w fun e w' =>
      ∃ a' c', e = .returned (.slice a' L c') ∧ Bytes w' a' (partOf ss M bs) ∧ (∀ ad, a' = some ad → w.heap.size ≤ ad.block) ∧ Only [] w w' := by
  obtain ⟨av, cv, rfl⟩ := own_slice h.own
  obtain ⟨K, hK⟩ : ∃ K, K = ss.length := ⟨_, rfl⟩
  have hKn : K ≤ 1099511627776 := by have := h.cnt; have := h.nle; omega
  have c2 : w.cell? ⟨D, 2, none⟩ = some (.slice av K cv) := by rw [hK]; exact cell_at h.str rfl
  have H := Lib.hid h
  have HK := Lib.hid hK
  have HB := Lib.hid (And.intro hb (And.intro hbl (And.intro hnil hL)))
  clear h hK hb hbl hnil hL
  go_enter Try.func16, Try.ntmps16
  go_wp2
  go_loopw [7, 15] (fun vo i wr => ∃ (k N : Nat), k ≤ K ∧ i = .int .i64 k ∧ (partOf (ss.take k) M bs).length = N ∧ wr.ownsRow w.heap.size 5 1 vo N ((partOf (ss.take k) M bs).map byteV) ∧ Only [] w wr) (fun _ i _ => K - (intOf i).toNat)
  case atStart => exact ⟨0, 0, Nat.zero_le _, rfl, rfl, World.ownsRow_nil _ _ _ _, Only.refl _ _⟩
  case round =>
    obtain ⟨k, N, hk, rfl, hN, hown, ho⟩ := hrel
    by_cases hlt : k < K
    · obtain ⟨x, hx⟩ : ∃ x, ss[k]? = some x := ⟨_, List.getElem?_eq_getElem (by rw [← HK.out]; exact hlt)⟩
      have hrow := ownsRow_only H.out.own ho (by simp)
      obtain ⟨g, cv', hv, x0, x1, x2⟩ := row_cell' hrow rfl k x hx
      rw [← HK.out] at hv
      simp only [Value.slice.injEq, true_and] at hv
      obtain ⟨rfl, rfl⟩ := hv
      have hfit := H.out.fit x (List.mem_of_getElem? hx)
      have hnle := H.out.nle
      obtain ⟨xm, xf, xs⟩ := x
      simp only at x0 x1 x2 hfit
      have hNL : N ≤ L := by rw [← hN, ← HB.out.2.2.2]; exact partOf_take _ _ _ _
      have HX := Lib.hid (And.intro hx (And.intro hN (And.intro hown ho)))
      have hxf : xf ≤ 1099511627776 := by omega
      have hxs : xs ≤ 1099511627776 := by omega
      have hkk1 : (0 : Int) ≤ (k : Int) := Int.natCast_nonneg _
      clear hx hN hown ho hrow hfit
      by_cases hm : xm = M
      · subst hm
        have hmm : ((xm : Int) == (xm : Int)) = true := by simp
        by_cases hf : xf + xs ≤ len
        · have hpo : partOf (ss.take (k + 1)) xm bs = partOf (ss.take k) xm bs ++ (bs.drop xf).take xs := by
            rw [take_snocS ss k _ HX.out.1, partOf_snoc]
            unfold partOne
            rw [if_pos ⟨rfl, by rw [HB.out.2.1]; exact hf⟩]
          have hff : decide ((xf : Int) + (xs : Int) ≤ (len : Int)) = true := by simp; omega
          have hsl := fun w => run_mid w ab len cap xf xs (by omega)
          obtain ⟨a2, ha2⟩ : ∃ t, t = (if cap = xf then ab else ab.map (·.add (xf * 1))) := ⟨_, rfl⟩
          rw [← ha2] at hsl
          obtain ⟨p0, hp0⟩ : ∃ p0, p0 = partOf (ss.take k) xm bs := ⟨_, rfl⟩
          obtain ⟨p1, hp1⟩ : ∃ p1, p1 = partOf (ss.take (k + 1)) xm bs := ⟨_, rfl⟩
          obtain ⟨q, hq⟩ : ∃ q, q = (bs.drop xf).take xs := ⟨_, rfl⟩
          have hql : q.length = xs := by rw [hq]; have := HB.out.2.1; simp; omega
          have hpq : p0 ++ q = p1 := by rw [hp0, hq, hp1, hpo]
          have hown := HX.out.2.2.1
          have hN := HX.out.2.1
          rw [← hp0] at hown hN
          have hN1 : N + xs ≤ L := by
            have := partOf_take ss xm bs (k + 1)
            rw [← hp1, ← hpq, HB.out.2.2.2, List.length_append, hN, hql] at this
            exact this
          have hbw : Bytes wr a2 q := by
            rw [ha2, hq]
            exact ((HB.out.1.of_only HX.out.2.2.2 (.inr (by intro ad e; simp))).tail xf cap (by have := HB.out.2.1; omega) (by have := HB.out.2.1; omega)).head xs
          have hbn : a2 = none → cap - xf = 0 := by
            rw [ha2]; intro e
            split at e
            · omega
            · cases ab with
              | none => have := HB.out.2.2.1 rfl; omega
              | some _ => simp at e
          have hsz := HX.out.2.2.2.size
          have HQ := Lib.hid (And.intro hpq (And.intro hql (And.intro hown (And.intro hbw (And.intro hbn (And.intro hp1 hN))))))
          clear hpo hpq hql hown hbw hbn hp1 hp0 hq ha2 hN
          go_wp2_with (at_builtin; refine wpList_app _ rfl (.tmp 33) (.tmp 42) rfl w.heap.size _ N p0 rfl (HQ.out.2.2.1.alloc _) a2 xs (cap - xf) q rfl (HQ.out.2.2.2.1.of_only ((Only.refl [] wr).alloc _) (.inr (by intro ad e; simp))) HQ.out.2.1 HQ.out.2.2.2.2.1 p1 HQ.out.1 (N + xs) rfl (by omega) (by simp; omega) ?_)
          intro v' w1 hown1 hg1
          have ho1 : Only [] w w1 := (HX.out.2.2.2.alloc (.cells #[.int .i64 xm, .int .i64 xf, .int .i64 xs] 31)).grown hg1 (fun j hj => .inr (HQ.out.2.2.1.lt j hj).1)
          have HR := Lib.hid (And.intro hown1 ho1)
          clear hown1 hg1 ho1 hsl
          go_wp2
          go_roundw
          case rel => exact ⟨k + 1, N + xs, by omega, by go_num, by rw [← HQ.out.2.2.2.2.2.1, ← HQ.out.1, List.length_append, HQ.out.2.2.2.2.2.2, HQ.out.2.1], by rw [← HQ.out.2.2.2.2.2.1]; exact HR.out.1, HR.out.2⟩
          case measure => simp [intOf]; omega
        · have hpo : partOf (ss.take (k + 1)) xm bs = partOf (ss.take k) xm bs := by
            rw [take_snocS ss k _ HX.out.1, partOf_snoc]
            unfold partOne
            rw [if_neg (by intro e; have := e.2; rw [HB.out.2.1] at this; exact hf this), List.append_nil]
          have hff : decide ((xf : Int) + (xs : Int) ≤ (len : Int)) = false := by simp; omega
          have HPO := Lib.hid hpo
          clear hpo hf
          go_wp2
          go_roundw
          case rel => exact ⟨k + 1, N, by omega, by go_num, by rw [HPO.out]; exact HX.out.2.1, by rw [HPO.out]; exact HX.out.2.2.1.alloc _, HX.out.2.2.2.alloc _⟩
          case measure => simp [intOf]; omega
      · have hmm : ((xm : Int) == (M : Int)) = false := by simp; omega
        have hpo : partOf (ss.take (k + 1)) M bs = partOf (ss.take k) M bs := by
          rw [take_snocS ss k _ HX.out.1, partOf_snoc]
          unfold partOne
          rw [if_neg (by intro e; exact hm e.1), List.append_nil]
        have HPO := Lib.hid hpo
        clear hpo hm
        go_wp2
        go_roundw
        case rel => exact ⟨k + 1, N, by omega, by go_num, by rw [HPO.out]; exact HX.out.2.1, by rw [HPO.out]; exact HX.out.2.2.1.alloc _, HX.out.2.2.2.alloc _⟩
        case measure => simp [intOf]; omega
    · obtain rfl : k = K := by omega
      have e1 : ss.take k = ss := List.take_of_length_le (by rw [HK.out]; exact Nat.le_refl _)
      rw [e1] at hN hown
      have e2 : N = L := by rw [← hN]; exact HB.out.2.2.2
      subst e2
      obtain ⟨a', c', hv⟩ := own_slice hown
      subst hv
      have hbs := Bytes.of_owns hown
      have HR := Lib.hid (And.intro hbs ho)
      clear hN hown hbs ho e1
      go_wp2
      go_ret
      exact ⟨_, _, rfl, HR.out.1.1, HR.out.1.2.2.2.2.1, HR.out.2⟩

end Go.Proofs.Ytmikfnnaiojpiaa
