/-
  The contract of awake: the document's example of a ring comes out as it says.
-/
import Derived.Test.YtfnglidobljlgaaPut
import Derived.Test.YtfnglidobljlgaaTake
namespace Go.Proofs.Ytfnglidobljlgaa
open Go.RowKit

theorem Ringed.alloc {w : World} {R S cap at_ : Nat} {q : List UInt8} {lost : Int} (h : Ringed w R S cap at_ q lost) (o : Obj) : Ringed (w.alloc o) R S cap at_ q lost :=
  h.of_only ((Only.refl [] w).alloc o) (by simp) (by simp)

theorem bytes2 (w : World) (x y : UInt8) : Bytes (w.alloc (.cells #[byteV x, byteV y] 5)) (some ⟨w.heap.size, 0, none⟩) [x, y] :=
  Bytes.of_block (heap_alloc_new w _) (by
    intro i hi
    match i, hi with
    | 0, _ => rfl
    | 1, _ => rfl)

theorem awayNew {w : World} {R S cap at_ : Nat} {q : List UInt8} {lost : Int} (h : Ringed w R S cap at_ q lost) : Away (some ⟨w.heap.size, 0, none⟩) [R, S] := by
  intro ad e
  cases e
  have := h.lt
  simp; omega

theorem put1 (R S : Nat) (w : World) (a : Option Addr) (h : Ringed w R S 3 0 [] 0) (hb : Bytes w a [1, 2]) (ha : Away a [R, S]) :
    Calls Try.prog 11 #[.pointer (some ⟨S, 0, none⟩), .slice a 2 2] w fun e w' => e = .returned (.int .i64 2) ∧ Ringed w' R S 3 0 [1, 2] 0 ∧ Only [R, S] w w' :=
  put_fit R S 3 0 [] 0 a [1, 2] 2 2 w h hb (.inr ha) rfl (by omega) (by omega) (by omega) (by omega) 2 rfl _ rfl _ rfl

theorem put2 (R S : Nat) (w : World) (a : Option Addr) (h : Ringed w R S 3 0 [1, 2] 0) (hb : Bytes w a [3, 4]) (ha : Away a [R, S]) :
    Calls Try.prog 11 #[.pointer (some ⟨S, 0, none⟩), .slice a 2 2] w fun e w' => e = .returned (.int .i64 1) ∧ Ringed w' R S 3 0 [1, 2, 3] 1 ∧ Only [R, S] w w' :=
  put_fit R S 3 0 [1, 2] 0 a [3, 4] 2 2 w h hb (.inr ha) rfl (by omega) (by omega) (by omega) (by omega) 1 rfl _ rfl _ rfl

/-- A slice that the call owns, written out. -/
theorem owns_form {w : World} {base : Nat} {v : Value} {n : Nat} {bs : List UInt8} (h : w.ownsRow base 5 1 v n (bs.map byteV)) : ∃ a c, v = .slice a n c := by
  rcases h.2 with ⟨hv, hn⟩ | ⟨g, cap, cur, hv, _⟩
  · exact ⟨none, 0, by rw [hv, hn]⟩
  · exact ⟨_, _, hv⟩

theorem take2 (R S : Nat) (w : World) (h : Ringed w R S 3 0 [1, 2, 3] 1) :
    Calls Try.prog 12 #[.pointer (some ⟨S, 0, none⟩), .int .i64 2] w fun e w' => ∃ a c, e = .returned (.slice a 2 c) ∧ Bytes w' a [1, 2] ∧ Ringed w' R S 3 2 [3] 1 ∧ Only [R, S] w w' :=
  (take_any R S 3 0 [1, 2, 3] 1 2 2 w h (.inr (.inl ⟨rfl, by decide⟩))).mono fun e w' ⟨v, he, hown, hr, ho⟩ => by
    obtain ⟨a, c, rfl⟩ := owns_form hown
    exact ⟨a, c, he, (Bytes.of_owns hown).1, hr, ho⟩

set_option maxHeartbeats 1000000 in
theorem awake_any (w : World) :
    Calls Try.prog 9 #[] w fun e w' => e = .returned (.bool true) ∧ Below w.heap.size w w' := by
  go_enter Try.func9, Try.ntmps9
  go_wp2_with fail
  refine (of_any 3 _).mono ?_
  rintro e w1 ⟨rfl, hr1, ho1⟩
  have HO1 := Lib.hid ho1
  clear ho1
  go_wp2_with fail
  refine (put1 _ _ _ _ (hr1.alloc _) (bytes2 w1 1 2) (awayNew hr1)).mono ?_
  rintro e w2 ⟨rfl, hr2, ho2⟩
  have HO2 := Lib.hid ho2
  clear ho2 hr1
  go_wp2_with fail
  refine (put2 _ _ _ _ (hr2.alloc _) (bytes2 w2 3 4) (awayNew hr2)).mono ?_
  rintro e w3 ⟨rfl, hr3, ho3⟩
  have HO3 := Lib.hid ho3
  clear ho3 hr2
  go_wp2_with fail
  refine (take2 _ _ _ hr3).mono ?_
  rintro e w4 ⟨a, c, rfl, hb4, hr4, ho4⟩
  have HO4 := Lib.hid ho4
  have hstr := run_str w4 a 2 c [1, 2] hb4 rfl
  clear ho4 hr3 hb4
  go_wp2_with fail
  refine (lost_any _ _ _ _ _ _ _ hr4).mono ?_
  rintro e w5 ⟨rfl, rfl⟩
  go_wp2_with fail
  refine (len_any _ _ _ _ _ _ _ hr4).mono ?_
  rintro e w5 ⟨rfl, rfl⟩
  go_wp2
  go_ret
  have o1 := HO1.out
  have o2 : Only [w.heap.size, w.heap.size + 1] w w2 := ((o1.weaken (by simp)).alloc _).trans HO2.out
  have o3 : Only [w.heap.size, w.heap.size + 1] w w3 := (o2.alloc _).trans HO3.out
  exact ⟨rfl, (o3.trans HO4.out).below (Nat.le_refl _) (by simp)⟩

theorem only_drewN (bs : List Nat) (w : World) (n : Nat) : Only bs w (w.drewN n) := ⟨rfl, rfl, rfl, Nat.le_refl _, fun _ _ _ => rfl⟩

theorem room_kept (R S cap at_ : Nat) (q : List UInt8) (lost : Int) (w : World) (h : Ringed w R S cap at_ q lost) :
    Calls Try.prog 15 #[.pointer (some ⟨S, 0, none⟩)] w fun e w' => e = .returned (.int .i64 ((cap : Int) - q.length)) ∧ Ringed w' R S cap at_ q lost ∧ Only [] w w' :=
  (room_any R S cap at_ q lost w h).mono fun e w' ⟨he, n, hn⟩ => by
    have ho : Only [] w w' := hn ▸ only_drewN [] w n
    exact ⟨he, h.of_only ho (by simp) (by simp), ho⟩

/-- Out of an empty ring nothing comes. -/
theorem take_none (R S cap at_ : Nat) (lost : Int) (n : Int) (w : World) (h : Ringed w R S cap at_ [] lost) :
    Calls Try.prog 12 #[.pointer (some ⟨S, 0, none⟩), .int .i64 n] w fun e w' => ∃ a c, e = .returned (.slice a 0 c) ∧ Only [R, S] w w' :=
  (take_any R S cap at_ [] lost n 0 w h (by simp; omega)).mono fun e w' ⟨v, he, hown, _, ho⟩ => by
    obtain ⟨a, c, rfl⟩ := owns_form hown
    exact ⟨a, c, he, ho⟩

theorem u16_bd {a : Int} (h : (Lit.int .u16 a).wf = true) : 0 ≤ a ∧ a ≤ 65535 := by
  simp [Lit.wf] at h
  have e1 : IntKind.u16.min = 0 := by decide
  have e2 : IntKind.u16.max = 65535 := by decide
  omega

theorem u8_bd {a : Int} (h : (Lit.int .u8 a).wf = true) : 0 ≤ a ∧ a ≤ 255 := by
  simp [Lit.wf] at h
  have e1 : IntKind.u8.min = 0 := by decide
  have e2 : IntKind.u8.max = 255 := by decide
  omega

/-- What is taken, where something is. -/
theorem take_some (R S cap at_ : Nat) (q : List UInt8) (lost : Int) (n : Int) (F : Nat) (w : World) (h : Ringed w R S cap at_ q lost)
    (hF : (n = F ∧ F ≤ q.length) ∨ (F = q.length ∧ (q.length : Int) < n)) (h0 : 0 < F) :
    Calls Try.prog 12 #[.pointer (some ⟨S, 0, none⟩), .int .i64 n] w fun e w' =>
      ∃ g c, e = .returned (.slice (some ⟨g, 0, none⟩) F c) ∧ w.heap.size ≤ g ∧ F ≤ c ∧ w'.ownsRow w.heap.size 5 1 (.slice (some ⟨g, 0, none⟩) F c) F ((q.take F).map byteV) ∧ Ringed w' R S cap ((at_ + F) % cap) (q.drop F) lost ∧ Only [R, S] w w' :=
  (take_any R S cap at_ q lost n F w h (.inr hF)).mono fun e w' ⟨v, he, hown, hr, ho⟩ => by
    rcases hown.2 with ⟨_, hn⟩ | ⟨g, c, cur, rfl, hg, _, hle, _⟩
    · omega
    · exact ⟨g, c, he, hg, hle, hown, hr, ho⟩

theorem bytes2i (w : World) (x y : UInt8) (a b : Int) (hx : (x.toNat : Int) = a) (hy : (y.toNat : Int) = b) : Bytes (w.alloc (.cells #[.int .u8 a, .int .u8 b] 5)) (some ⟨w.heap.size, 0, none⟩) [x, y] := by
  subst hx
  subst hy
  exact bytes2 w x y

theorem byte_of (i : Nat) : ((UInt8.ofNat i).toNat : Int) = (i : Int) % 256 := by
  simp

theorem below_only {bs : List Nat} {a w : World} {B : Nat} (h : Below B a w) (hB : a.heap.size ≤ B) : Only bs a w :=
  ⟨h.os, h.tape, h.output, h.size, fun k hk _ => h.block k (by omega)⟩

end Go.Proofs.Ytfnglidobljlgaa
