/-
  The walk of RingAll, where what comes in is at most 2^20 bytes in all: what comes out of a ring is the beginning of what went in.
-/
import Derived.Test.YtfnglidobljlgaaApp
import Derived.Deep.RegionWith
namespace Go.Proofs.Ytfnglidobljlgaa
open Go.RowKit

def allB (B : Nat → List UInt8) : Nat → List UInt8
  | 0 => []
  | k + 1 => allB B k ++ B k

theorem allB_le (B : Nat → List UInt8) {k n : Nat} (h : k ≤ n) : (allB B k).length ≤ (allB B n).length := by
  induction n with
  | zero => have : k = 0 := by omega
            subst this; exact Nat.le_refl _
  | succ n ih =>
    by_cases e : k = n + 1
    · subst e; exact Nat.le_refl _
    · have := ih (by omega)
      simp only [allB, List.length_append]; omega

/-- Rows of bytes that came in. -/
structure RowsIn (w : World) (a0 : Option Addr) (len0 : Nat) (B : Nat → List UInt8) (A : Nat → Option Addr) (C : Nat → Nat) : Prop where
  top : 0 < len0 → ∃ b off, a0 = some ⟨b, off, none⟩ ∧ b < w.heap.size ∧ ∀ r, r < len0 → w.cell? ⟨b, off + r, none⟩ = some (.slice (A r) (B r).length (C r))
  row : ∀ r, r < len0 → Bytes w (A r) (B r) ∧ (B r).length ≤ C r ∧ C r ≤ 9223372036854775807 ∧ (A r = none → C r = 0) ∧ (B r = [] ∨ ∀ ad, A r = some ad → ad.block < w.heap.size)

def AllRel (B : Nat → List UInt8) (len0 : Nat) (wa : World) (R S : Nat) (s : Value) (i : Value) (wr : World) : Prop :=
  ∃ (k : Nat) (q : List UInt8) (lost : Int) (T : ByteArray), k ≤ len0 ∧ i = .int .i64 k ∧ s = .string T ∧ T = ⟨(allB B k).toArray⟩ ∧ Ringed wr R S 4096 0 q lost ∧ 0 ≤ lost ∧ lost ≤ (allB B k).length ∧
    ((allB B k).length ≤ 4096 → q = allB B k ∧ lost = 0) ∧ Only [R, S] wa wr

theorem str_size (l : List UInt8) : (ByteArray.mk l.toArray).size = l.length := rfl

set_option maxHeartbeats 1000000 in
theorem all_walk (a0 : Option Addr) (len0 cap0 : Nat) (n : Int) (B : Nat → List UInt8) (A : Nat → Option Addr) (C : Nat → Nat) (w : World) (hrows : RowsIn w a0 len0 B A C) (htot : (allB B len0).length ≤ 1048576) (hlen : len0 ≤ 1048576) :
    Calls Try.prog 3 #[.slice a0 len0 cap0, .int .i64 n] w fun e w' => e = .returned (.bool true) ∧ Below w.heap.size w w' := by
  have HR := Lib.hid hrows
  have HT := Lib.hid htot
  clear hrows htot
  go_enter Try.func3, Try.ntmps3
  go_wp2_with fail
  refine (awake_any _).mono ?_
  rintro e wa ⟨rfl, hba⟩
  go_wp2_with fail
  refine (of_any 4096 _).mono ?_
  rintro e w1 ⟨rfl, hr1, ho1⟩
  have hcap : capOf 4096 = 4096 := rfl
  rw [hcap] at hr1
  have H1 := Lib.hid (And.intro hba (And.intro hr1 (ho1.weaken (cs := [wa.heap.size, wa.heap.size + 1]) (by simp))))
  have hsz := hba.size
  clear hba hr1 ho1 hcap
  go_wp2_with fail
  go_loopw [6, 16] (fun s i wr => AllRel B len0 wa wa.heap.size (wa.heap.size + 1) s i wr) (fun _ i _ => len0 - (intOf i).toNat)
  case atStart => exact ⟨0, [], 0, ⟨#[]⟩, Nat.zero_le _, rfl, rfl, rfl, H1.out.2.1, by omega, by simp [allB], fun _ => ⟨rfl, rfl⟩, H1.out.2.2⟩
  case round =>
    obtain ⟨k, q, lost, T, hk, rfl, rfl, hT, hr, hl0, hl1, hq, ho⟩ := hrel
    by_cases hlt : k < len0
    · obtain ⟨b, off, rfl, hbs, htop⟩ := HR.out.top (by omega)
      obtain ⟨hrb, hrc, hrm, hrn, hra⟩ := HR.out.row k hlt
      have hcell : wr.cell? ⟨b, off + k, none⟩ = some (.slice (A k) (B k).length (C k)) := by
        have hlt2 : b < wa.heap.size := by omega
        rw [World.cell?_of_block (w := w) (a := ⟨b, off + k, none⟩)]
        · exact htop k hlt
        · exact (ho.block b (by omega) (by simp; omega)).trans (H1.out.1.block b hbs)
      have hbw : Bytes wr (A k) (B k) := (hrb.of_only (below_only (bs := []) H1.out.1 (Nat.le_refl _)) (.inr (by intro ad e; simp))).of_only ho (hra.imp id (fun h ad e => by have := h ad e; simp; omega))
      have haw : B k = [] ∨ Away (A k) [wa.heap.size, wa.heap.size + 1] := hra.imp id (fun h ad e => by have := h ad e; simp; omega)
      obtain ⟨Lk, hLk⟩ : ∃ L, L = (B k).length := ⟨_, rfl⟩
      obtain ⟨Ck, hCk⟩ : ∃ L, L = C k := ⟨_, rfl⟩
      obtain ⟨ak, hak⟩ : ∃ L, L = A k := ⟨_, rfl⟩
      obtain ⟨F, hF⟩ : ∃ F, F = min Lk (4096 - q.length) := ⟨_, rfl⟩
      obtain ⟨sb, hsb⟩ : ∃ s : ByteArray, s = ⟨(B k).toArray⟩ := ⟨_, rfl⟩
      rw [← hLk, ← hCk, ← hak] at hcell
      rw [← hLk] at hrc
      rw [← hCk] at hrc hrm hrn
      rw [← hak] at hrn haw hbw
      have htot : (allB B (k + 1)).length ≤ 1048576 := Nat.le_trans (allB_le B hlt) HT.out
      have htot1 : (allB B k).length + Lk ≤ 1048576 := by rw [hLk]; simpa [allB] using htot
      have hTs : T.size ≤ 1048576 := by rw [hT, str_size]; omega
      have hsbs : sb.size ≤ 1048576 := by rw [hsb, str_size]; omega
      have HX := Lib.hid (And.intro hT (And.intro hr (And.intro hq (And.intro ho (And.intro hbw (And.intro haw (And.intro hLk (And.intro hF (And.intro hsb (And.intro hl1 hrn))))))))))
      clear hT hr hq ho hbw haw hLk hF hsb hl1 hrb hra hCk hak htop hrn htot
      go_wp2_with fail
      refine (put_fit _ _ 4096 0 q lost ak (B k) Lk Ck _ HX.out.2.1 HX.out.2.2.2.2.1 HX.out.2.2.2.2.2.1 HX.out.2.2.2.2.2.2.1.symm hrc hrm hl0 (by have := HX.out.2.2.2.2.2.2.2.2.2.1; omega) F HX.out.2.2.2.2.2.2.2.1 _ rfl _ rfl).mono ?_
      rintro e w2 ⟨rfl, hr2, ho2⟩
      have hstr := run_str w2 ak Lk Ck (B k) (HX.out.2.2.2.2.1.of_only ho2 HX.out.2.2.2.2.2.1) HX.out.2.2.2.2.2.2.1.symm
      rw [← HX.out.2.2.2.2.2.2.2.2.1] at hstr
      have HY := Lib.hid (And.intro hr2 ho2)
      clear hr2 ho2
      go_wp2_with fail
      go_roundw
      case rel =>
        refine ⟨k + 1, q ++ (B k).take F, lost + ((Lk : Int) - F), T ++ sb, by omega, by go_num, rfl, ?_, HY.out.1, ?_, ?_, ?_, HX.out.2.2.2.1.trans HY.out.2⟩
        · rw [HX.out.1, HX.out.2.2.2.2.2.2.2.2.1]; exact ByteArray.mk_append_mk _ _
        · have := HX.out.2.2.2.2.2.2.2.1; omega
        · have h1 := HX.out.2.2.2.2.2.2.2.1
          have h2 := HX.out.2.2.2.2.2.2.2.2.2.1
          have h3 := HX.out.2.2.2.2.2.2.1
          simp only [allB, List.length_append]; omega
        · intro h
          have h1 := HX.out.2.2.2.2.2.2.2.1
          have h3 := HX.out.2.2.2.2.2.2.1
          simp only [allB, List.length_append] at h
          obtain ⟨hq, hl⟩ := HX.out.2.2.1 (by omega)
          rw [hq] at h1
          have hF : F = Lk := by omega
          refine ⟨?_, by omega⟩
          rw [hq, hF, List.take_of_length_le (by omega)]
          rfl
      case measure => simp [intOf]; omega
    · obtain rfl : k = len0 := by omega
      obtain ⟨F1, hF1⟩ : ∃ F, (F = 0 ∧ n ≤ 0) ∨ (n = ((F : Nat) : Int) ∧ F ≤ q.length) ∨ (F = q.length ∧ (q.length : Int) < n) := by
        by_cases c1 : n ≤ 0
        · exact ⟨0, .inl ⟨rfl, c1⟩⟩
        · by_cases c2 : n ≤ q.length
          · exact ⟨n.toNat, .inr (.inl ⟨by omega, by omega⟩)⟩
          · exact ⟨q.length, .inr (.inr ⟨rfl, by omega⟩)⟩
      obtain ⟨q1, hq1⟩ : ∃ x, x = q.take F1 := ⟨_, rfl⟩
      obtain ⟨q2, hq2⟩ : ∃ x, x = q.drop F1 := ⟨_, rfl⟩
      obtain ⟨so, hso⟩ : ∃ s : ByteArray, s = ⟨q1.toArray⟩ := ⟨_, rfl⟩
      obtain ⟨sm, hsm⟩ : ∃ s : ByteArray, s = ⟨q2.toArray⟩ := ⟨_, rfl⟩
      have hqq : q1 ++ q2 = q := by rw [hq1, hq2]; exact List.take_append_drop _ _
      have hql := hr.len
      have hq1l : q1.length ≤ 4096 := by rw [hq1]; simp; omega
      have hq2l : q2.length ≤ 4096 := by rw [hq2]; simp; omega
      have hsos : so.size ≤ 4096 := by rw [hso, str_size]; exact hq1l
      have hsms : sm.size ≤ 4096 := by rw [hsm, str_size]; exact hq2l
      have hTs : T.size = (allB B k).length := by rw [hT, str_size]
      have HX := Lib.hid (And.intro hT (And.intro hq (And.intro hF1 (And.intro hq1 (And.intro hq2 (And.intro hso (And.intro hsm (And.intro hqq (And.intro hTs ho)))))))))
      clear hT hq hq1 hq2 hso hsm hqq hTs ho hF1
      go_wp2_with fail
      refine (take_bytes _ _ 4096 0 q lost n F1 _ hr HX.out.2.2.1 q1 q2 HX.out.2.2.2.1 HX.out.2.2.2.2.1).mono ?_
      rintro e w2 ⟨b1, c1, rfl, hb1, hl1', ha1, hr2, ho2⟩
      have hstr := run_str w2 b1 F1 c1 q1 hb1 hl1'
      rw [← HX.out.2.2.2.2.2.1] at hstr
      have HY := Lib.hid ho2
      clear hb1 hl1' ha1 ho2 hr
      go_wp2_with fail
      refine (take_bytes _ _ 4096 _ q2 lost 1048576 q2.length _ hr2 (.inr (.inr ⟨rfl, by omega⟩)) q2 [] (List.take_of_length_le (Nat.le_refl _)).symm (List.drop_eq_nil_of_le (Nat.le_refl _)).symm).mono ?_
      rintro e w3 ⟨b2, c2, rfl, hb2, hl2', ha2, hr3, ho3⟩
      have hstr2 := run_str w3 b2 q2.length c2 q2 hb2 hl2'
      rw [← HX.out.2.2.2.2.2.2.1] at hstr2
      have HZ := Lib.hid ho3
      have HR3 := Lib.hid hr3
      clear hb2 hl2' ha2 ho3 hr2 hstr hr3
      have hfin : Below w.heap.size w w3 := H1.out.1.trans (((HX.out.2.2.2.2.2.2.2.2.2.trans HY.out).trans HZ.out).below hsz (by simp; omega))
      have HFin := Lib.hid hfin
      clear hfin
      by_cases hbig : 4096 < T.size
      · go_wp2
        go_ret
        exact ⟨rfl, HFin.out⟩
      · obtain ⟨hqa, hl0'⟩ := HX.out.2.1 (by rw [← HX.out.2.2.2.2.2.2.2.2.1]; omega)
        have heq : ((so ++ sm).toList == T.toList) = true := by
          rw [HX.out.2.2.2.2.2.1, HX.out.2.2.2.2.2.2.1, ByteArray.mk_append_mk, HX.out.2.2.2.2.2.2.2.1, hqa, HX.out.1]; simp
        subst hl0'
        have HH := Lib.hid hqa
        clear hqa
        go_wp2_with fail
        refine (lost_any _ _ _ _ _ _ _ HR3.out).mono ?_
        rintro e wz ⟨rfl, rfl⟩
        go_wp2_with fail
        refine (len_any _ _ _ _ _ _ _ HR3.out).mono ?_
        rintro e wz ⟨rfl, rfl⟩
        go_wp2
        go_ret
        exact ⟨rfl, HFin.out⟩

end Go.Proofs.Ytfnglidobljlgaa
