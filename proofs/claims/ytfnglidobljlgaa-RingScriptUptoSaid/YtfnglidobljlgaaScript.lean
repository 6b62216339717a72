/-
  The walk of RingScript, where what comes in is at most 2^20 bytes in all: bytes wait, are taken in order, and are lost where there is no room, deed by deed.
-/
import Derived.Test.YtfnglidobljlgaaAll
namespace Go.Proofs.Ytfnglidobljlgaa
open Go.RowKit

/-- Deeds that came in: bytes, and how many are taken. -/
structure ActsIn (w : World) (a1 : Option Addr) (len1 : Nat) (B : Nat → List UInt8) (A : Nat → Option Addr) (C : Nat → Nat) (K : Nat → Int) : Prop where
  top : 0 < len1 → ∃ b off, a1 = some ⟨b, off, none⟩ ∧ b < w.heap.size ∧ ∀ r, r < len1 → w.cell? ⟨b, off + r * 2, none⟩ = some (.slice (A r) (B r).length (C r)) ∧ w.cell? ⟨b, off + r * 2 + 1, none⟩ = some (.int .i8 (K r))
  row : ∀ r, r < len1 → Bytes w (A r) (B r) ∧ (B r).length ≤ C r ∧ C r ≤ 9223372036854775807 ∧ (A r = none → C r = 0) ∧ (B r = [] ∨ ∀ ad, A r = some ad → ad.block < w.heap.size) ∧ -128 ≤ K r ∧ K r ≤ 127

def ScriptRel (B : Nat → List UInt8) (len1 : Nat) (wa : World) (R S cap : Nat) (s l i : Value) (wr : World) : Prop :=
  ∃ (k at_ : Nat) (q : List UInt8) (lost : Int) (T : ByteArray), k ≤ len1 ∧ i = .int .i64 k ∧ s = .string T ∧ l = .int .i64 lost ∧ T = ⟨q.toArray⟩ ∧ Ringed wr R S cap at_ q lost ∧ 0 ≤ lost ∧ lost ≤ (allB B k).length ∧ Only [R, S] wa wr

theorem cap_min (n : Int) : (if 1 < (if (4096 : Int) < n then (4096 : Int) else n) then (if (4096 : Int) < n then (4096 : Int) else n) else 1) = ((capOf n : Nat) : Int) := by
  unfold capOf
  by_cases c1 : n ≤ 1
  · rw [if_pos c1, if_neg (show ¬ (4096 : Int) < n by omega), if_neg (by omega)]; rfl
  · by_cases c2 : n ≤ 4096
    · rw [if_neg c1, if_pos c2, if_neg (show ¬ (4096 : Int) < n by omega), if_pos (by omega)]; omega
    · rw [if_neg c1, if_neg c2, if_pos (show (4096 : Int) < n by omega), if_pos (by omega)]; rfl

set_option maxRecDepth 100000 in
set_option maxHeartbeats 2000000 in
theorem script_walk (a0 : Int) (a1 : Option Addr) (len1 cap1 : Nat) (B : Nat → List UInt8) (A : Nat → Option Addr) (C : Nat → Nat) (K : Nat → Int) (w : World) (hacts : ActsIn w a1 len1 B A C K) (htot : (allB B len1).length ≤ 1048576) (hlen : len1 ≤ 1048576)
    (hl0 : -32768 ≤ a0) (hu0 : a0 ≤ 32767) :
    Calls Try.prog 7 #[.int .i16 a0, .slice a1 len1 cap1] w fun e w' => e = .returned (.bool true) ∧ Below w.heap.size w w' := by
  have HR := Lib.hid hacts
  have HT := Lib.hid htot
  obtain ⟨cap, hcap⟩ : ∃ c, c = capOf a0 := ⟨_, rfl⟩
  have hcb := capOf_bd a0
  rw [← hcap] at hcb
  obtain ⟨M, hM⟩ : ∃ M : Int, (if (4096 : Int) < a0 then (4096 : Int) else a0) = M := ⟨_, rfl⟩
  have hM2 : (if 1 < M then M else 1) = (cap : Int) := by
    rw [hcap, ← hM]; exact cap_min a0
  have HC := Lib.hid hcap
  clear hacts htot hcap
  go_enter Try.func7, Try.ntmps7
  go_wp2_with fail
  refine (awake_any _).mono ?_
  rintro e wa ⟨rfl, hba⟩
  go_wp2_with fail
  refine (of_any a0 _).mono ?_
  rintro e w1 ⟨rfl, hr1, ho1⟩
  rw [← HC.out] at hr1
  have H1 := Lib.hid (And.intro hba (And.intro hr1 (ho1.weaken (cs := [wa.heap.size, wa.heap.size + 1]) (by simp))))
  have hsz := hba.size
  clear hba hr1 ho1
  go_wp2_with fail
  clear hM hM2
  go_loopw [7, 8, 24] (fun s l i wr => ScriptRel B len1 wa wa.heap.size (wa.heap.size + 1) cap s l i wr) (fun _ _ i _ => len1 - (intOf i).toNat)
  case atStart => exact ⟨0, 0, [], 0, ⟨#[]⟩, Nat.zero_le _, rfl, rfl, rfl, rfl, H1.out.2.1, by omega, by simp [allB], H1.out.2.2⟩
  case round =>
    obtain ⟨k, at_, q, lost, T, hk, rfl, rfl, rfl, hT, hr, hl0', hl1, ho⟩ := hrel
    by_cases hlt : k < len1
    · obtain ⟨b, off, rfl, hbs, htop⟩ := HR.out.top (by omega)
      obtain ⟨hrb, hrc, hrm, hrn, hra, hk1, hk2⟩ := HR.out.row k hlt
      have hold : ∀ i v, w.cell? ⟨b, i, none⟩ = some v → wr.cell? ⟨b, i, none⟩ = some v := by
        intro i v hv
        rw [World.cell?_of_block (w := w) (a := ⟨b, i, none⟩)]
        · exact hv
        · exact (ho.block b (by omega) (by simp; omega)).trans (H1.out.1.block b hbs)
      have hcell := hold _ _ (htop k hlt).1
      have hcell2 := hold _ _ (htop k hlt).2
      have hbw : Bytes wr (A k) (B k) := (hrb.of_only (below_only (bs := []) H1.out.1 (Nat.le_refl _)) (.inr (by intro ad e; simp))).of_only ho (hra.imp id (fun h ad e => by have := h ad e; simp; omega))
      have haw : B k = [] ∨ Away (A k) [wa.heap.size, wa.heap.size + 1] := hra.imp id (fun h ad e => by have := h ad e; simp; omega)
      obtain ⟨Lk, hLk⟩ : ∃ L, L = (B k).length := ⟨_, rfl⟩
      obtain ⟨Ck, hCk⟩ : ∃ L, L = C k := ⟨_, rfl⟩
      obtain ⟨ak, hak⟩ : ∃ L, L = A k := ⟨_, rfl⟩
      obtain ⟨t, ht⟩ : ∃ t, t = K k := ⟨_, rfl⟩
      obtain ⟨G, hG⟩ : ∃ G : Nat, (cap : Int) - (q.length : Int) = (G : Int) := ⟨cap - q.length, by have := hr.len; omega⟩
      obtain ⟨F, hF⟩ : ∃ F, F = min Lk (cap - q.length) := ⟨_, rfl⟩
      obtain ⟨sb, hsb⟩ : ∃ s : ByteArray, s = ⟨((B k).take F).toArray⟩ := ⟨_, rfl⟩
      obtain ⟨q', hq'⟩ : ∃ x, x = q ++ (B k).take F := ⟨_, rfl⟩
      obtain ⟨T', hT'⟩ : ∃ x, T ++ sb = x := ⟨_, rfl⟩
      have hTe : T' = ⟨q'.toArray⟩ := by rw [← hT', hT, hsb, hq']; exact ByteArray.mk_append_mk _ _
      obtain ⟨Q, hQ⟩ : ∃ Q, Q = q'.length := ⟨_, rfl⟩
      have hTQ : T'.size = Q := by rw [hTe, hQ]; rfl
      have hql := hr.len
      have hTs : T.size = q.length := by rw [hT]; rfl
      rw [← hLk, ← hCk, ← hak] at hcell
      rw [← hLk] at hrc
      rw [← hCk] at hrc hrm hrn
      rw [← hak] at hrn haw hbw
      rw [← ht] at hcell2 hk1 hk2
      have htot1 : (allB B k).length + Lk ≤ 1048576 := by
        have h' := Nat.le_trans (allB_le B hlt) HT.out
        rw [hLk]; simpa [allB] using h'
      have hFL : F ≤ Lk := by omega
      have hQc : Q ≤ cap := by rw [hQ, hq', List.length_append, List.length_take, hF]; omega
      have hsbs : sb.size ≤ 4096 := by rw [hsb, str_size, List.length_take]; omega
      have hTb : T.size ≤ 4096 := by omega
      have hmin : (if (G : Int) < (Lk : Int) then (G : Int) else (Lk : Int)) = (F : Int) := by split <;> omega
      have hmin2 : (if G < Lk then (G : Int) else (Lk : Int)) = (F : Int) := by split <;> omega
      -- how many are taken
      obtain ⟨M, hM⟩ : ∃ M : Int, (if (Q : Int) < t then (Q : Int) else t) = M := ⟨_, rfl⟩
      obtain ⟨N, hN⟩ : ∃ N : Nat, (if 0 < M then M else 0) = (N : Int) := ⟨(if 0 < M then M else 0).toNat, by split <;> omega⟩
      have hNF : (N = 0 ∧ t ≤ 0) ∨ (t = N ∧ N ≤ q'.length) ∨ (N = q'.length ∧ (q'.length : Int) < t) := by
        rw [← hQ, ← hM] at *
        revert hN; split <;> split <;> omega
      have hNQ : N ≤ Q := by rw [← hQ] at hNF; omega
      obtain ⟨q1, hq1⟩ : ∃ x, x = q'.take N := ⟨_, rfl⟩
      obtain ⟨q2, hq2⟩ : ∃ x, x = q'.drop N := ⟨_, rfl⟩
      obtain ⟨so, hso⟩ : ∃ s : ByteArray, s = ⟨q1.toArray⟩ := ⟨_, rfl⟩
      obtain ⟨T2, hT2⟩ : ∃ s : ByteArray, s = ⟨q2.toArray⟩ := ⟨_, rfl⟩
      obtain ⟨Q2, hQ2⟩ : ∃ Q, Q = q2.length := ⟨_, rfl⟩
      have hT2Q : T2.size = Q2 := by rw [hT2, hQ2]; rfl
      have hQ2c : Q2 ≤ cap := by rw [hQ2, hq2, List.length_drop]; omega
      have hx1 : T'.extract 0 N = so := by rw [hTe, ByteArray.extract_mk, hso, hq1]; simp
      have hx2 : T'.extract N Q = T2 := by rw [hTe, ByteArray.extract_mk, hT2, hq2, List.take_of_length_le (by rw [List.length_drop]; omega)]
      have hsl0 := fun w => run_head Try.prog w 26 ak Lk Ck F Try.elem26 1 Try.size5 (by omega) .i64
      have hLb : Lk ≤ 1048576 := by omega
      have hlb : lost ≤ 1048576 := by omega
      have HX := Lib.hid (And.intro hr (And.intro ho (And.intro hbw (And.intro haw (And.intro hLk (And.intro hF (And.intro hsb (And.intro hl1 hrn))))))))
      have HY := Lib.hid (And.intro hq' (And.intro hQ (And.intro hNF (And.intro hq1 (And.intro hq2 (And.intro hso (And.intro hT2 (And.intro hQ2 hTe))))))))
      clear hr ho hbw haw hLk hF hsb hl1 hrn hq' hQ hNF hq1 hq2 hso hT2 hQ2 hTe hT hql hrb hra hCk hak ht htop hold
      go_wp2_with fail
      refine (put_fit _ _ cap at_ q lost ak (B k) Lk Ck _ (HX.out.1.alloc _) (HX.out.2.2.1.of_only ((Only.refl [] wr).alloc _) (.inr (by intro ad e; simp))) HX.out.2.2.2.1 HX.out.2.2.2.2.1.symm hrc hrm hl0' (by omega) F HX.out.2.2.2.2.2.1 q' HY.out.1 _ rfl).mono ?_
      rintro e w2 ⟨rfl, hr2, ho2⟩
      have hltr := HX.out.1.lt
      have y0 : w2.cell? ⟨wr.heap.size, 0, none⟩ = some (.slice ak Lk Ck) := by
        rw [World.cell?_of_block (w := wr.alloc _) (ho2.block wr.heap.size (by simp) (by simp; omega)), World.cell?_alloc_at _ _ _ _ rfl]; rfl
      have y1 : w2.cell? ⟨wr.heap.size, 1, none⟩ = some (.int .i8 t) := by
        rw [World.cell?_of_block (w := wr.alloc _) (ho2.block wr.heap.size (by simp) (by simp; omega)), World.cell?_alloc_at _ _ _ _ rfl]; rfl
      have hb2 : Bytes w2 ak ((B k).take F) := ((HX.out.2.2.1.of_only ((Only.refl [] wr).alloc _) (.inr (by intro ad e; simp))).of_only ho2 HX.out.2.2.2.1).head F
      have hstr := run_str w2 ak F Ck ((B k).take F) hb2 (by rw [List.length_take]; have := HX.out.2.2.2.2.1; omega)
      rw [← HX.out.2.2.2.2.2.2.1] at hstr
      have HZ := Lib.hid (And.intro hr2 (HX.out.2.1.trans (((Only.refl _ wr).alloc _).trans ho2)))
      clear hr2 ho2 hb2 hltr
      go_wp2_with fail
      have ct := take_bytes _ _ cap at_ q' _ t N _ HZ.out.1.drew HY.out.2.2.1 q1 q2 HY.out.2.2.2.1 HY.out.2.2.2.2.1
      have CT := Lib.hid ct
      clear ct hstr y0 hcell hcell2
      have y1d : w2.drew.cell? ⟨wr.heap.size, 1, none⟩ = some (.int .i8 t) := y1
      have hN0 : (0 : Int) ≤ (N : Int) := Int.natCast_nonneg _
      have hN1 : (N : Int) ≤ (Q : Int) := by omega
      clear hsl0 hmin hmin2 hM hN
      have hwt : IntKind.i64.wrap t = t := IntWalk.i64_in t (by omega)
      go_region_with (go_at_call 12; (with_reducible refine CT.out.mono ?_); rintro e w3 ⟨a3, c3, rfl, hb3, hl3, ha3, hr3, ho3⟩; have hstr3 := run_str w3 a3 N c3 q1 hb3 hl3; rw [← HY.out.2.2.2.2.2.1] at hstr3; have HW := Lib.hid (And.intro hr3 ho3); clear hb3 hl3 ha3 hr3 ho3)
      clear hwt
      have hlen := len_any _ _ _ _ _ _ _ HW.out.1
      have hroom := room_kept _ _ _ _ _ _ _ HW.out.1
      rw [← HY.out.2.2.2.2.2.2.2.1] at hlen hroom
      have HL := Lib.hid hlen
      have HM := Lib.hid hroom
      clear hlen hroom
      go_wp2_with fail
      refine HL.out.mono ?_
      rintro e wz ⟨rfl, rfl⟩
      go_wp2_with fail
      refine HM.out.mono ?_
      rintro e w4 ⟨rfl, hr4, ho4⟩
      have HN := Lib.hid (And.intro hr4 ho4)
      clear hr4 ho4
      go_wp2_with fail
      refine (lost_any _ _ _ _ _ _ _ HN.out.1).mono ?_
      rintro e wz ⟨rfl, rfl⟩
      go_wp2
      go_roundw
      case rel =>
        refine ⟨k + 1, _, q2, _, T2, by omega, by go_num, rfl, rfl, HY.out.2.2.2.2.2.2.1, HN.out.1, by omega, ?_, (((HZ.out.2.drew).trans HW.out.2).trans (HN.out.2.weaken (by simp)))⟩
        have h1 := HX.out.2.2.2.2.2.2.2.1
        have h2 := HX.out.2.2.2.2.1
        simp only [allB, List.length_append]; omega
      case measure => simp [intOf]; omega
    · have HO := Lib.hid ho
      clear ho hr
      go_wp2
      go_ret
      exact ⟨rfl, H1.out.1.trans (HO.out.below hsz (by simp; omega))⟩

end Go.Proofs.Ytfnglidobljlgaa
