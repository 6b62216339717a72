/-
  The walk of DemuxScript, where what comes in is at most 2^20 bytes in all: every byte is told to the mode in which it was given, deed by deed.
-/
import Derived.Test.YtmikfnnaiojpiaaScriptA
import Derived.BigQuiet
import Derived.Deep.QuietTactic
namespace Go.Proofs.Ytmikfnnaiojpiaa
open Go.RowKit

def SPRel (B : Nat → List UInt8) (len1 : Nat) (wa : World) (t sA sT i : Value) (wr : World) : Prop :=
  ∃ (k mode : Nat) (tt : List Nat) (v : Value) (ss : List Seg), k ≤ len1 ∧ i = .int .i64 k ∧ t = .int .i64 mode ∧ Sc wa (allB B k) tt mode sA sT v ss wr

def SQRel (F0 bs : List UInt8) (mode : Nat) (wa : World) (sA sT i : Value) (wr : World) : Prop :=
  ∃ (j : Nat) (tt : List Nat) (v : Value) (ss : List Seg), j ≤ bs.length ∧ i = .int .i64 j ∧ Sc wa (F0 ++ bs.take j) tt mode sA sT v ss wr

def SRel2 (ss : List Seg) (K5 : Nat) (w5 : World) (s i : Value) (wr : World) : Prop :=
  ∃ j : Nat, j ≤ K5 ∧ i = .int .i64 j ∧ s = .int .i64 (sumS (ss.take j) : Nat) ∧ Only [] w5 wr

def NRel (xm xs : Nat) (w5 : World) (b : Nat) (i : Value) (wr : World) : Prop :=
  ∃ j : Nat, j ≤ xs ∧ i = .int .i64 j ∧ Only [] w5 wr ∧ wr.cell? ⟨b, 0, none⟩ = some (.int .i64 xm) ∧ wr.cell? ⟨b, 2, none⟩ = some (.int .i64 xs)

def MRel (w5 : World) (i : Value) (wr : World) : Prop := ∃ m : Nat, m ≤ 3 ∧ i = .int .i64 m ∧ Only [] w5 wr

def WRel (tt : List Nat) (F : List UInt8) (m n : Nat) (w5 : World) (s i : Value) (wr : World) : Prop :=
  ∃ (j : Nat) (T : ByteArray), j ≤ n ∧ i = .int .i64 j ∧ s = .string T ∧ T = ⟨(selB (tt.take j) (F.take j) m).toArray⟩ ∧ Only [] w5 wr

theorem take_snocW (bs : List UInt8) (j : Nat) (h : j < bs.length) : bs.take (j + 1) = bs.take j ++ [bs.getD j 0] := by
  rw [List.take_succ_eq_append_getElem h]; simp [List.getD, h]

set_option maxRecDepth 100000 in
set_option maxHeartbeats 4000000 in
theorem script_walk (a0 : Int) (a1 : Option Addr) (len1 cap1 : Nat) (B : Nat → List UInt8) (A : Nat → Option Addr) (C : Nat → Nat) (K : Nat → Int) (Sw : Nat → Bool) (w : World) (hacts : ActsIn w a1 len1 B A C K Sw)
    (htot : (allB B len1).length ≤ 1048576) (hlen : len1 ≤ 1048576) (hl0 : -128 ≤ a0) (hu0 : a0 ≤ 127) :
    Calls Try.prog 8 #[.int .i8 a0, .slice a1 len1 cap1] w fun e w' => e = .returned (.bool true) ∧ Below w.heap.size w w' := by
  obtain ⟨i5, hi, hz0, hz1, hz2⟩ := info_parts Try.info5
  obtain ⟨i23, hj, hy0, hy1, hy2⟩ := info_parts Try.info23
  have HI := Lib.hid (And.intro hi (And.intro hz0 (And.intro hz1 hz2)))
  have HJ := Lib.hid (And.intro hj (And.intro hy0 (And.intro hy1 hy2)))
  have HR := Lib.hid hacts
  have HT := Lib.hid htot
  clear hacts htot hi hz0 hz1 hz2 hj hy0 hy1 hy2
  go_enter Try.func8, Try.ntmps8
  go_wp2_with fail
  refine (awake_any _).mono ?_
  rintro e wa ⟨rfl, hba⟩
  go_wp2_with fail
  refine (of_any a0 _).mono ?_
  rintro e w1 ⟨rfl, hd1, ho1⟩
  have hst : St wa (allB B 0) [] (fitM a0) (.slice none 0 0) (.slice none 0 0) [] w1 :=
    ⟨hd1, segInv_nil, rfl, by simp, fitM_lt a0, World.ownsRow_nil _ _ _ _, by simp [Value.ownBlock], ho1.below (Nat.le_refl _) (by simp)⟩
  have hsc : Sc wa (allB B 0) [] (fitM a0) (.slice none 0 0) (.slice none 0 0) (.slice none 0 0) [] w1 := ⟨hst, World.ownsRow_nil _ _ _ _, by simp [Value.ownBlock], by simp [Value.ownBlock]⟩
  have H1 := Lib.hid (And.intro hba hsc)
  have hsz := hba.size
  clear hba hd1 ho1 hst hsc
  go_wp2_with fail
  refine (fit_any a0 _ hl0 hu0).mono ?_
  rintro e w1' ⟨rfl, rfl⟩
  go_wp2_with fail
  go_loopw [7, 8, 9, 33] (fun t sA sT i wr => SPRel B len1 wa t sA sT i wr) (fun _ _ _ i _ => len1 - (intOf i).toNat)
  case atStart => exact ⟨0, _, _, _, _, Nat.zero_le _, rfl, rfl, H1.out.2⟩
  case round =>
    obtain ⟨k, mode, tt, v, ss, hk, rfl, rfl, hst⟩ := hrel
    by_cases hlt : k < len1
    · obtain ⟨b, off, rfl, hbs, htop⟩ := HR.out.top (by omega)
      obtain ⟨hrb, hrc, hrm, hrn, hra, hk1, hk2⟩ := HR.out.row k hlt
      have hold : ∀ wx, Below wa.heap.size wa wx → ∀ ad x, ad.block < w.heap.size → w.cell? ad = some x → wx.cell? ad = some x := by
        intro wx hb ad x hbl hx
        rw [hb.cell (by omega), H1.out.1.cell hbl]; exact hx
      have hc0 := hold wr hst.st.bel _ _ hbs (htop k hlt).1
      have hc1 := hold wr hst.st.bel _ _ hbs (htop k hlt).2.1
      have hc2 := hold wr hst.st.bel _ _ hbs (htop k hlt).2.2
      obtain ⟨Lk, hLk⟩ : ∃ L, L = (B k).length := ⟨_, rfl⟩
      obtain ⟨Ck, hCk⟩ : ∃ L, L = C k := ⟨_, rfl⟩
      obtain ⟨ak, hak⟩ : ∃ L, L = A k := ⟨_, rfl⟩
      obtain ⟨t, ht⟩ : ∃ t, t = K k := ⟨_, rfl⟩
      have hbyte : ∀ wx, Below wa.heap.size wa wx → ∀ j, j < Lk → ∃ bb oo, ak = some ⟨bb, oo, none⟩ ∧ wx.cell? ⟨bb, oo + j, none⟩ = some (byteV ((B k).getD j 0)) := by
        intro wx hb j hj
        have hne : B k ≠ [] := by intro e; rw [e] at hLk; simp at hLk; omega
        rw [hak]
        cases hA : A k with
        | none => exact absurd (hrb.nil hA) hne
        | some ad =>
          have h0 := hrb.cell ad hA 0 (by omega)
          have hsp : ad.spot = none := by simpa [Addr.add] using spot_of_cell h0
          have hbl := (hra.resolve_left hne) ad hA
          have hj' := hrb.cell ad hA j (by omega)
          obtain ⟨bb, oo, sp⟩ := ad
          simp only at hsp
          subst hsp
          rw [Addr.add_lit] at hj'
          exact ⟨bb, oo, rfl, hold wx hb _ _ hbl hj'⟩
      rw [← hLk, ← hCk, ← hak] at hc2
      rw [← ht] at hc1 hk1 hk2
      have hLb : Lk ≤ 1048576 := by
        have h' := Nat.le_trans (allB_le B hlt) HT.out
        simp only [allB, List.length_append] at h'; omega
      have HX := Lib.hid (And.intro hst (And.intro hLk hbyte))
      clear hst hLk hbyte hrb hrc hrm hrn hra hak hCk ht htop hold
      cases hsw : Sw k with
      | true =>
        rw [hsw] at hc0
        clear hsw
        go_wp2_with fail
        refine (switch_any _ _ _ _ _ _ t _ (HX.out.1.alloc _).st.dem).mono ?_
        rintro e w2 ⟨rfl, hd2, ho2⟩
        have hDs : wa.heap.size < wr.heap.size := (Array.getElem?_eq_some_iff.1 HX.out.1.st.dem.str).1
        have hcell : ∀ i u, (wr.alloc (.cells #[.bool true, .int .i8 t, .slice ak Lk Ck] 43)).cell? ⟨wr.heap.size, i, none⟩ = some u → w2.cell? ⟨wr.heap.size, i, none⟩ = some u := by
          intro i u h
          rw [World.cell?_of_block (w := wr.alloc _) (ho2.block wr.heap.size (by simp) (by simp; omega))]; exact h
        have y1 : w2.cell? ⟨wr.heap.size, 1, none⟩ = some (.int .i8 t) := hcell _ _ (by rw [World.cell?_alloc_at _ _ _ _ rfl]; rfl)
        have y2 : w2.cell? ⟨wr.heap.size, 2, none⟩ = some (.slice ak Lk Ck) := hcell _ _ (by rw [World.cell?_alloc_at _ _ _ _ rfl]; rfl)
        have hS := (HX.out.1.alloc _).switch hd2 ho2 (fitM_lt t)
        have HS := Lib.hid hS
        clear hS hd2 ho2 hc0 hc1 hc2 hcell
        obtain ⟨wo, rfl⟩ : ∃ wo : World, wo = wr := ⟨_, rfl⟩
        go_wp2_with fail
        refine (fit_any t _ hk1 hk2).mono ?_
        rintro e w2' ⟨rfl, rfl⟩
        go_wp2_with fail
        go_loopw [8, 9, 51] (fun sA sT i wq => SQRel (allB B k) (B k) (fitM t) wa sA sT i wq) (fun _ _ i _ => Lk - (intOf i).toNat)
        case atStart => exact ⟨0, tt, v, ss, Nat.zero_le _, rfl, by rw [List.take_zero, List.append_nil]; exact HS.out⟩
        case round =>
          obtain ⟨j, tt2, v2, ss2, hj, rfl, hst2⟩ := hrel
          rw [← HX.out.2.1] at hj
          have hFl : (allB B k ++ (B k).take j).length ≤ 1048576 := by
            have h' := Nat.le_trans (allB_le B hlt) HT.out
            simp only [allB, List.length_append] at h'
            simp only [List.length_append, List.length_take]; omega
          by_cases hjl : j < Lk
          · obtain ⟨bb, oo, rfl, hbyte⟩ := HX.out.2.2 wr hst2.st.bel j hjl
            obtain ⟨c, hc⟩ : ∃ c, c = (B k).getD j 0 := ⟨_, rfl⟩
            rw [← hc] at hbyte
            obtain ⟨F, hF⟩ : ∃ F, F = allB B k ++ (B k).take j := ⟨_, rfl⟩
            have hF2 : allB B k ++ (B k).take (j + 1) = F ++ [c] := by rw [take_snocW _ _ (by rw [← HX.out.2.1]; exact hjl), hF, hc, List.append_assoc]
            rw [← hF] at hst2 hFl
            have HY := Lib.hid (And.intro hst2 (And.intro hc (And.intro hF hF2)))
            clear hst2 hc hF hF2
            go_wp2_with fail
            refine (put_any _ _ _ _ _ _ _ _ HY.out.1.st.dem (by omega)).mono ?_
            rintro e w3 ⟨v3, rfl, hd3, ho3, hv3⟩
            have hall := HY.out.1.st.kept ho3
            have hle3 : wa.heap.size + 1 ≤ w3.heap.size := hd3.le
            have HZ := Lib.hid (And.intro hd3 (And.intro ho3 (And.intro hv3 hall)))
            clear hd3 ho3 hv3 hall
            obtain ⟨hi, hz0, hz1, hz2⟩ := HI.out
            go_wp2_with (at_builtin; refine wpList_push _ rfl (.tmp 60) (.tmp 62) 37 5 rfl i5 (.int .u8 0) 1 Try.underlying37 hi hz0 hz1 hz2 rfl (wa.heap.size + 1) _ F.length (F.map byteV) rfl (HZ.out.2.2.2.alloc _) w3.heap.size (byteV c) rfl (World.cell?_alloc_at _ _ _ _ rfl) rfl (by unfold maxLen; omega) (by omega) (by simp; omega) ?_)
            intro s4 w4 hown4 hg4 hs4
            have hown5 := HY.out.1.kept HZ.out.2.1 hg4
            have hle4 : wa.heap.size + 1 ≤ w4.heap.size := by have := hg4.size; simp at this; omega
            have HP := Lib.hid (And.intro hown4 (And.intro hg4 (And.intro hs4 hown5)))
            clear hown4 hg4 hs4 hown5 hi hz0 hz1 hz2
            obtain ⟨hi, hz0, hz1, hz2⟩ := HJ.out
            go_wp2_with (at_builtin; refine wpList_push _ rfl (.tmp 64) (.tmp 66) 46 23 rfl i23 (.int .i64 0) 8 Try.under46 hi hz0 hz1 hz2 rfl (wa.heap.size + 1) _ F.length (tt2.map modeV) rfl (HP.out.2.2.2.alloc _) w4.heap.size (modeV (fitM t)) rfl (World.cell?_alloc_at _ _ _ _ rfl) rfl (by unfold maxLen; omega) (by omega) (by simp; omega) ?_)
            intro s5 w5 hown5 hg5 hs5
            have HW := Lib.hid (HY.out.1.put c HZ.out.1 HZ.out.2.1 HZ.out.2.2.1 HP.out.1 HP.out.2.1 HP.out.2.2.1 hown5 hg5 hs5)
            clear hown5 hg5 hs5 hi hz0 hz1 hz2
            go_wp2
            go_roundw
            case rel => exact ⟨j + 1, _, _, _, by rw [← HX.out.2.1]; omega, by go_num, by rw [HY.out.2.2.2]; exact HW.out⟩
            case measure => simp [intOf]; omega
          · have hFe : allB B k ++ (B k).take j = allB B (k + 1) := by
              rw [List.take_of_length_le (by rw [← HX.out.2.1]; omega)]; rfl
            rw [hFe] at hst2
            obtain ⟨n, hn⟩ : ∃ n, n = (allB B (k + 1)).length := ⟨_, rfl⟩
            have hall := hst2.st.all
            have hdem := hst2.st.dem
            rw [← hn] at hall hdem
            obtain ⟨aA, cA, hvA⟩ := own_slice hall
            subst hvA
            have HS2 := Lib.hid (And.intro hst2 hdem)
            clear hst2 hFe hFl hn hall hdem
            go_wp2_with fail
            refine (mode_any _ _ _ _ _ _ _ HS2.out.2).mono ?_
            rintro e wy ⟨rfl, rfl⟩
            go_wp2_with fail
            refine (len_any _ _ _ _ _ _ _ HS2.out.2).mono ?_
            rintro e wy ⟨rfl, rfl⟩
            go_wp2_with fail
            go_roundw
            case rel => exact ⟨k + 1, _, _, _, _, by omega, by go_num, rfl, HS2.out.1⟩
            case measure => simp [intOf]; omega
      | false =>
        rw [hsw] at hc0
        clear hsw
        have hS := HX.out.1.alloc (.cells #[.bool false, .int .i8 t, .slice ak Lk Ck] 43)
        have HS := Lib.hid hS
        clear hS
        obtain ⟨wo, rfl⟩ : ∃ wo : World, wo = wr := ⟨_, rfl⟩
        go_wp2_with fail
        go_loopw [8, 9, 51] (fun sA sT i wq => SQRel (allB B k) (B k) (mode) wa sA sT i wq) (fun _ _ i _ => Lk - (intOf i).toNat)
        case atStart => exact ⟨0, tt, v, ss, Nat.zero_le _, rfl, by rw [List.take_zero, List.append_nil]; exact HS.out⟩
        case round =>
          obtain ⟨j, tt2, v2, ss2, hj, rfl, hst2⟩ := hrel
          rw [← HX.out.2.1] at hj
          have hFl : (allB B k ++ (B k).take j).length ≤ 1048576 := by
            have h' := Nat.le_trans (allB_le B hlt) HT.out
            simp only [allB, List.length_append] at h'
            simp only [List.length_append, List.length_take]; omega
          by_cases hjl : j < Lk
          · obtain ⟨bb, oo, rfl, hbyte⟩ := HX.out.2.2 wr hst2.st.bel j hjl
            obtain ⟨c, hc⟩ : ∃ c, c = (B k).getD j 0 := ⟨_, rfl⟩
            rw [← hc] at hbyte
            obtain ⟨F, hF⟩ : ∃ F, F = allB B k ++ (B k).take j := ⟨_, rfl⟩
            have hF2 : allB B k ++ (B k).take (j + 1) = F ++ [c] := by rw [take_snocW _ _ (by rw [← HX.out.2.1]; exact hjl), hF, hc, List.append_assoc]
            rw [← hF] at hst2 hFl
            have HY := Lib.hid (And.intro hst2 (And.intro hc (And.intro hF hF2)))
            clear hst2 hc hF hF2
            go_wp2_with fail
            refine (put_any _ _ _ _ _ _ _ _ HY.out.1.st.dem (by omega)).mono ?_
            rintro e w3 ⟨v3, rfl, hd3, ho3, hv3⟩
            have hall := HY.out.1.st.kept ho3
            have hle3 : wa.heap.size + 1 ≤ w3.heap.size := hd3.le
            have HZ := Lib.hid (And.intro hd3 (And.intro ho3 (And.intro hv3 hall)))
            clear hd3 ho3 hv3 hall
            obtain ⟨hi, hz0, hz1, hz2⟩ := HI.out
            go_wp2_with (at_builtin; refine wpList_push _ rfl (.tmp 60) (.tmp 62) 37 5 rfl i5 (.int .u8 0) 1 Try.underlying37 hi hz0 hz1 hz2 rfl (wa.heap.size + 1) _ F.length (F.map byteV) rfl (HZ.out.2.2.2.alloc _) w3.heap.size (byteV c) rfl (World.cell?_alloc_at _ _ _ _ rfl) rfl (by unfold maxLen; omega) (by omega) (by simp; omega) ?_)
            intro s4 w4 hown4 hg4 hs4
            have hown5 := HY.out.1.kept HZ.out.2.1 hg4
            have hle4 : wa.heap.size + 1 ≤ w4.heap.size := by have := hg4.size; simp at this; omega
            have HP := Lib.hid (And.intro hown4 (And.intro hg4 (And.intro hs4 hown5)))
            clear hown4 hg4 hs4 hown5 hi hz0 hz1 hz2
            obtain ⟨hi, hz0, hz1, hz2⟩ := HJ.out
            go_wp2_with (at_builtin; refine wpList_push _ rfl (.tmp 64) (.tmp 66) 46 23 rfl i23 (.int .i64 0) 8 Try.under46 hi hz0 hz1 hz2 rfl (wa.heap.size + 1) _ F.length (tt2.map modeV) rfl (HP.out.2.2.2.alloc _) w4.heap.size (modeV (mode)) rfl (World.cell?_alloc_at _ _ _ _ rfl) rfl (by unfold maxLen; omega) (by omega) (by simp; omega) ?_)
            intro s5 w5 hown5 hg5 hs5
            have HW := Lib.hid (HY.out.1.put c HZ.out.1 HZ.out.2.1 HZ.out.2.2.1 HP.out.1 HP.out.2.1 HP.out.2.2.1 hown5 hg5 hs5)
            clear hown5 hg5 hs5 hi hz0 hz1 hz2
            go_wp2
            go_roundw
            case rel => exact ⟨j + 1, _, _, _, by rw [← HX.out.2.1]; omega, by go_num, by rw [HY.out.2.2.2]; exact HW.out⟩
            case measure => simp [intOf]; omega
          · have hFe : allB B k ++ (B k).take j = allB B (k + 1) := by
              rw [List.take_of_length_le (by rw [← HX.out.2.1]; omega)]; rfl
            rw [hFe] at hst2
            obtain ⟨n, hn⟩ : ∃ n, n = (allB B (k + 1)).length := ⟨_, rfl⟩
            have hall := hst2.st.all
            have hdem := hst2.st.dem
            rw [← hn] at hall hdem
            obtain ⟨aA, cA, hvA⟩ := own_slice hall
            subst hvA
            have HS2 := Lib.hid (And.intro hst2 hdem)
            clear hst2 hFe hFl hn hall hdem
            go_wp2_with fail
            refine (mode_any _ _ _ _ _ _ _ HS2.out.2).mono ?_
            rintro e wy ⟨rfl, rfl⟩
            go_wp2_with fail
            refine (len_any _ _ _ _ _ _ _ HS2.out.2).mono ?_
            rintro e wy ⟨rfl, rfl⟩
            go_wp2_with fail
            go_roundw
            case rel => exact ⟨k + 1, _, _, _, _, by omega, by go_num, rfl, HS2.out.1⟩
            case measure => simp [intOf]; omega
    · obtain rfl : k = len1 := by omega
      obtain ⟨F, hF⟩ : ∃ F, F = allB B k := ⟨_, rfl⟩
      rw [← hF] at hst
      have hFl : F.length ≤ 1048576 := by rw [hF]; exact HT.out
      obtain ⟨n, hn⟩ : ∃ n, n = F.length := ⟨_, rfl⟩
      rw [← hn] at hFl
      have hall := hst.st.all
      have htwo := hst.two
      rw [← hn] at hall htwo
      obtain ⟨aA, cA, hv⟩ := own_slice hall
      subst hv
      obtain ⟨aT, cT, hv⟩ := own_slice htwo
      subst hv
      obtain ⟨hbA, hbl, hbc, hbn, hbb, hbm⟩ := Bytes.of_owns hall
      have hdem := hst.st.dem
      rw [← hn] at hdem
      have hlen := hst.st.len
      rw [← hn] at hlen
      have hp := hst.st.inv.part F
      have hbm' : cA ≤ 9223372036854775807 := by simpa [maxLen] using hbm
      have hbm1 := hst.st.mode3
      have HX := Lib.hid (And.intro hdem (And.intro hall (And.intro htwo (And.intro hbA (And.intro hbl (And.intro hbc (And.intro hbn (And.intro hlen (And.intro hp (And.intro hst.st.inv hst.st.bel))))))))))
      clear hst hF hn hall htwo hbA hbl hbc hbn hbb hbm hdem hlen hp hbm1
      go_wp2_with fail
      refine (segments_any _ _ _ _ _ _ _ HX.out.1).mono ?_
      rintro e w5 ⟨v6, rfl, hown, ho5⟩
      obtain ⟨K5, hK5⟩ : ∃ K, K = ss.length := ⟨_, rfl⟩
      have hKl : K5 ≤ 1048576 := by have := HX.out.1.cnt; omega
      rw [← hK5] at hown
      obtain ⟨a6, c6, hv6⟩ := own_slice hown
      subst hv6
      have HV := Lib.hid (And.intro hown (And.intro hK5 (And.intro (HX.out.1.of_only ho5 (by simp) (by simp)) (And.intro (ownsRow_only HX.out.2.1 ho5 (by simp)) (And.intro (ownsRow_only HX.out.2.2.1 ho5 (by simp)) (HX.out.2.2.2.2.2.2.2.2.2.2.trans (ho5.below HX.out.2.2.2.2.2.2.2.2.2.2.size (by simp))))))))
      clear hown ho5 hK5
      go_wp2_with fail
      go_loopw [14, 85] (fun s i wq => SRel2 ss K5 w5 s i wq) (fun _ i _ => K5 - (intOf i).toNat)
      case atStart => exact ⟨0, Nat.zero_le _, rfl, rfl, Only.refl _ _⟩
      case round =>
        obtain ⟨j, hj, rfl, rfl, ho⟩ := hrel
        by_cases hjl : j < K5
        · obtain ⟨x, hx⟩ : ∃ x, ss[j]? = some x := ⟨_, List.getElem?_eq_getElem (by rw [← HV.out.2.1]; exact hjl)⟩
          have hrow := ownsRow_only HV.out.1 ho (by simp)
          obtain ⟨g, cv', hvv, x0, x1, x2⟩ := row_cell' hrow HV.out.2.1.symm j x hx
          simp only [Value.slice.injEq, true_and] at hvv
          obtain ⟨rfl, rfl⟩ := hvv
          have hgl : g < wr.heap.size := World.block_lt_of_cell? wr _ x0
          obtain ⟨y1, y2, y3, y4, y5⟩ := HX.out.2.2.2.2.2.2.2.2.2.1.at j x hx
          rw [HX.out.2.2.2.2.2.2.2.1] at y4
          obtain ⟨xm, xf, xs⟩ := x
          simp only at x0 x1 x2 y1 y2 y3 y4 y5
          rw [← y1]
          have HW := Lib.hid (And.intro y3 (And.intro ho (And.intro y5 (And.intro hrow hx))))
          clear hx hrow y1 y3 y5 ho
          have d2 : decide ((xs : Int) < 1) = false := by simp; omega
          have d3 : decide ((xf : Int) + (xs : Int) > (n : Int)) = false := by simp; omega
          have d3' : decide ((n : Int) < (xf : Int) + (xs : Int)) = false := by simp; omega
          by_cases hj0 : j = 0
          · subst hj0
            simp only [Nat.zero_mul, Nat.zero_add] at x0 x1 x2
            go_wp2_with fail
            go_quiet (fail)
            go_wp2_with fail
            obtain ⟨wo, rfl⟩ : ∃ wo : World, wo = wr := ⟨_, rfl⟩
            go_loopw [18] (fun i wq => NRel xm xs w5 wo.heap.size i wq) (fun i _ => xs - (intOf i).toNat)
            case atStart => exact ⟨0, Nat.zero_le _, rfl, (HW.out.2.1.alloc _).drewN _, (World.cell?_alloc_at _ _ _ _ rfl).trans rfl, (World.cell?_alloc_at _ _ _ _ rfl).trans rfl⟩
            case round =>
              obtain ⟨i, hi4, rfl, ho4, c0, c2⟩ := hrel
              by_cases hil : i < xs
              · obtain ⟨gT, rfl, hgl4, hle4, ct⟩ := row_at (ownsRow_only HV.out.2.2.2.2.1 ho4 (by simp)) (xf + i) (.int .i64 (xm : Int)) (by rw [List.getElem?_map, HW.out.2.2.1 i hil]; rfl)
                have HU := Lib.hid (And.intro ho4 (And.intro c0 c2))
                clear ho4
                go_wp2_with fail
                go_quiet (fail)
                go_wp2
                go_roundw
                case rel => exact ⟨i + 1, by omega, by go_num, HU.out.1.drewN _, HU.out.2.1, HU.out.2.2⟩
                case measure => simp [intOf]; omega
              · obtain rfl : i = xs := by omega
                have HU := Lib.hid ho4
                clear ho4
                go_wp2
                go_roundw
                case rel => exact ⟨0 + 1, by omega, by go_num, by rw [HW.out.1]; go_num, HU.out⟩
                case measure => simp [intOf]; omega
          · obtain ⟨j1, rfl⟩ : ∃ j1, j = j1 + 1 := ⟨j - 1, by omega⟩
            obtain ⟨z, hz⟩ : ∃ z, ss[j1]? = some z := ⟨_, List.getElem?_eq_getElem (by rw [← HV.out.2.1]; omega)⟩
            obtain ⟨g', cv', hvv, z0, _, _⟩ := row_cell' HW.out.2.2.2.1 HV.out.2.1.symm j1 z hz
            simp only [Value.slice.injEq, true_and, Option.some.injEq, Addr.mk.injEq, and_true] at hvv
            obtain ⟨rfl, rfl⟩ := hvv
            have hne : (z.m : Int) ≠ (xm : Int) := by have := HX.out.2.2.2.2.2.2.2.2.2.1.adj j1 z _ hz HW.out.2.2.2.2; simp at this; omega
            obtain ⟨zm, hzm⟩ : ∃ zm, zm = z.m := ⟨_, rfl⟩
            rw [← hzm] at z0 hne
            have d5 : ((zm : Int) == (xm : Int)) = false := by simpa using hne
            have d4 : decide (((j1 + 1 : Nat) : Int) > 0) = true := by simp
            have d4' : decide ((0 : Int) < ((j1 + 1 : Nat) : Int)) = true := by simp
            clear hz hzm
            go_wp2_with fail
            go_quiet (fail)
            go_wp2_with fail
            obtain ⟨wo, rfl⟩ : ∃ wo : World, wo = wr := ⟨_, rfl⟩
            go_loopw [18] (fun i wq => NRel xm xs w5 wo.heap.size i wq) (fun i _ => xs - (intOf i).toNat)
            case atStart => exact ⟨0, Nat.zero_le _, rfl, (HW.out.2.1.alloc _).drewN _, (World.cell?_alloc_at _ _ _ _ rfl).trans rfl, (World.cell?_alloc_at _ _ _ _ rfl).trans rfl⟩
            case round =>
              obtain ⟨i, hi4, rfl, ho4, c0, c2⟩ := hrel
              by_cases hil : i < xs
              · obtain ⟨gT, rfl, hgl4, hle4, ct⟩ := row_at (ownsRow_only HV.out.2.2.2.2.1 ho4 (by simp)) (xf + i) (.int .i64 (xm : Int)) (by rw [List.getElem?_map, HW.out.2.2.1 i hil]; rfl)
                have HU := Lib.hid (And.intro ho4 (And.intro c0 c2))
                clear ho4
                go_wp2_with fail
                go_quiet (fail)
                go_wp2
                go_roundw
                case rel => exact ⟨i + 1, by omega, by go_num, HU.out.1.drewN _, HU.out.2.1, HU.out.2.2⟩
                case measure => simp [intOf]; omega
              · obtain rfl : i = xs := by omega
                have HU := Lib.hid ho4
                clear ho4
                go_wp2
                go_roundw
                case rel => exact ⟨(j1 + 1) + 1, by omega, by go_num, by rw [HW.out.1]; go_num, HU.out⟩
                case measure => simp [intOf]; omega
        · obtain rfl : j = K5 := by omega
          have hsn : sumS (ss.take j) = n := by
            rw [List.take_of_length_le (by rw [HV.out.2.1]; exact Nat.le_refl _), HX.out.2.2.2.2.2.2.2.2.2.1.sum]; exact HX.out.2.2.2.2.2.2.2.1
          rw [hsn]
          have HO := Lib.hid ho
          clear ho hsn
          go_wp2_with fail
          go_loopw [19] (fun i wq => MRel w5 i wq) (fun i _ => 3 - (intOf i).toNat)
          case atStart => exact ⟨0, by omega, rfl, HO.out⟩
          case round =>
            obtain ⟨m, hm, rfl, ho⟩ := hrel
            by_cases hml : m < 3
            · have HQ := Lib.hid ho
              clear ho
              go_wp2_with fail
              go_loopw [20, 149] (fun s i wq => WRel tt F m n w5 s i wq) (fun _ i _ => n - (intOf i).toNat)
              case atStart => exact ⟨0, ⟨#[]⟩, Nat.zero_le _, rfl, rfl, rfl, HQ.out⟩
              case round =>
                obtain ⟨j6, T, hj6, rfl, rfl, hT, ho⟩ := hrel
                have hTs : T.size ≤ 1048576 := by
                  rw [hT, str_len]
                  have := selB_le (tt.take j6) (F.take j6) m
                  simp only [List.length_take] at this
                  omega
                by_cases hjl6 : j6 < n
                · obtain ⟨c, hc⟩ : ∃ c, F[j6]? = some c := ⟨_, List.getElem?_eq_getElem (by rw [HX.out.2.2.2.2.1]; exact hjl6)⟩
                  obtain ⟨t, ht⟩ : ∃ t, tt[j6]? = some t := ⟨_, List.getElem?_eq_getElem (by rw [HX.out.2.2.2.2.2.2.2.1]; exact hjl6)⟩
                  obtain ⟨gA, rfl, hglA, hleA, ca⟩ := row_at (ownsRow_only HV.out.2.2.2.1 ho (by simp)) j6 (byteV c) (by rw [List.getElem?_map, hc]; rfl)
                  obtain ⟨gT, rfl, hglT, hleT, ct⟩ := row_at (ownsRow_only HV.out.2.2.2.2.1 ho (by simp)) j6 (.int .i64 (t : Int)) (by rw [List.getElem?_map, ht]; rfl)
                  have hsel := sel_step tt F j6 t c m (by rw [HX.out.2.2.2.2.1, HX.out.2.2.2.2.2.2.2.1]) ht hc
                  have HU := Lib.hid (And.intro hT (And.intro ho hsel))
                  clear hT ho hsel hc ht
                  by_cases htm : t = m
                  · subst htm
                    have hstr := run_str (wr.alloc (.cells #[byteV c] 5)) (some ⟨wr.heap.size, 0, none⟩) 1 1 [c] (bytes1 wr c _ rfl) rfl
                    obtain ⟨tc, htc⟩ : ∃ tc : ByteArray, tc = ⟨[c].toArray⟩ := ⟨_, rfl⟩
                    rw [← htc] at hstr
                    have htcs : tc.size = 1 := by rw [htc]; rfl
                    have HC := Lib.hid htc
                    clear htc
                    go_wp2_with fail
                    go_roundw
                    case rel => exact ⟨j6 + 1, T ++ tc, by omega, by go_num, rfl, by rw [HU.out.2.2, if_pos rfl, HU.out.1, HC.out]; exact ByteArray.mk_append_mk _ _, HU.out.2.1.alloc _⟩
                    case measure => simp [intOf]; omega
                  · have htm' : ((t : Int) == (m : Int)) = false := by simp; omega
                    clear htm
                    have HN := Lib.hid htm'
                    go_wp2_with fail
                    go_roundw
                    case rel => exact ⟨j6 + 1, T, by omega, by go_num, rfl, by rw [HU.out.2.2, if_neg (by have := HN.out; simp at this; omega), List.append_nil]; exact HU.out.1, HU.out.2.1⟩
                    case measure => simp [intOf]; omega
                · obtain rfl : j6 = n := by omega
                  rw [List.take_of_length_le (by rw [HX.out.2.2.2.2.2.2.2.1]; exact Nat.le_refl _), List.take_of_length_le (by rw [HX.out.2.2.2.2.1]; exact Nat.le_refl _)] at hT
                  obtain ⟨L, hL⟩ : ∃ L, L = (selB tt F m).length := ⟨_, rfl⟩
                  have hpm := HX.out.2.2.2.2.2.2.2.2.1 m (by rw [HX.out.2.2.2.2.1, HX.out.2.2.2.2.2.2.2.1])
                  have hLb : L ≤ 1048576 := by
                    have := selB_le tt F m
                    rw [HX.out.2.2.2.2.2.2.2.1, ← hL] at this; omega
                  have HU := Lib.hid (And.intro hT (And.intro ho (And.intro hL hpm)))
                  clear hT ho hL hpm
                  go_wp2_with fail
                  refine (part_any _ _ _ _ _ _ m aA F j6 cA L _ (HV.out.2.2.1.of_only HU.out.2.1 (by simp) (by simp)) (Bytes.of_owns (ownsRow_only HV.out.2.2.2.1 HU.out.2.1 (by simp))).1 HX.out.2.2.2.2.1 HX.out.2.2.2.2.2.1 hbm' HX.out.2.2.2.2.2.2.1 (by rw [HU.out.2.2.2]; exact HU.out.2.2.1.symm) (by omega)).mono ?_
                  rintro e w2 ⟨p, cp, rfl, hbp, _, ho2⟩
                  have hstr := run_str w2 p L cp _ hbp (by rw [HU.out.2.2.2]; exact HU.out.2.2.1.symm)
                  rw [HU.out.2.2.2, ← HU.out.1] at hstr
                  have HY := Lib.hid (HU.out.2.1.trans ho2)
                  clear hbp ho2
                  go_wp2_with fail
                  go_roundw
                  case rel => exact ⟨m + 1, by omega, by go_num, HY.out⟩
                  case measure => simp [intOf]; omega
            · obtain rfl : m = 3 := by omega
              have HQ := Lib.hid ho
              clear ho
              go_wp2
              go_ret
              exact ⟨rfl, H1.out.1.trans ((HV.out.2.2.2.2.2.trans (HQ.out.below HV.out.2.2.2.2.2.size (by simp))).mono hsz)⟩

end Go.Proofs.Ytmikfnnaiojpiaa
