/-
  The walk of DemuxParts, where what comes in is at most 2^20 bytes in all: the parts that were given to each are all bytes together.
-/
import Derived.Test.YtmikfnnaiojpiaaActs
namespace Go.Proofs.Ytmikfnnaiojpiaa
open Go.RowKit

def PRel (B : Nat → List UInt8) (len1 : Nat) (wa : World) (s i : Value) (wr : World) : Prop :=
  ∃ (k mode : Nat) (tt : List Nat) (v : Value) (ss : List Seg), k ≤ len1 ∧ i = .int .i64 k ∧ St wa (allB B k) tt mode s v ss wr

def QRel (F0 bs : List UInt8) (mode : Nat) (wa : World) (s i : Value) (wr : World) : Prop :=
  ∃ (j : Nat) (tt : List Nat) (v : Value) (ss : List Seg), j ≤ bs.length ∧ i = .int .i64 j ∧ St wa (F0 ++ bs.take j) tt mode s v ss wr

def SRel (ss : List Seg) (K5 : Nat) (w5 : World) (s i : Value) (wr : World) : Prop :=
  ∃ j : Nat, j ≤ K5 ∧ i = .int .i64 j ∧ s = .int .i64 (sumS (ss.take j) : Nat) ∧ Only [] w5 wr

theorem take_snocU (bs : List UInt8) (j : Nat) (h : j < bs.length) : bs.take (j + 1) = bs.take j ++ [bs.getD j 0] := by
  rw [List.take_succ_eq_append_getElem h]; simp [List.getD, h]

set_option maxRecDepth 100000 in
set_option maxHeartbeats 2000000 in
theorem parts_walk (a0 : Int) (a1 : Option Addr) (len1 cap1 : Nat) (B : Nat → List UInt8) (A : Nat → Option Addr) (C : Nat → Nat) (K : Nat → Int) (Sw : Nat → Bool) (w : World) (hacts : ActsIn w a1 len1 B A C K Sw)
    (htot : (allB B len1).length ≤ 1048576) (hlen : len1 ≤ 1048576) (hl0 : -128 ≤ a0) (hu0 : a0 ≤ 127) :
    Calls Try.prog 7 #[.int .i8 a0, .slice a1 len1 cap1] w fun e w' => e = .returned (.bool true) ∧ Below w.heap.size w w' := by
  obtain ⟨i5, hi, hz0, hz1, hz2⟩ := info_parts Try.info5
  have HI := Lib.hid (And.intro hi (And.intro hz0 (And.intro hz1 hz2)))
  have HR := Lib.hid hacts
  have HT := Lib.hid htot
  clear hacts htot hi hz0 hz1 hz2
  go_enter Try.func7, Try.ntmps7
  go_wp2_with fail
  refine (awake_any _).mono ?_
  rintro e wa ⟨rfl, hba⟩
  go_wp2_with fail
  refine (of_any a0 _).mono ?_
  rintro e w1 ⟨rfl, hd1, ho1⟩
  have hst : St wa (allB B 0) [] (fitM a0) (.slice none 0 0) (.slice none 0 0) [] w1 :=
    ⟨hd1, segInv_nil, rfl, by simp, fitM_lt a0, World.ownsRow_nil _ _ _ _, by simp [Value.ownBlock], ho1.below (Nat.le_refl _) (by simp)⟩
  have H1 := Lib.hid (And.intro hba hst)
  have hsz := hba.size
  clear hba hd1 ho1 hst
  go_wp2_with fail
  go_loopw [6, 22] (fun s i wr => PRel B len1 wa s i wr) (fun _ i _ => len1 - (intOf i).toNat)
  case atStart => exact ⟨0, _, _, _, _, Nat.zero_le _, rfl, H1.out.2⟩
  case round =>
    obtain ⟨k, mode, tt, v, ss, hk, rfl, hst⟩ := hrel
    by_cases hlt : k < len1
    · obtain ⟨b, off, rfl, hbs, htop⟩ := HR.out.top (by omega)
      obtain ⟨hrb, hrc, hrm, hrn, hra, hk1, hk2⟩ := HR.out.row k hlt
      have hold : ∀ wx, Below wa.heap.size wa wx → ∀ ad x, ad.block < w.heap.size → w.cell? ad = some x → wx.cell? ad = some x := by
        intro wx hb ad x hbl hx
        rw [hb.cell (by omega), H1.out.1.cell hbl]; exact hx
      have hc0 := hold wr hst.bel _ _ hbs (htop k hlt).1
      have hc1 := hold wr hst.bel _ _ hbs (htop k hlt).2.1
      have hc2 := hold wr hst.bel _ _ hbs (htop k hlt).2.2
      obtain ⟨Lk, hLk⟩ : ∃ L, L = (B k).length := ⟨_, rfl⟩
      obtain ⟨Ck, hCk⟩ : ∃ L, L = C k := ⟨_, rfl⟩
      obtain ⟨ak, hak⟩ : ∃ L, L = A k := ⟨_, rfl⟩
      obtain ⟨t, ht⟩ : ∃ t, t = K k := ⟨_, rfl⟩
      have hbyte : ∀ wx, Below wa.heap.size wa wx → ∀ j, j < Lk → ∃ bb oo, ak = some ⟨bb, oo, none⟩ ∧ wx.cell? ⟨bb, oo + j, none⟩ = some (byteV ((B k).getD j 0)) := by
        intro wx hb j hj
        have hne : B k ≠ [] := by intro e; rw [e] at hLk; simp at hLk; omega
        rw [hak]
        cases hA : A k with
        | none => exact absurd (hrb.nil hA) hne
        | some ad =>
          have h0 := hrb.cell ad hA 0 (by omega)
          have hsp : ad.spot = none := by simpa [Addr.add] using spot_of_cell h0
          have hbl := (hra.resolve_left hne) ad hA
          have hj' := hrb.cell ad hA j (by omega)
          obtain ⟨bb, oo, sp⟩ := ad
          simp only at hsp
          subst hsp
          rw [Addr.add_lit] at hj'
          exact ⟨bb, oo, rfl, hold wx hb _ _ hbl hj'⟩
      rw [← hLk, ← hCk, ← hak] at hc2
      rw [← ht] at hc1 hk1 hk2
      have hLb : Lk ≤ 1048576 := by
        have h' := Nat.le_trans (allB_le B hlt) HT.out
        simp only [allB, List.length_append] at h'; omega
      have HX := Lib.hid (And.intro hst (And.intro hLk hbyte))
      clear hst hLk hbyte hrb hrc hrm hrn hra hak hCk ht htop hold
      cases hsw : Sw k with
      | true =>
        rw [hsw] at hc0
        clear hsw
        go_wp2_with fail
        refine (switch_any _ _ _ _ _ _ t _ (HX.out.1.alloc _).dem).mono ?_
        rintro e w2 ⟨rfl, hd2, ho2⟩
        have hDs : wa.heap.size < wr.heap.size := (Array.getElem?_eq_some_iff.1 HX.out.1.dem.str).1
        have y2 : w2.cell? ⟨wr.heap.size, 2, none⟩ = some (.slice ak Lk Ck) := by
          rw [World.cell?_of_block (w := wr.alloc _) (ho2.block wr.heap.size (by simp) (by simp; omega)), World.cell?_alloc_at _ _ _ _ rfl]; rfl
        have hS := (HX.out.1.alloc _).switch hd2 ho2 (fitM_lt t)
        have HS := Lib.hid hS
        clear hS hd2 ho2 hc0 hc1 hc2
        obtain ⟨wo, rfl⟩ : ∃ wo : World, wo = wr := ⟨_, rfl⟩
        go_wp2_with fail
        go_loopw [6, 36] (fun s i wq => QRel (allB B k) (B k) (fitM t) wa s i wq) (fun _ i _ => Lk - (intOf i).toNat)
        case atStart => exact ⟨0, tt, v, ss, Nat.zero_le _, rfl, by rw [List.take_zero, List.append_nil]; exact HS.out⟩
        case round =>
          obtain ⟨j, tt2, v2, ss2, hj, rfl, hst2⟩ := hrel
          rw [← HX.out.2.1] at hj
          have hFl : (allB B k ++ (B k).take j).length ≤ 1048576 := by
            have h' := Nat.le_trans (allB_le B hlt) HT.out
            simp only [allB, List.length_append] at h'
            simp only [List.length_append, List.length_take]; omega
          by_cases hjl : j < Lk
          · obtain ⟨bb, oo, rfl, hbyte⟩ := HX.out.2.2 wr hst2.bel j hjl
            obtain ⟨c, hc⟩ : ∃ c, c = (B k).getD j 0 := ⟨_, rfl⟩
            rw [← hc] at hbyte
            obtain ⟨F, hF⟩ : ∃ F, F = allB B k ++ (B k).take j := ⟨_, rfl⟩
            have hF2 : allB B k ++ (B k).take (j + 1) = F ++ [c] := by rw [take_snocU _ _ (by rw [← HX.out.2.1]; exact hjl), hF, hc, List.append_assoc]
            rw [← hF] at hst2 hFl
            have HY := Lib.hid (And.intro hst2 (And.intro hc (And.intro hF hF2)))
            clear hst2 hc hF hF2
            go_wp2_with fail
            refine (put_any _ _ _ _ _ _ _ _ HY.out.1.dem (by omega)).mono ?_
            rintro e w3 ⟨v3, rfl, hd3, ho3, hv3⟩
            have hall := HY.out.1.kept ho3
            have hle3 : wa.heap.size + 1 ≤ w3.heap.size := hd3.le
            have HZ := Lib.hid (And.intro hd3 (And.intro ho3 (And.intro hv3 hall)))
            clear hd3 ho3 hv3 hall
            obtain ⟨hi, hz0, hz1, hz2⟩ := HI.out
            go_wp2_with (at_builtin; refine wpList_push _ rfl (.tmp 43) (.tmp 45) 37 5 rfl i5 (.int .u8 0) 1 Try.underlying37 hi hz0 hz1 hz2 rfl (wa.heap.size + 1) _ F.length (F.map byteV) rfl (HZ.out.2.2.2.alloc _) w3.heap.size (byteV c) rfl (World.cell?_alloc_at _ _ _ _ rfl) rfl (by unfold maxLen; omega) (by omega) (by simp; omega) ?_)
            intro s4 w4 hown4 hg4 hs4
            have HW := Lib.hid (HY.out.1.put c HZ.out.1 HZ.out.2.1 HZ.out.2.2.1 hown4 hg4 hs4)
            clear hown4 hg4 hs4 hi hz0 hz1 hz2
            go_wp2
            go_roundw
            case rel => exact ⟨j + 1, _, _, _, by rw [← HX.out.2.1]; omega, by go_num, by rw [HY.out.2.2.2]; exact HW.out⟩
            case measure => simp [intOf]; omega
          · have hFe : allB B k ++ (B k).take j = allB B (k + 1) := by
              rw [List.take_of_length_le (by rw [← HX.out.2.1]; omega)]; rfl
            rw [hFe] at hst2
            have HS2 := Lib.hid hst2
            clear hst2 hFe hFl
            go_wp2_with fail
            go_roundw
            case rel => exact ⟨k + 1, _, _, _, _, by omega, by go_num, HS2.out⟩
            case measure => simp [intOf]; omega
      | false =>
        rw [hsw] at hc0
        clear hsw
        have hS := HX.out.1.alloc (.cells #[.bool false, .int .i8 t, .slice ak Lk Ck] 43)
        have HS := Lib.hid hS
        clear hS
        obtain ⟨wo, rfl⟩ : ∃ wo : World, wo = wr := ⟨_, rfl⟩
        go_wp2_with fail
        go_loopw [6, 36] (fun s i wq => QRel (allB B k) (B k) (mode) wa s i wq) (fun _ i _ => Lk - (intOf i).toNat)
        case atStart => exact ⟨0, tt, v, ss, Nat.zero_le _, rfl, by rw [List.take_zero, List.append_nil]; exact HS.out⟩
        case round =>
          obtain ⟨j, tt2, v2, ss2, hj, rfl, hst2⟩ := hrel
          rw [← HX.out.2.1] at hj
          have hFl : (allB B k ++ (B k).take j).length ≤ 1048576 := by
            have h' := Nat.le_trans (allB_le B hlt) HT.out
            simp only [allB, List.length_append] at h'
            simp only [List.length_append, List.length_take]; omega
          by_cases hjl : j < Lk
          · obtain ⟨bb, oo, rfl, hbyte⟩ := HX.out.2.2 wr hst2.bel j hjl
            obtain ⟨c, hc⟩ : ∃ c, c = (B k).getD j 0 := ⟨_, rfl⟩
            rw [← hc] at hbyte
            obtain ⟨F, hF⟩ : ∃ F, F = allB B k ++ (B k).take j := ⟨_, rfl⟩
            have hF2 : allB B k ++ (B k).take (j + 1) = F ++ [c] := by rw [take_snocU _ _ (by rw [← HX.out.2.1]; exact hjl), hF, hc, List.append_assoc]
            rw [← hF] at hst2 hFl
            have HY := Lib.hid (And.intro hst2 (And.intro hc (And.intro hF hF2)))
            clear hst2 hc hF hF2
            go_wp2_with fail
            refine (put_any _ _ _ _ _ _ _ _ HY.out.1.dem (by omega)).mono ?_
            rintro e w3 ⟨v3, rfl, hd3, ho3, hv3⟩
            have hall := HY.out.1.kept ho3
            have hle3 : wa.heap.size + 1 ≤ w3.heap.size := hd3.le
            have HZ := Lib.hid (And.intro hd3 (And.intro ho3 (And.intro hv3 hall)))
            clear hd3 ho3 hv3 hall
            obtain ⟨hi, hz0, hz1, hz2⟩ := HI.out
            go_wp2_with (at_builtin; refine wpList_push _ rfl (.tmp 43) (.tmp 45) 37 5 rfl i5 (.int .u8 0) 1 Try.underlying37 hi hz0 hz1 hz2 rfl (wa.heap.size + 1) _ F.length (F.map byteV) rfl (HZ.out.2.2.2.alloc _) w3.heap.size (byteV c) rfl (World.cell?_alloc_at _ _ _ _ rfl) rfl (by unfold maxLen; omega) (by omega) (by simp; omega) ?_)
            intro s4 w4 hown4 hg4 hs4
            have HW := Lib.hid (HY.out.1.put c HZ.out.1 HZ.out.2.1 HZ.out.2.2.1 hown4 hg4 hs4)
            clear hown4 hg4 hs4 hi hz0 hz1 hz2
            go_wp2
            go_roundw
            case rel => exact ⟨j + 1, _, _, _, by rw [← HX.out.2.1]; omega, by go_num, by rw [HY.out.2.2.2]; exact HW.out⟩
            case measure => simp [intOf]; omega
          · have hFe : allB B k ++ (B k).take j = allB B (k + 1) := by
              rw [List.take_of_length_le (by rw [← HX.out.2.1]; omega)]; rfl
            rw [hFe] at hst2
            have HS2 := Lib.hid hst2
            clear hst2 hFe hFl
            go_wp2_with fail
            go_roundw
            case rel => exact ⟨k + 1, _, _, _, _, by omega, by go_num, HS2.out⟩
            case measure => simp [intOf]; omega
    · obtain rfl : k = len1 := by omega
      obtain ⟨F, hF⟩ : ∃ F, F = allB B k := ⟨_, rfl⟩
      rw [← hF] at hst
      have hFl : F.length ≤ 1048576 := by rw [hF]; exact HT.out
      obtain ⟨n, hn⟩ : ∃ n, n = F.length := ⟨_, rfl⟩
      rw [← hn] at hFl
      have hall := hst.all
      rw [← hn] at hall
      obtain ⟨aA, cA, hv⟩ := own_slice hall
      subst hv
      obtain ⟨hbA, hbl, hbc, hbn, hbb, hbm⟩ := Bytes.of_owns hall
      have hdem := hst.dem
      rw [← hn] at hdem
      have hlen := hst.len
      rw [← hn] at hlen
      obtain ⟨L0, hL0⟩ : ∃ L, L = (selB tt F 0).length := ⟨_, rfl⟩
      obtain ⟨L1, hL1⟩ : ∃ L, L = (selB tt F 1).length := ⟨_, rfl⟩
      obtain ⟨L2, hL2⟩ : ∃ L, L = (selB tt F 2).length := ⟨_, rfl⟩
      have h3 := selB_three tt F (by omega) hst.three
      rw [← hL0, ← hL1, ← hL2, hlen] at h3
      have hs3 : (L0 : Int) + (L1 : Int) + (L2 : Int) = (n : Int) := by omega
      have hb0 : L0 ≤ 1048576 := by omega
      have hb1 : L1 ≤ 1048576 := by omega
      have hb2 : L2 ≤ 1048576 := by omega
      have hp := hst.inv.part F
      have hbm' : cA ≤ 9223372036854775807 := by simpa [maxLen] using hbm
      have hinv := hst.inv
      have HX := Lib.hid (And.intro hbA (And.intro hbl (And.intro hbc (And.intro hbn (And.intro hdem (And.intro hlen (And.intro hp (And.intro hL0 (And.intro hL1 (And.intro hL2 (And.intro hinv hst.bel)))))))))))
      clear hst hF hn hall hbA hbl hbc hbn hbb hbm hdem hlen hL0 hL1 hL2 h3 hp hinv
      go_wp2_with fail
      refine (part_any _ _ _ _ _ _ 0 aA F n cA L0 _ HX.out.2.2.2.2.1 HX.out.1 HX.out.2.1 HX.out.2.2.1 hbm' HX.out.2.2.2.1 (by rw [HX.out.2.2.2.2.2.2.1 0 (by have h1 := HX.out.2.1; have h2 := HX.out.2.2.2.2.2.1; omega)]; exact HX.out.2.2.2.2.2.2.2.1.symm) (by omega)).mono ?_
      rintro e w2 ⟨p0, c0, rfl, _, _, ho2⟩
      have HY := Lib.hid (And.intro (HX.out.2.2.2.2.1.of_only ho2 (by simp) (by simp)) (And.intro (HX.out.1.of_only ho2 (.inr (by intro ad e; simp))) (HX.out.2.2.2.2.2.2.2.2.2.2.2.trans (ho2.below HX.out.2.2.2.2.2.2.2.2.2.2.2.size (by simp)))))
      clear ho2
      go_wp2_with fail
      refine (part_any _ _ _ _ _ _ 1 aA F n cA L1 _ HY.out.1 HY.out.2.1 HX.out.2.1 HX.out.2.2.1 hbm' HX.out.2.2.2.1 (by rw [HX.out.2.2.2.2.2.2.1 1 (by have h1 := HX.out.2.1; have h2 := HX.out.2.2.2.2.2.1; omega)]; exact HX.out.2.2.2.2.2.2.2.2.1.symm) (by omega)).mono ?_
      rintro e w3 ⟨p1, c1, rfl, _, _, ho3⟩
      have HZ := Lib.hid (And.intro (HY.out.1.of_only ho3 (by simp) (by simp)) (And.intro (HY.out.2.1.of_only ho3 (.inr (by intro ad e; simp))) (HY.out.2.2.trans (ho3.below HY.out.2.2.size (by simp)))))
      clear ho3
      go_wp2_with fail
      refine (part_any _ _ _ _ _ _ 2 aA F n cA L2 _ HZ.out.1 HZ.out.2.1 HX.out.2.1 HX.out.2.2.1 hbm' HX.out.2.2.2.1 (by rw [HX.out.2.2.2.2.2.2.1 2 (by have h1 := HX.out.2.1; have h2 := HX.out.2.2.2.2.2.1; omega)]; exact HX.out.2.2.2.2.2.2.2.2.2.1.symm) (by omega)).mono ?_
      rintro e w4 ⟨p2, c2, rfl, _, _, ho4⟩
      have HU := Lib.hid (And.intro (HZ.out.1.of_only ho4 (by simp) (by simp)) (HZ.out.2.2.trans (ho4.below HZ.out.2.2.size (by simp))))
      clear ho4
      go_wp2_with fail
      refine (segments_any _ _ _ _ _ _ _ HU.out.1).mono ?_
      rintro e w5 ⟨v6, rfl, hown, ho5⟩
      obtain ⟨K5, hK5⟩ : ∃ K, K = ss.length := ⟨_, rfl⟩
      have hKl : K5 ≤ 1048576 := by have := HU.out.1.cnt; omega
      rw [← hK5] at hown
      obtain ⟨a6, c6, hv6⟩ := own_slice hown
      subst hv6
      have HV := Lib.hid (And.intro hown (And.intro hK5 (And.intro (HU.out.1.of_only ho5 (by simp) (by simp)) (HU.out.2.trans (ho5.below HU.out.2.size (by simp))))))
      clear hown ho5 hK5
      go_wp2_with fail
      clear hs3
      go_loopw [12, 66] (fun s i wq => SRel ss K5 w5 s i wq) (fun _ i _ => K5 - (intOf i).toNat)
      case atStart => exact ⟨0, Nat.zero_le _, rfl, rfl, Only.refl _ _⟩
      case round =>
        obtain ⟨j, hj, rfl, rfl, ho⟩ := hrel
        by_cases hjl : j < K5
        · obtain ⟨x, hx⟩ : ∃ x, ss[j]? = some x := ⟨_, List.getElem?_eq_getElem (by rw [← HV.out.2.1]; exact hjl)⟩
          have hrow := ownsRow_only HV.out.1 ho (by simp)
          obtain ⟨g, cv', hvv, x0, x1, x2⟩ := row_cell' hrow HV.out.2.1.symm j x hx
          simp only [Value.slice.injEq, true_and] at hvv
          obtain ⟨rfl, rfl⟩ := hvv
          obtain ⟨S, hS⟩ : ∃ S, S = sumS (ss.take j) := ⟨_, rfl⟩
          have hnx : sumS (ss.take (j + 1)) = S + x.s := by rw [take_snocS ss j x hx, sumS_append, ← hS]; simp [sumS]
          have hsum : S + x.s ≤ 1048576 := by
            have h1 : ss = ss.take (j + 1) ++ ss.drop (j + 1) := (List.take_append_drop _ _).symm
            have h2 := HX.out.2.2.2.2.2.2.2.2.2.2.1.sum
            rw [h1, sumS_append, hnx, HX.out.2.2.2.2.2.1] at h2
            omega
          rw [← hS]
          obtain ⟨xm, xf, xs⟩ := x
          simp only at x0 x1 x2 hnx hsum
          have HW := Lib.hid (And.intro hnx ho)
          clear hx hrow hS hnx ho
          go_wp2
          go_roundw
          case rel => exact ⟨j + 1, by omega, by go_num, by rw [HW.out.1]; go_num, HW.out.2.alloc _⟩
          case measure => simp [intOf]; omega
        · obtain rfl : j = K5 := by omega
          have hsn : sumS (ss.take j) = n := by
            rw [List.take_of_length_le (by rw [HV.out.2.1]; exact Nat.le_refl _), HX.out.2.2.2.2.2.2.2.2.2.2.1.sum]; exact HX.out.2.2.2.2.2.1
          rw [hsn]
          have HO := Lib.hid ho
          clear ho hsn
          go_wp2_with fail
          refine (len_any _ _ _ _ _ _ _ (HV.out.2.2.1.of_only HO.out (by simp) (by simp))).mono ?_
          rintro e wz ⟨rfl, rfl⟩
          go_wp2
          go_ret
          exact ⟨rfl, H1.out.1.trans ((HV.out.2.2.2.trans (HO.out.below HV.out.2.2.2.size (by simp))).mono hsz)⟩

end Go.Proofs.Ytmikfnnaiojpiaa
