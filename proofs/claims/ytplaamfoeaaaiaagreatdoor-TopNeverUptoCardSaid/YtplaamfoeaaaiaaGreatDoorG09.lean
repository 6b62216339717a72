/- A part of the proofs of the laws of lifelinetop (TopNever, TopLost, TopRoom): contracts of functions that these laws reach. No condition of its own. -/
import Derived.Test.YtplaamfoeaaaiaaGreatDoorG02
import Derived.Test.YtplaamfoeaaaiaaGreatDoorG04
import Derived.Test.YtplaamfoeaaaiaaGreatDoorG08
import Derived.Deep.DeepCutAuto
import Derived.StillTailTactics
import Derived.Laws.ResultCell
set_option maxRecDepth 100000
set_option maxHeartbeats 8000000
set_option linter.unusedVariables false
namespace Go.Proofs.YtplaamfoeaaaiaaGreatDoor
open Go.RowKit
theorem sput_any (S : Nat) (ro : List Nat) (s : M.Snd) (b : UInt8) (w : World) (h : Snded w S ro s) (hf : Fine s) :
    Calls Tryz.prog 227 #[.pointer (some ⟨S, 0, none⟩), byteV b] w (SPost w S ro (s.put b)) := by
  obtain ⟨a, c, h1, hb, hc⟩ := h.str
  have c9 : w.cell? ⟨S, 9, none⟩ = some (.bool s.can) := cell_at h1 rfl
  obtain ⟨tw, htw⟩ : ∃ tw, tw = (s.can && b == 24) := ⟨_, rfl⟩
  have H := LH (AI h (AI hf htw))
  have HS := LH (AI h1 (AI hb hc))
  clear h hf h1 hb hc
  go_enter Tryz.func227, Tryz.ntmps227
  go_upto_region 1 with fail
  go_cut [5] (fun s5 wx => s5 = .bool tw ∧ wx = w)
  case first =>
    have HT := LH htw
    cases hcan : s.can with
    | true =>
      rw [hcan] at c9 htw
      have ht : tw = ((b.toNat : Int) == 24) := by
        rw [htw, Bool.eq_iff_iff]
        simp
        rw [← UInt8.toNat_inj]
        simp; omega
      have HTT := LH ht
      clear ht htw hcan
      go_wp2_with fail
      go_meet
      exact ⟨by rw [HTT.out], rfl⟩
    | false =>
      rw [hcan] at c9 htw
      have ht : tw = false := by rw [htw]; rfl
      have HTT := LH ht
      clear ht htw hcan
      go_wp2_with fail
      go_meet
      exact ⟨by rw [HTT.out], rfl⟩
  case rest =>
    obtain ⟨rfl, rfl⟩ := hcut
    obtain ⟨h, hf, -⟩ := H.out
    obtain ⟨h1, hb, hc⟩ := HS.out
    clear c9
    have hcw := h.cw
    have c4 : wc.cell? ⟨S, 4, none⟩ = some (.bool s.crc) := cell_at h1 rfl
    have c5 : wc.cell? ⟨S, 5, none⟩ = some (.int .i64 s.phase) := cell_at h1 rfl
    have c6 : wc.cell? ⟨S, 6, none⟩ = some (.int .i64 s.at_) := cell_at h1 rfl
    have c9 : wc.cell? ⟨S, 9, none⟩ = some (.bool s.can) := cell_at h1 rfl
    have f4 : wc.frozen? ⟨S, 4, none⟩ = false := free_at h1
    have f6 : wc.frozen? ⟨S, 6, none⟩ = false := free_at h1
    have f9 : wc.frozen? ⟨S, 9, none⟩ = false := free_at h1
    have hph := h.ph
    have hal := h.atl
    have hbl := h.bl
    obtain ⟨cn, hcn⟩ : ∃ cn, cn = (b == 24) := ⟨_, rfl⟩
    have hcn' : ((b.toNat : Int) == 24) = cn := by
      rw [hcn, Bool.eq_iff_iff]
      simp
      rw [← UInt8.toNat_inj]
      simp; omega
    have o1 : Only [S] wc (wc.setCell ⟨S, 9, none⟩ (.bool cn)) := (Only.refl _ _).setCell (by simp) _
    have q1 : (wc.setCell ⟨S, 9, none⟩ (.bool cn)).heap[S]? = some (.cells (sndA { s with can := cn } a c) 241 (0, 0)) := hs_same h1 rfl
    have hs1 : Snded (wc.setCell ⟨S, 9, none⟩ (.bool cn)) S ro { s with can := cn } := h.turn hb hc q1 o1 rfl rfl h.tr h.lw h.ph h.atl h.er
    have ht2 : ∀ w' k, w'.heap[S]? = some (.cells (sndA { s with can := cn, crc := k } a c) 241 (0, 0)) → Only [S] wc w' → Snded w' S ro { s with can := cn, crc := k } := fun w' k e o => h.turn hb hc e o rfl rfl h.tr h.lw h.ph h.atl h.er
    have hcf : b ≠ 24 → cn = false := fun e => by rw [hcn]; simpa using e
    have HCF := LH hcf
    have HCN := LH hcn
    have HT := LH (AI o1 (AI q1 (AI hs1 ht2)))
    have HF := LH hf
    have HTW := LH htw
    have hput : s.put b = (if s.phase = 3 then ([], { s with can := cn }) else if tw = true then M.Snd.end_ { s with can := cn } 9
      else if s.phase = 0 ∧ (b = 21 ∨ b = 67 ∧ s.crc = true) then M.Snd.next { s with can := cn, crc := b == 67 } else if s.phase = 0 then ([], { s with can := cn })
      else if b = 6 then M.Snd.next { s with can := cn, at_ := if s.phase = 1 then s.at_ + 1 else s.at_ } else if b = 21 then M.Snd.again { s with can := cn } else ([], { s with can := cn })) := by
      rw [hcn, htw]; rfl
    have HP := LH hput
    clear h hf h1 hb hc hcn htw hcf o1 q1 hs1 ht2 hput
    by_cases p3 : s.phase = 3
    · rw [p3] at c5
      have HN : Hid (s.put b = ([], { s with can := cn })) := by rw [HP.out, if_pos p3]; exact rfl
      clear p3 hph
      go_wp2_with fail
      go_ret
      rw [HN.out]
      exact ⟨_, rfl, Out.nil _ _, HT.out.2.2.1, HT.out.1⟩
    · have d3 : ((s.phase : Int) == 3) = false := by simp; omega
      cases tw with
      | true =>
        have HN : Hid (s.put b = M.Snd.end_ { s with can := cn } 9) := by rw [HP.out, if_neg p3, if_pos rfl]; exact rfl
        clear p3 hph
        go_wp2_with (first | (go_at_call 230; refine (send_nine S ro { s with can := cn } _ HT.out.2.2.1).mono ?_; rintro e w2 ⟨v, rfl, e1, e2, e3⟩))
        go_ret
        rw [HN.out]
        exact SPost.after HT.out.1 e1 e2 e3
      | false =>
        by_cases p0 : s.phase = 0
        · rw [p0] at c5
          by_cases b21 : b = 21
          · obtain rfl : cn = false := HCF.out (by rw [b21]; decide)
            subst b21
            clear hcn'
            have HN : Hid (s.put 21 = M.Snd.next { s with can := false, crc := false }) := by rw [HP.out, if_neg p3, if_neg (by simp), if_pos ⟨p0, .inl rfl⟩]; exact rfl
            clear p3 hph d3
            go_wp2_with (first | (go_at_call 231; refine (next_any S ro { s with can := false, crc := false } _ (HT.out.2.2.2 _ false (hs_same HT.out.2.1 rfl) (HT.out.1.setCell (by simp) _))).mono ?_; rintro e w2 ⟨v, rfl, e1, e2, e3⟩))
            go_ret
            rw [HN.out]
            exact SPost.after (HT.out.1.setCell (by simp) _) e1 e2 e3
          · have d21 : ((b.toNat : Int) == 21) = false := byte_ne b21
            by_cases g : b = 67 ∧ s.crc = true
            · obtain ⟨g1, g2⟩ := g
              obtain rfl : cn = false := HCF.out (by rw [g1]; decide)
              subst g1
              clear hcn'
              rw [g2] at c4
              have HN : Hid (s.put 67 = M.Snd.next { s with can := false, crc := true }) := by rw [HP.out, if_neg p3, if_neg (by simp), if_pos ⟨p0, .inr ⟨rfl, g2⟩⟩]; exact rfl
              clear p3 hph d3
              go_wp2_with (first | (go_at_call 231; refine (next_any S ro { s with can := false, crc := true } _ (HT.out.2.2.2 _ true (hs_same HT.out.2.1 rfl) (HT.out.1.setCell (by simp) _))).mono ?_; rintro e w2 ⟨v, rfl, e1, e2, e3⟩))
              go_ret
              rw [HN.out]
              exact SPost.after (HT.out.1.setCell (by simp) _) e1 e2 e3
            · have HN : Hid (s.put b = ([], { s with can := cn })) := by
                rw [HP.out, if_neg p3, if_neg (by simp), if_neg (fun e => e.2.elim b21 g), if_pos p0]; exact rfl
              clear p3 hph d3
              by_cases b67 : b = 67
              · have g2 : s.crc = false := by cases hcr : s.crc with
                  | false => rfl
                  | true => exact absurd ⟨b67, hcr⟩ g
                rw [g2] at c4
                obtain rfl : cn = false := HCF.out (by rw [b67]; decide)
                subst b67
                clear hcn'
                go_wp2_with fail
                go_ret
                rw [HN.out]
                exact ⟨_, rfl, Out.nil _ _, HT.out.2.2.1, HT.out.1⟩
              · have d67 : ((b.toNat : Int) == 67) = false := byte_ne b67
                clear b67 g b21
                go_wp2_with fail
                go_ret
                rw [HN.out]
                exact ⟨_, rfl, Out.nil _ _, HT.out.2.2.1, HT.out.1⟩
        · have d0 : ((s.phase : Int) == 0) = false := by simp; omega
          have hfat : s.phase = 1 → s.at_ < s.blocks.length := HF.out.1
          by_cases b6 : b = 6
          · obtain rfl : cn = false := HCF.out (by rw [b6]; decide)
            subst b6
            clear hcn'
            by_cases p1 : s.phase = 1
            · have hlt := hfat p1
              have HN : Hid (s.put 6 = M.Snd.next { s with can := false, at_ := s.at_ + 1 }) := by rw [HP.out, if_neg p3, if_neg (by simp), if_neg (fun e => p0 e.1), if_neg p0, if_pos rfl, if_pos p1]; exact rfl
              have hsn : Snded ((wc.setCell ⟨S, 9, none⟩ (.bool false)).setCell ⟨S, 6, none⟩ (.int .i64 (s.at_ + 1 : Nat))) S ro { s with can := false, at_ := s.at_ + 1 } := by
                have h := H.out.1
                exact h.turn HS.out.2.1 HS.out.2.2 (hs_same HT.out.2.1 rfl) (HT.out.1.setCell (by simp) _) rfl rfl h.tr h.lw h.ph (by simp; omega) h.er
              have HSN := LH hsn
              rw [p1] at c5
              clear p3 hph d3 d0 p0 p1 hsn hfat
              go_wp2_with (first | (go_at_call 231; refine (next_any S ro { s with can := false, at_ := s.at_ + 1 } _ HSN.out).mono ?_; rintro e w2 ⟨v, rfl, e1, e2, e3⟩))
              go_ret
              rw [HN.out]
              exact SPost.after (HT.out.1.setCell (by simp) _) e1 e2 e3
            · have HN : Hid (s.put 6 = M.Snd.next { s with can := false }) := by
                rw [HP.out, if_neg p3, if_neg (by simp), if_neg (fun e => p0 e.1), if_neg p0, if_pos rfl, if_neg p1]; exact rfl
              have d1 : ((s.phase : Int) == 1) = false := by simp; omega
              clear p3 hph p0 p1 hfat
              go_wp2_with (first | (go_at_call 231; refine (next_any S ro { s with can := false } _ HT.out.2.2.1).mono ?_; rintro e w2 ⟨v, rfl, e1, e2, e3⟩))
              go_ret
              rw [HN.out]
              exact SPost.after HT.out.1 e1 e2 e3
          · have d6 : ((b.toNat : Int) == 6) = false := byte_ne b6
            by_cases b21 : b = 21
            · obtain rfl : cn = false := HCF.out (by rw [b21]; decide)
              subst b21
              clear hcn'
              have HN : Hid (s.put 21 = M.Snd.again { s with can := false }) := by rw [HP.out, if_neg p3, if_neg (by simp), if_neg (fun e => p0 e.1), if_neg p0, if_neg b6, if_pos rfl]; exact rfl
              have HFA := LH hfat
              clear p3 hph p0 hfat b6 d6
              go_wp2_with (first | (go_at_call 232; refine (again_any S ro { s with can := false } _ HT.out.2.2.1 HFA.out).mono ?_; rintro e w2 ⟨v, rfl, e1, e2, e3⟩))
              go_ret
              rw [HN.out]
              exact SPost.after HT.out.1 e1 e2 e3
            · have d21 : ((b.toNat : Int) == 21) = false := byte_ne b21
              have HN : Hid (s.put b = ([], { s with can := cn })) := by rw [HP.out, if_neg p3, if_neg (by simp), if_neg (fun e => p0 e.1), if_neg p0, if_neg b6, if_neg b21]; exact rfl
              clear p3 hph p0 hfat b6 b21
              go_wp2_with fail
              go_ret
              rw [HN.out]
              exact ⟨_, rfl, Out.nil _ _, HT.out.2.2.1, HT.out.1⟩
def bitN (c : UInt8) (k : Nat) : Nat := if c.toNat / 64 = k then 2 ^ (c.toNat % 64) else 0
abbrev bitV (c : UInt8) (k : Nat) : Value := .int .u64 (bitN c k)
theorem or_pow (r : Nat) (h : r < 64) : bits BinOp.or IntKind.u64 0 (IntKind.u64.wrap (2 ^ r)) = ((2 ^ r : Nat) : Int) := by
  have : ∀ r : Fin 64, bits BinOp.or IntKind.u64 0 (IntKind.u64.wrap (2 ^ r.val)) = ((2 ^ r.val : Nat) : Int) := by decide +kernel
  exact this ⟨r, h⟩
theorem size224 : (Tryz.prog.info? 224).map (·.size) = some 4 := by kernel_rfl
theorem with_case (n q r : Nat) (hn : n < 256) (hq0 : n / 64 = q) (hr0 : n % 64 = r) (w : World) :
    Calls Tryz.prog 180 #[.agg #[.int .u64 0, .int .u64 0, .int .u64 0, .int .u64 0], .int .u8 n] w fun e w' => e = .returned (.agg (((List.replicate 4 (Value.int .u64 0)).set q (.int .u64 (2 ^ r : Nat)))).toArray) ∧ Only [] w w' := by
  have hr : r < 64 := by omega
  have hq : q < 4 := by omega
  have e1 : ((n : Int) / 64 % 256) = q := by omega
  have e2 : ((n : Int) % 64 % 256) = r := by omega
  have hb : bits BinOp.or IntKind.u64 0 (IntKind.u64.wrap (2 ^ (n % 64))) = ((2 ^ r : Nat) : Int) := by rw [hr0]; exact or_pow r hr
  have HB := LH hb
  clear hq0 hr0 hn hb
  match q, hq with
  | 0, _ =>
    go_enter Tryz.func180, Tryz.ntmps180
    go_wp2_with fail
    rw [HB.out]
    have o2 : Only [] w ((w.alloc (.cells #[.int .u64 (2 ^ r : Nat), .int .u64 0, .int .u64 0, .int .u64 0] 224)).alloc (.cells #[.int .u64 (2 ^ r : Nat), .int .u64 0, .int .u64 0, .int .u64 0] 224)) := ((Only.refl [] w).alloc _).alloc _
    refine bodyPost_ret (results_cell_row (p := 4) (ty := 224) (cs := #[.int .u64 (2 ^ r : Nat), .int .u64 0, .int .u64 0, .int .u64 0]) rfl _ _ (w.heap.size + 1) 224 (fr := (0, 0)) _ rfl (by have := heap_alloc_new (w.alloc (.cells #[.int .u64 (2 ^ r : Nat), .int .u64 0, .int .u64 0, .int .u64 0] 224)) (.cells #[.int .u64 (2 ^ r : Nat), .int .u64 0, .int .u64 0, .int .u64 0] 224); simpa using this) Tryz.underlying224 rfl size224) rfl ?_
    exact ⟨rfl, o2⟩
  | 1, _ =>
    go_enter Tryz.func180, Tryz.ntmps180
    go_wp2_with fail
    rw [HB.out]
    have o2 : Only [] w ((w.alloc (.cells #[.int .u64 0, .int .u64 (2 ^ r : Nat), .int .u64 0, .int .u64 0] 224)).alloc (.cells #[.int .u64 0, .int .u64 (2 ^ r : Nat), .int .u64 0, .int .u64 0] 224)) := ((Only.refl [] w).alloc _).alloc _
    refine bodyPost_ret (results_cell_row (p := 4) (ty := 224) (cs := #[.int .u64 0, .int .u64 (2 ^ r : Nat), .int .u64 0, .int .u64 0]) rfl _ _ (w.heap.size + 1) 224 (fr := (0, 0)) _ rfl (by have := heap_alloc_new (w.alloc (.cells #[.int .u64 0, .int .u64 (2 ^ r : Nat), .int .u64 0, .int .u64 0] 224)) (.cells #[.int .u64 0, .int .u64 (2 ^ r : Nat), .int .u64 0, .int .u64 0] 224); simpa using this) Tryz.underlying224 rfl size224) rfl ?_
    exact ⟨rfl, o2⟩
  | 2, _ =>
    go_enter Tryz.func180, Tryz.ntmps180
    go_wp2_with fail
    rw [HB.out]
    have o2 : Only [] w ((w.alloc (.cells #[.int .u64 0, .int .u64 0, .int .u64 (2 ^ r : Nat), .int .u64 0] 224)).alloc (.cells #[.int .u64 0, .int .u64 0, .int .u64 (2 ^ r : Nat), .int .u64 0] 224)) := ((Only.refl [] w).alloc _).alloc _
    refine bodyPost_ret (results_cell_row (p := 4) (ty := 224) (cs := #[.int .u64 0, .int .u64 0, .int .u64 (2 ^ r : Nat), .int .u64 0]) rfl _ _ (w.heap.size + 1) 224 (fr := (0, 0)) _ rfl (by have := heap_alloc_new (w.alloc (.cells #[.int .u64 0, .int .u64 0, .int .u64 (2 ^ r : Nat), .int .u64 0] 224)) (.cells #[.int .u64 0, .int .u64 0, .int .u64 (2 ^ r : Nat), .int .u64 0] 224); simpa using this) Tryz.underlying224 rfl size224) rfl ?_
    exact ⟨rfl, o2⟩
  | 3, _ =>
    go_enter Tryz.func180, Tryz.ntmps180
    go_wp2_with fail
    rw [HB.out]
    have o2 : Only [] w ((w.alloc (.cells #[.int .u64 0, .int .u64 0, .int .u64 0, .int .u64 (2 ^ r : Nat)] 224)).alloc (.cells #[.int .u64 0, .int .u64 0, .int .u64 0, .int .u64 (2 ^ r : Nat)] 224)) := ((Only.refl [] w).alloc _).alloc _
    refine bodyPost_ret (results_cell_row (p := 4) (ty := 224) (cs := #[.int .u64 0, .int .u64 0, .int .u64 0, .int .u64 (2 ^ r : Nat)]) rfl _ _ (w.heap.size + 1) 224 (fr := (0, 0)) _ rfl (by have := heap_alloc_new (w.alloc (.cells #[.int .u64 0, .int .u64 0, .int .u64 0, .int .u64 (2 ^ r : Nat)] 224)) (.cells #[.int .u64 0, .int .u64 0, .int .u64 0, .int .u64 (2 ^ r : Nat)] 224); simpa using this) Tryz.underlying224 rfl size224) rfl ?_
    exact ⟨rfl, o2⟩
theorem bitV_eq (c : UInt8) (k q r : Nat) (hq : c.toNat / 64 = q) (hr : c.toNat % 64 = r) : bitV c k = if q = k then .int .u64 (2 ^ r : Nat) else .int .u64 0 := by
  unfold bitV bitN
  rw [hq, hr]
  split <;> rfl
theorem with_any (c : UInt8) (w : World) :
    Calls Tryz.prog 180 #[.agg #[.int .u64 0, .int .u64 0, .int .u64 0, .int .u64 0], byteV c] w fun e w' => e = .returned (.agg #[bitV c 0, bitV c 1, bitV c 2, bitV c 3]) ∧ Only [] w w' := by
  have hc : c.toNat < 256 := c.toNat_lt
  refine (with_case c.toNat _ _ hc rfl rfl w).mono ?_
  rintro e w' ⟨rfl, ho⟩
  refine ⟨?_, ho⟩
  rw [bitV_eq c 0 _ _ rfl rfl, bitV_eq c 1 _ _ rfl rfl, bitV_eq c 2 _ _ rfl rfl, bitV_eq c 3 _ _ rfl rfl]
  have hq : c.toNat / 64 < 4 := by omega
  generalize c.toNat / 64 = q at hq
  match q, hq with
  | 0, _ => rfl
  | 1, _ => rfl
  | 2, _ => rfl
  | 3, _ => rfl
abbrev RdAt (w : World) (R : Nat) (s : ByteArray) (k : Nat) : Prop := w.heap[R]? = some (.cells #[.string s, .int .i64 k] 262 (0, 0))
def plainC (c : Nat) : Prop := c ≠ 40 ∧ c ≠ 41 ∧ c ≠ 91 ∧ c ≠ 93 ∧ c ≠ 46 ∧ c ≠ 42 ∧ c ≠ 43 ∧ c ≠ 63 ∧ c ≠ 124 ∧ c ≠ 92
theorem more_yes (R : Nat) (s : ByteArray) (k : Nat) (w : World) (h : RdAt w R s k) (hk : k < s.size) :
    Calls Tryz.prog 123 #[.pointer (some ⟨R, 0, none⟩)] w fun e w' => e = .returned (.bool true) ∧ ∃ m, w' = w.drewN m := by
  have c0 : w.cell? ⟨R, 0, none⟩ = some (.string s) := cell_at h rfl
  have c1 : w.cell? ⟨R, 1, none⟩ = some (.int .i64 k) := cell_at h rfl
  have k1 : ((k : Int) < (s.size : Int)) := by omega
  clear h
  go_enter Tryz.func123, Tryz.ntmps123
  go_wp2_with fail
  go_quiet (fail)
  go_wp2_with fail
  go_ret
  exact ⟨rfl, _, rfl⟩
theorem more_no (R : Nat) (s : ByteArray) (w : World) (h : RdAt w R s s.size) :
    Calls Tryz.prog 123 #[.pointer (some ⟨R, 0, none⟩)] w fun e w' => e = .returned (.bool false) ∧ ∃ m, w' = w.drewN m := by
  have c0 : w.cell? ⟨R, 0, none⟩ = some (.string s) := cell_at h rfl
  have c1 : w.cell? ⟨R, 1, none⟩ = some (.int .i64 s.size) := cell_at h rfl
  clear h
  go_enter Tryz.func123, Tryz.ntmps123
  go_wp2_with fail
  go_quiet (fail)
  go_wp2_with fail
  go_ret
  exact ⟨by simp, _, rfl⟩
theorem is_no (R : Nat) (s : ByteArray) (k : Nat) (c : Int) (w : World) (h : RdAt w R s k) (hk : k < s.size) (hne : ((s[k].toNat : Nat) : Int) ≠ c) :
    Calls Tryz.prog 140 #[.pointer (some ⟨R, 0, none⟩), .int .u8 c] w fun e w' => e = .returned (.bool false) ∧ ∃ m, w' = w.drewN m := by
  have c0 : w.cell? ⟨R, 0, none⟩ = some (.string s) := cell_at h rfl
  have c1 : w.cell? ⟨R, 1, none⟩ = some (.int .i64 k) := cell_at h rfl
  have k1 : ((k : Int) < (s.size : Int)) := by omega
  have k2 : (0 : Int) ≤ (k : Int) := by omega
  have HM := fun n => more_yes R s k (w.drewN n) h hk
  have hf : (((s[k].toNat : Nat) : Int) == c) = false := by simpa using hne
  have HF := LH hf
  clear h hf hne
  go_enter Tryz.func140, Tryz.ntmps140
  go_wp2_with fail
  go_quiet ((go_at_call 123; exact Calls.quiet_of (HM _)))
  go_wp2_with fail
  go_ret
  exact ⟨by show Ending.returned (Value.bool (((s[k].toNat : Nat) : Int) == c)) = _; rw [HF.out], _, rfl⟩
theorem is_end (R : Nat) (s : ByteArray) (c : Int) (w : World) (h : RdAt w R s s.size) :
    Calls Tryz.prog 140 #[.pointer (some ⟨R, 0, none⟩), .int .u8 c] w fun e w' => e = .returned (.bool false) ∧ ∃ m, w' = w.drewN m := by
  have HM := fun n => more_no R s (w.drewN n) h
  clear h
  go_enter Tryz.func140, Tryz.ntmps140
  go_wp2_with fail
  go_quiet ((go_at_call 123; exact Calls.quiet_of (HM _)))
  go_wp2_with fail
  go_ret
  exact ⟨rfl, _, rfl⟩
theorem rplain_any (R : Nat) (s : ByteArray) (k : Nat) (w : World) (h : RdAt w R s k) (hk : k < s.size) (hs : s.size ≤ 1000) (hne : s[k].toNat ≠ 92) :
    Calls Tryz.prog 179 #[.pointer (some ⟨R, 0, none⟩)] w fun e w' => e = .returned (.tuple #[byteV s[k], .nilIface]) ∧ RdAt w' R s (k + 1) ∧ Only [R] w w' := by
  have c0 : w.cell? ⟨R, 0, none⟩ = some (.string s) := cell_at h rfl
  have c1 : w.cell? ⟨R, 1, none⟩ = some (.int .i64 k) := cell_at h rfl
  have f1 : w.frozen? ⟨R, 1, none⟩ = false := free_at h
  have k1 : ((k : Int) < (s.size : Int)) := by omega
  have k2 : (0 : Int) ≤ (k : Int) := by omega
  have HM := more_yes R s k w h hk
  have hf : (((s[k].toNat : Nat) : Int) == 92) = false := by simp; omega
  have HH := LH h
  clear h hne
  go_enter Tryz.func179, Tryz.ntmps179
  go_upto_region 3 with (go_at_call 123; refine (HM).mono ?_; rintro e w1 ⟨rfl, m, rfl⟩)
  go_quiet (fail)
  go_wp2_with fail
  go_ret2
  have ho : Only [R] w ((w.drewN (m + nq)).setCell ⟨R, 1, none⟩ (.int .i64 ((k : Int) + 1))) := ((Only.refl [R] w).drewN _).setCell (by simp) _
  exact ⟨rfl, hs_same (by exact HH.out) (by simp), ho⟩
theorem results_two {P : Program} {fn : Func} {p u : Tmp} {ty : TypeId} (h : fn.results = #[.cell p ty, .tmp u]) (tmps : Array Value) (w : World) (g : Nat) (t : TypeId) (cs : Array Value) (fr : Nat × Nat) (d : TypeDesc) (v : Value)
    (hp : tmps.getD p undef = .pointer (some ⟨g, 0, none⟩)) (hv : tmps.getD u undef = v) (hg : w.heap[g]? = some (.cells cs t fr))
    (hu : P.underlying ty = some d) (hd : (match d with | .struct _ | .array _ _ => true | _ => false) = true) (hi : (P.info? ty).map (·.size) = some cs.size) :
    (results fn tmps).run P w = .ok (.tuple #[.agg cs, v]) w := by
  rw [results_cell_tmp h, hp, hv]
  simp only [asAddr, Result.andThen]
  simp [run_loadVar_row w g t ty cs fr d hg hu hd hi]
theorem size227 : (Tryz.prog.info? 227).map (·.size) = some 6 := by kernel_rfl
theorem node_cells {w : World} {N : Nat} {x0 x1 x2 x3 x4 x5 : Value} {t : TypeId} (h : w.heap[N]? = some (.cells #[x0, x1, x2, x3, x4, x5] t (0, 0))) :
    w.cell? ⟨N, 0, none⟩ = some x0 ∧ w.cell? ⟨N, 1, none⟩ = some x1 ∧ w.cell? ⟨N, 2, none⟩ = some x2 ∧ w.cell? ⟨N, 3, none⟩ = some x3 ∧ w.cell? ⟨N, 4, none⟩ = some x4 ∧ w.cell? ⟨N, 5, none⟩ = some x5 :=
  ⟨cell_at h rfl, cell_at h rfl, cell_at h rfl, cell_at h rfl, cell_at h rfl, cell_at h rfl⟩
theorem node_free {w : World} {N : Nat} {c : Array Value} {t : TypeId} (h : w.heap[N]? = some (.cells c t (0, 0))) :
    w.frozen? ⟨N, 0, none⟩ = false ∧ w.frozen? ⟨N, 1, none⟩ = false ∧ w.frozen? ⟨N, 2, none⟩ = false ∧ w.frozen? ⟨N, 3, none⟩ = false ∧ w.frozen? ⟨N, 4, none⟩ = false ∧ w.frozen? ⟨N, 5, none⟩ = false :=
  ⟨free_at h, free_at h, free_at h, free_at h, free_at h, free_at h⟩
theorem six_set {w : World} {g : Nat} {x0 x1 x2 x3 x4 x5 : Value} {t : TypeId} (h : w.heap[g]? = some (.cells #[x0, x1, x2, x3, x4, x5] t (0, 0))) (a b c d e f : Value) :
    ((((((w.setCell ⟨g, 0, none⟩ a).setCell ⟨g, 1, none⟩ b).setCell ⟨g, 2, none⟩ c).setCell ⟨g, 3, none⟩ d).setCell ⟨g, 4, none⟩ e).setCell ⟨g, 5, none⟩ f).heap[g]? = some (.cells #[a, b, c, d, e, f] t (0, 0)) :=
  hs_same (hs_same (hs_same (hs_same (hs_same (hs_same h rfl) rfl) rfl) rfl) rfl) rfl
theorem six_only (w : World) (N : Nat) (v0 v1 v2 v3 v4 v5 : Value) : Only [N] w ((((((w.setCell ⟨N, 0, none⟩ v0).setCell ⟨N, 1, none⟩ v1).setCell ⟨N, 2, none⟩ v2).setCell ⟨N, 3, none⟩ v3).setCell ⟨N, 4, none⟩ v4).setCell ⟨N, 5, none⟩ v5) :=
  (((((((Only.refl [N] w).setCell (by simp) v0).setCell (by simp) v1).setCell (by simp) v2).setCell (by simp) v3).setCell (by simp) v4).setCell (by simp) v5)
abbrev zeroNode : Array Value := #[.int .i64 0, .int .u64 0, .int .u64 0, .int .u64 0, .int .u64 0, .slice none 0 0]
theorem rone_any (R : Nat) (s : ByteArray) (k : Nat) (dp : Int) (w : World) (h : RdAt w R s k) (hk : k < s.size) (hs : s.size ≤ 1000) (hne : plainC s[k].toNat) :
    Calls Tryz.prog 169 #[.pointer (some ⟨R, 0, none⟩), .int .i64 dp] w fun e w' => e = .returned (.tuple #[.agg #[.int .i64 1, bitV s[k] 0, bitV s[k] 1, bitV s[k] 2, bitV s[k] 3, .slice none 0 0], .nilIface]) ∧ RdAt w' R s (k + 1) ∧ Only [R] w w' := by
  have c0 : w.cell? ⟨R, 0, none⟩ = some (.string s) := cell_at h rfl
  have c1 : w.cell? ⟨R, 1, none⟩ = some (.int .i64 k) := cell_at h rfl
  have k1 : ((k : Int) < (s.size : Int)) := by omega
  have k2 : (0 : Int) ≤ (k : Int) := by omega
  have hR := heap_lt h
  have HP := fun wx (ho : Only [] w wx) => rplain_any R s k wx (ho.heap h (by simp)) hk hs hne.2.2.2.2.2.2.2.2.2
  have HW := fun wx => with_any s[k] wx
  obtain ⟨n, hn⟩ : ∃ n : Int, n = ((s[k].toNat : Nat) : Int) := ⟨_, rfl⟩
  obtain ⟨d1, d2, d3, d4, d5, d6, d7, d8, d9, d10⟩ := hne
  have a1 : (n == 40) = false := by simp; omega
  have a2 : (n == 91) = false := by simp; omega
  have a3 : (n == 46) = false := by simp; omega
  have a4 : (n == 42) = false := by simp; omega
  have a5 : (n == 43) = false := by simp; omega
  have a6 : (n == 63) = false := by simp; omega
  have a7 : (n == 93) = false := by simp; omega
  rw [hn] at a1 a2 a3 a4 a5 a6 a7
  clear h d1 d2 d3 d4 d5 d6 d7 d8 d9 d10 hn
  go_enter Tryz.func169, Tryz.ntmps169
  go_wp2_with fail
  go_quiet (fail)
  obtain ⟨w0, hw0⟩ : ∃ w0, w0 = (w.alloc (.cells #[.int .i64 0, .int .u64 0, .int .u64 0, .int .u64 0, .int .u64 0, .slice none 0 0] 227)).drewN nq := ⟨_, rfl⟩
  obtain ⟨N, hN⟩ : ∃ N, N = w.heap.size := ⟨_, rfl⟩
  have hz : w0.heap[N]? = some (.cells zeroNode 227 (0, 0)) := by rw [hw0, hN]; exact heap_alloc_new w _
  have o0 : Only [] w w0 := by rw [hw0]; exact ((Only.refl [] w).alloc _).drewN _
  rw [← hw0, ← hN]
  have hRN : R ≠ N := by omega
  have HZ := LH (AI o0 (AI hz (AI hN hRN)))
  clear hw0 o0 hz hN c0 c1
  go_upto_region 25 with (go_at_call 179; refine (HP _ HZ.out.1).mono ?_; rintro e w1 ⟨rfl, hr1, ho1⟩; have HO1 := LH (AI hr1 ho1); clear hr1 ho1)
  go_upto_region 27 with fail
  go_wp2_with (first | (go_at_call 180; refine (HW _).mono ?_; rintro e w2 ⟨rfl, ho2⟩; have hz2 := ho2.heap (HO1.out.2.heap HZ.out.2.1 (by simpa using hRN.symm)) (by simp); obtain ⟨y0, y1, y2, y3, y4, y5⟩ := node_cells hz2; obtain ⟨z0, z1, z2, z3, z4, z5⟩ := node_free hz2; have HO2 := LH (AI ho2 hz2); clear ho2 hz2))
  have h9 := six_set HO2.out.2 (.int .i64 1) (bitV s[k] 0) (bitV s[k] 1) (bitV s[k] 2) (bitV s[k] 3) (.slice none 0 0)
  refine bodyPost_ret (results_two (p := 4) (ty := 227) (u := 5) (cs := #[.int .i64 1, bitV s[k] 0, bitV s[k] 1, bitV s[k] 2, bitV s[k] 3, .slice none 0 0]) rfl _ _ N 227 (fr := (0, 0)) _ _ rfl rfl h9 Tryz.underlying227 rfl size227) rfl ?_
  have o9 : ∀ v0 v1 v2 v3 v4 v5, Only [R] w ((((((w2.setCell ⟨N, 0, none⟩ v0).setCell ⟨N, 1, none⟩ v1).setCell ⟨N, 2, none⟩ v2).setCell ⟨N, 3, none⟩ v3).setCell ⟨N, 4, none⟩ v4).setCell ⟨N, 5, none⟩ v5) := by
    intro v0 v1 v2 v3 v4 v5
    have hN : w.heap.size ≤ N := by have := HZ.out.2.2.1; omega
    exact (((((((HZ.out.1.weaken (by simp)).trans (HO1.out.2.trans (HO2.out.1.weaken (by simp)))).setFresh hN v0).setFresh hN v1).setFresh hN v2).setFresh hN v3).setFresh hN v4).setFresh hN v5
  refine ⟨rfl, ?_, o9 _ _ _ _ _ _⟩
  exact (six_only w2 N _ _ _ _ _ _).heap (HO2.out.1.heap HO1.out.1 (by simp)) (by simpa using hRN)
end Go.Proofs.YtplaamfoeaaaiaaGreatDoor
