/-
  The contract of (*Demux).Put: one byte more is given to whose turn it is.
-/
import Derived.Test.YtmikfnnaiojpiaaWk
import Derived.BigQuiet
import Derived.Deep.QuietTactic
import Derived.Deep.RegionLaw
import Derived.Deep.AppendLies
import Derived.Deep.DeepCutAuto
namespace Go.Proofs.Ytmikfnnaiojpiaa
open Go.RowKit

theorem bump {w : World} {D base g cap mode n f s : Nat} {pre : List Seg} (hstr : w.heap[D]? = some (.cells #[.int .i64 mode, .int .i64 n, .slice (some ⟨g, 0, none⟩) (pre.length + 1) cap] 48 (0, 0)))
    (hown : w.ownsRow base 31 3 (.slice (some ⟨g, 0, none⟩) (pre.length + 1) cap) (pre.length + 1) (segCells pre ++ [.int .i64 mode, .int .i64 f, .int .i64 s]))
    (hlt : D < base) (hle : base ≤ w.heap.size) (hn : n + 1 ≤ 1099511627776) (hcnt : pre.length ≤ n) (hfit : ∀ x, x ∈ pre → x.f + x.s ≤ n) (hf : f + s ≤ n) :
    Demuxed ((w.setCell ⟨g, pre.length * 3 + 2, none⟩ (.int .i64 ((s : Int) + 1))).setCell ⟨D, 1, none⟩ (.int .i64 ((n : Int) + 1))) D base (.slice (some ⟨g, 0, none⟩) (pre.length + 1) cap) mode (n + 1) (pre ++ [⟨mode, f, s + 1⟩]) := by
  have hg := hown.lt g rfl
  have hst := (hown.stored (pre.length * 3 + 2) (.int .i64 ((s : Int) + 1))).1
  rw [segCells_set] at hst
  have hst2 := ownsRow_only hst (only_set _ D 1 (.int .i64 ((n : Int) + 1))) (fun g' e => by simp [Value.ownBlock] at e; simp; omega)
  refine ⟨?_, ?_, hlt, by simpa using hle, hn, by simp; omega, ?_⟩
  · have h1 : (w.setCell ⟨g, pre.length * 3 + 2, none⟩ (.int .i64 ((s : Int) + 1))).heap[D]? = _ := (heap_set_other (show D ≠ g by omega)).trans hstr
    rw [heap_set_same h1]
    simp
  · have e1 : (pre ++ [(⟨mode, f, s + 1⟩ : Seg)]).length = pre.length + 1 := by simp
    rw [e1, segCells_append]
    exact hst2
  · intro x hx
    rcases List.mem_append.1 hx with h | h
    · have := hfit x h; omega
    · simp at h; subst h; simp only; omega

/-- A row of segments, written out. -/
theorem own_form {w : World} {base : Nat} {v : Value} {n : Nat} {xs : List Value} (h : w.ownsRow base 31 3 v n xs) (hn : 0 < n) : ∃ g c, v = .slice (some ⟨g, 0, none⟩) n c ∧ base ≤ g ∧ g < w.heap.size ∧ n ≤ c := by
  rcases h.2 with ⟨_, h0⟩ | ⟨g, c, cur, hv, hg, hh, hle, _⟩
  · omega
  · exact ⟨g, c, hv, hg, (Array.getElem?_eq_some_iff.1 hh).1, hle⟩

set_option maxHeartbeats 1000000 in
/-- The turn is whose it was: the last segment goes on. -/
theorem put_same (D base g cap mode n f s K : Nat) (pre : List Seg) (c : Int) (w : World) (hK : pre.length = K) (h : Demuxed w D base (.slice (some ⟨g, 0, none⟩) (K + 1) cap) mode n (pre ++ [⟨mode, f, s⟩])) (hn : n + 1 ≤ 1099511627776) :
    Calls Try.prog 12 #[.pointer (some ⟨D, 0, none⟩), .int .u8 c] w fun e w' => e = .returned (.int .i64 mode) ∧ Demuxed w' D base (.slice (some ⟨g, 0, none⟩) (K + 1) cap) mode (n + 1) (pre ++ [⟨mode, f, s + 1⟩]) ∧ Only [D, g] w w' := by
  have hown := h.own
  have hln : (pre ++ [(⟨mode, f, s⟩ : Seg)]).length = K + 1 := by simp [hK]
  rw [hln, segCells_append] at hown
  have hget := segCells_get (pre ++ [⟨mode, f, s⟩]) K ⟨mode, f, s⟩ (by rw [← hK]; simp)
  rw [segCells_append] at hget
  have hfs : f + s ≤ n := h.fit ⟨mode, f, s⟩ (by simp)
  have hfit : ∀ x, x ∈ pre → x.f + x.s ≤ n := fun x hx => h.fit x (by simp [hx])
  have hcnt : K + 1 ≤ n := by have := h.cnt; rw [hln] at this; exact this
  have hb : Demuxed ((w.setCell ⟨g, K * 3 + 2, none⟩ (.int .i64 ((s : Int) + 1))).setCell ⟨D, 1, none⟩ (.int .i64 ((n : Int) + 1))) D base (.slice (some ⟨g, 0, none⟩) (K + 1) cap) mode (n + 1) (pre ++ [⟨mode, f, s + 1⟩]) := by
    subst hK
    exact bump h.str hown h.lt h.le hn (by omega) hfit hfs
  have c0 : w.cell? ⟨D, 0, none⟩ = some (.int .i64 mode) := cell_at h.str rfl
  have c1 : w.cell? ⟨D, 1, none⟩ = some (.int .i64 n) := cell_at h.str rfl
  have c2 : w.cell? ⟨D, 2, none⟩ = some (.slice (some ⟨g, 0, none⟩) (K + 1) cap) := cell_at h.str rfl
  have f1 : w.frozen? ⟨D, 1, none⟩ = false := free_at h.str
  have r0 : w.cell? ⟨g, K * 3, none⟩ = some (.int .i64 mode) := (hown.cellAt (K * 3) (by omega)).trans hget.1
  have r2 : w.cell? ⟨g, K * 3 + 2, none⟩ = some (.int .i64 s) := (hown.cellAt (K * 3 + 2) (by omega)).trans hget.2.2
  have fr : w.frozen? ⟨g, K * 3 + 2, none⟩ = false := hown.frozenAt _
  have hgl := hown.lt g rfl
  have hDg : D ≠ g := by have := h.lt; omega
  have hk0 : decide ((K : Int) < 0) = false := by simp
  have hk1 : (0 : Int) ≤ (K : Int) := Int.natCast_nonneg _
  have hk2 : (K : Int) < ((K + 1 : Nat) : Int) := by omega
  have hkb : K ≤ 1099511627776 := by omega
  have hsb : s ≤ 1099511627776 := by omega
  have HB := Lib.hid hb
  clear h hown hln hget hfit hcnt hb hgl hK
  go_enter Try.func12, Try.ntmps12
  go_wp2
  go_quiet (fail)
  go_wp2
  go_ret
  exact ⟨rfl, HB.out.drewN _, (((Only.refl _ _).setCell (by simp) _).setCell (by simp) _).drewN _⟩

/-- The world between the append and the count: the new segment stands, with no byte yet. -/
def Mid (w : World) (D base : Nat) (v : Value) (mode n : Nat) (ss : List Seg) (wx : World) : Prop :=
  ∃ g cp, wx.heap[D]? = some (.cells #[.int .i64 mode, .int .i64 n, .slice (some ⟨g, 0, none⟩) (ss.length + 1) cp] 48 (0, 0)) ∧
    wx.ownsRow base 31 3 (.slice (some ⟨g, 0, none⟩) (ss.length + 1) cp) (ss.length + 1) (segCells ss ++ [.int .i64 mode, .int .i64 n, .int .i64 (0 : Nat)]) ∧
    Only (D :: v.ownBlock.toList) w wx ∧ (v.ownBlock = some g ∨ w.heap.size ≤ g)

theorem mid_of {w wa w1 : World} {D base g cp mode n : Nat} {v : Value} {ss : List Seg} (h : Demuxed w D base v mode n ss) (ha : Only (D :: v.ownBlock.toList) w wa) (hda : wa.heap[D]? = w.heap[D]?)
    (hown : w1.ownsRow base 31 3 (.slice (some ⟨g, 0, none⟩) (ss.length + 1) cp) (ss.length + 1) (segCells ss ++ [.int .i64 mode, .int .i64 n, .int .i64 0])) (hgrow : wa.grownBy w1 v.ownBlock) (hat : v.ownBlock = some g ∨ g = wa.heap.size) :
    Mid w D base v mode n ss (w1.setCell ⟨D, 2, none⟩ (.slice (some ⟨g, 0, none⟩) (ss.length + 1) cp)) := by
  have hb := h.blk
  have hlt := h.lt
  have hsz := ha.size
  have hDs : D < w.heap.size := (Array.getElem?_eq_some_iff.1 h.str).1
  have hvD : some D ≠ v.ownBlock := fun e => by have := hb D e.symm; omega
  have hg := hown.lt g rfl
  have h1 : w1.heap[D]? = some (.cells #[.int .i64 mode, .int .i64 n, v] 48 (0, 0)) := by rw [hgrow.block D (by omega) hvD, hda]; exact h.str
  refine ⟨g, cp, ?_, ?_, ?_, hat.imp id (fun e => by omega)⟩
  · rw [heap_set_same h1]; simp
  · exact ownsRow_only hown (only_set w1 D 2 _) (fun g' e => by simp [Value.ownBlock] at e; simp; omega)
  · exact (ha.grown hgrow (fun k hk => .inl (by simp [hk]))).setCell (by simp) _

theorem far_cell {w w1 : World} {o : Obj} {row : Option Nat} {D i : Nat} {v : Value} (hg : (w.alloc o).drew.grownBy w1 row) (hD : D < w.heap.size) (hv : row ≠ some D) (h : w.cell? ⟨D, i, none⟩ = some v) : w1.cell? ⟨D, i, none⟩ = some v :=
  (hg.cell_far ⟨D, i, none⟩ (by simp; omega) (Ne.symm hv)).trans ((World.cell?_alloc_past _ _ _ hD).trans h)

theorem far_frozen {w w1 : World} {o : Obj} {row : Option Nat} {D i : Nat} (hg : (w.alloc o).drew.grownBy w1 row) (hD : D < w.heap.size) (hv : row ≠ some D) (h : w.frozen? ⟨D, i, none⟩ = false) : w1.frozen? ⟨D, i, none⟩ = false :=
  (hg.frozen_far ⟨D, i, none⟩ (by simp; omega) (Ne.symm hv)).trans ((World.frozen?_alloc_past _ _ _ hD).trans h)

set_option maxHeartbeats 2000000 in
/-- The turn is another's, or nothing was given yet: a new segment. -/
theorem put_new (D base : Nat) (a : Option Addr) (cp mode n K : Nat) (ss : List Seg) (c : Int) (w : World) (hK : ss.length = K) (h : Demuxed w D base (.slice a K cp) mode n ss) (hn : n + 1 ≤ 1099511627776)
    (hm : ∀ l, ss.getLast? = some l → l.m ≠ mode) :
    Calls Try.prog 12 #[.pointer (some ⟨D, 0, none⟩), .int .u8 c] w fun e w' => ∃ g cap, e = .returned (.int .i64 mode) ∧ Demuxed w' D base (.slice (some ⟨g, 0, none⟩) (K + 1) cap) mode (n + 1) (ss ++ [⟨mode, n, 1⟩]) ∧ Only (D :: (Value.slice a K cp).ownBlock.toList) w w' ∧ ((Value.slice a K cp).ownBlock = some g ∨ w.heap.size ≤ g) := by
  obtain ⟨i0, hi, hz0, hz1, hz2⟩ := info_parts Try.info31
  have HI := Lib.hid (And.intro hi (And.intro hz0 (And.intro hz1 hz2)))
  have c0 : w.cell? ⟨D, 0, none⟩ = some (.int .i64 mode) := cell_at h.str rfl
  have c2 : w.cell? ⟨D, 2, none⟩ = some (.slice a K cp) := cell_at h.str rfl
  have hcnt := h.cnt
  rw [hK] at hcnt
  have hkb : K ≤ 1099511627776 := by omega
  obtain ⟨P, hP⟩ : ∃ P : Int, (K : Int) - 1 = P := ⟨_, rfl⟩
  have HPm := Lib.hid hP
  have HK := Lib.hid hK
  have H := Lib.hid h
  have HM := Lib.hid hm
  clear h hm hK hi hz0 hz1 hz2 hcnt
  go_enter Try.func12, Try.ntmps12
  go_upto_region 2 with fail
  go_cut [28] (fun s28 wx => s28 = .bool true ∧ ∃ k, wx = w.drewN k)
  case first =>
    rcases List.eq_nil_or_concat ss with hss | ⟨pre, l, hss⟩
    · have hk0 : decide (P < 0) = true := by
        have h1 := HPm.out
        have h2 := HK.out
        rw [hss] at h2
        simp at h2
        simp; omega
      clear hP hss
      go_quiet (fail)
      go_wp2_with fail
      go_meet
      exact ⟨rfl, _, rfl⟩
    · have h1 := HPm.out
      have h2 := HK.out
      rw [hss] at h2
      simp at h2
      have hm := HM.out l (by rw [hss]; simp)
      have h := H.out
      have hown := h.own
      have hget := segCells_get ss pre.length l (by rw [hss]; simp)
      obtain ⟨g, cp', hv, hg1, hg2, hg3⟩ := own_form hown (by rw [hss]; simp)
      simp only [Value.slice.injEq] at hv
      obtain ⟨rfl, _, rfl⟩ := hv
      have hown' := hown
      rw [HK.out] at hown'
      have r0 : w.cell? ⟨g, pre.length * 3, none⟩ = some (.int .i64 l.m) := by
        exact (World.ownsRow.cellAt hown' (pre.length * 3) (by omega)).trans hget.1
      obtain ⟨k1, hk1⟩ : ∃ k1, k1 = pre.length := ⟨_, rfl⟩
      rw [← hk1] at r0 h2
      have hPk : P = (k1 : Int) := by omega
      subst hPk
      have hk0 : decide ((k1 : Int) < 0) = false := by simp
      have hkk1 : (0 : Int) ≤ (k1 : Int) := Int.natCast_nonneg _
      have hkk2 : (k1 : Int) < (K : Int) := by omega
      have hkk3 : k1 < K := by omega
      have hmm : ((l.m : Int) == (mode : Int)) = false := by simp; omega
      have hmm2 : ((l.m : Int) != (mode : Int)) = true := by simp; omega
      clear h1 h2 hm h hown hown' hget hk1 hss hg1 hg2 hg3
      go_quiet (fail)
      go_wp2_with fail
      go_meet
      exact ⟨rfl, _, rfl⟩
  case rest =>
    obtain ⟨rfl, hkq⟩ := hcut
    have hd : Demuxed wc D base (.slice a K cp) mode n ss := by obtain ⟨k, e⟩ := hkq; rw [e]; exact H.out.drewN k
    have ho : Only [] w wc := by obtain ⟨k, e⟩ := hkq; rw [e]; exact only_drewN [] w k
    have hP1 : P + 1 = (K : Int) := by omega
    clear hkq c0 c2 hP
    have c0 : wc.cell? ⟨D, 0, none⟩ = some (.int .i64 mode) := cell_at hd.str rfl
    have c1 : wc.cell? ⟨D, 1, none⟩ = some (.int .i64 n) := cell_at hd.str rfl
    have c2 : wc.cell? ⟨D, 2, none⟩ = some (.slice a K cp) := cell_at hd.str rfl
    have f2 : wc.frozen? ⟨D, 2, none⟩ = false := free_at hd.str
    have hown := hd.own
    rw [HK.out] at hown
    have hDs : D < wc.heap.size := (Array.getElem?_eq_some_iff.1 hd.str).1
    have hDb := hd.lt
    have hble := hd.le
    have hblk := hd.blk
    have hvD : (Value.slice a K cp).ownBlock ≠ some D := fun e => by have := hblk D e; omega
    have HD := Lib.hid hd
    have HO := Lib.hid ho
    have HP1 := Lib.hid hP1
    obtain ⟨hi, hz0, hz1, hz2⟩ := HI.out
    have hN : ∀ gg cp1 w1, w1.ownsRow base 31 3 (.slice (some ⟨gg, 0, none⟩) (K + 1) cp1) (K + 1) (segCells ss ++ [.int .i64 mode, .int .i64 n, .int .i64 0]) → ((wc.alloc (.cells #[.int .i64 mode, .int .i64 n, .int .i64 0] 31)).drew).grownBy w1 (Value.slice a K cp).ownBlock → ((Value.slice a K cp).ownBlock = some gg ∨ gg = wc.heap.size + 1) →
        Mid wc D base (.slice a K cp) mode n ss (w1.setCell ⟨D, 2, none⟩ (.slice (some ⟨gg, 0, none⟩) (K + 1) cp1)) := by
      intro gg cp1 w1 h1 h2 h3
      have e := HK.out
      rw [← e] at h1 h2 h3 ⊢
      rw [← e] at hd
      exact mid_of hd (((Only.refl _ _).alloc _).drew) (Below.heap_alloc _ _ _ hDs) h1 h2 (h3.imp id (fun e' => by simpa using e'))
    have HN := Lib.hid hN
    clear hd ho hP1 hblk hN
    go_upto_region 3 with fail
    go_cut [5] (fun s5 wx => s5 = .int .i64 P ∧ Mid wc D base (.slice a K cp) mode n ss wx)
    case first =>
      go_region_law (refine step_append_lies _ (by rfl) _ _ _ (by rfl) base 31 i0 _ 3 24 Try.underlying28 hi hz0 hz1 hz2 rfl (by omega) (.slice a K cp) K _ (by rfl) ((hown.alloc _).drew) ⟨wc.heap.size, 0, none⟩ 1 1 [.int .i64 mode, .int .i64 n, .int .i64 0] (by rfl) (by rfl) (World.news_of_block (cs := #[.int .i64 mode, .int .i64 n, .int .i64 0]) (t := 31) (fr := (0, 0)) (heap_alloc_new wc _)) (by simp [Value.oneCell']) (by omega) (by unfold maxLen; omega) (by omega) (by simp; omega) (wc.heap.size + 1) (by simp) ?_; intro gg cp1 w1 hown1 hgrow hat hlt1; have c2' := far_cell hgrow hDs hvD c2; have f2' := far_frozen hgrow hDs hvD f2)
      all_goals go_wp2_with fail
      all_goals go_meet
      all_goals exact ⟨rfl, HN.out _ _ _ hown1 hgrow hat⟩
    case rest =>
      rename_i wd
      obtain ⟨rfl, g, cp1, hstr, hown1, ho1, hat1⟩ := hcut
      have hdd := HD.out
      have hgl := hown1.lt g rfl
      rw [HK.out] at hstr hown1
      have hb : Demuxed ((wc.setCell ⟨g, K * 3 + 2, none⟩ (.int .i64 (((0 : Nat) : Int) + 1))).setCell ⟨D, 1, none⟩ (.int .i64 ((n : Int) + 1))) D base (.slice (some ⟨g, 0, none⟩) (K + 1) cp1) mode (n + 1) (ss ++ [⟨mode, n, 0 + 1⟩]) := by
        have e := HK.out
        subst e
        exact bump hstr hown1 hDb (Nat.le_trans hble ho1.size) hn hdd.cnt hdd.fit (by omega)
      have e0 := hstr
      have x0 : wc.cell? ⟨D, 0, none⟩ = some (.int .i64 mode) := cell_at hstr rfl
      have x1 : wc.cell? ⟨D, 1, none⟩ = some (.int .i64 n) := cell_at hstr rfl
      have x2 : wc.cell? ⟨D, 2, none⟩ = some (.slice (some ⟨g, 0, none⟩) (K + 1) cp1) := cell_at hstr rfl
      have y1 : wc.frozen? ⟨D, 1, none⟩ = false := free_at hstr
      have hlen : (segCells ss).length = K * 3 := by rw [segCells_length, HK.out]
      have r2 : wc.cell? ⟨g, K * 3 + 2, none⟩ = some (.int .i64 0) := by
        rw [World.ownsRow.cellAt hown1 (K * 3 + 2) (by omega), List.getElem?_append_right (by omega), hlen]
        have : K * 3 + 2 - K * 3 = 2 := by omega
        rw [this]; rfl
      have fr : wc.frozen? ⟨g, K * 3 + 2, none⟩ = false := World.ownsRow.frozenAt hown1 _
      have hDg : D ≠ g := by omega
      have hkk1 : (0 : Int) ≤ (K : Int) := Int.natCast_nonneg _
      have hkk2 : (K : Int) < ((K + 1 : Nat) : Int) := by omega
      have hkk3 : K < K + 1 := by omega
      have hP1 := HP1.out
      have hPa : -1 ≤ P := by omega
      have hPb : P ≤ 1099511627776 := by omega
      have HF := Lib.hid (And.intro hb (And.intro ho1 hat1))
      clear hb ho1 hat1 hstr hown1 e0 hdd hlen hown c0 c1 c2 f2 hi hz0 hz1 hz2 hDs hble hgl hvD
      go_wp2
      go_ret
      refine ⟨g, cp1, rfl, HF.out.1, ?_, ?_⟩
      · have hsg : g ∈ (D :: (Value.slice a K cp).ownBlock.toList) ∨ w.heap.size ≤ g := by
          rcases HF.out.2.2 with e | e
          · left; simp [e]
          · right; exact Nat.le_trans HO.out.size e
        have o1 : Only (D :: (Value.slice a K cp).ownBlock.toList) w wc := (HO.out.weaken (by simp)).trans HF.out.2.1
        refine ⟨o1.os, o1.tape, o1.output, by simpa using o1.size, fun k hk hn => ?_⟩
        have hkD : k ≠ D := fun e => hn (by simp [e])
        have hkg : k ≠ g := fun e => by
          rcases hsg with h' | h'
          · exact hn (e ▸ h')
          · omega
        rw [heap_set_other hkD, heap_set_other hkg]
        exact o1.block k hk hn
      · exact HF.out.2.2.imp id (fun e => Nat.le_trans HO.out.size e)

end Go.Proofs.Ytmikfnnaiojpiaa
