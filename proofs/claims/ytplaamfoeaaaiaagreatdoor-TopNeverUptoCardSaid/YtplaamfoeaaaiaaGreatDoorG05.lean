/- A part of the proofs of the laws of lifelinetop (TopNever, TopLost, TopRoom): contracts of functions that these laws reach. No condition of its own. -/
import Derived.Test.YtplaamfoeaaaiaaGreatDoorG02
import Derived.Test.YtplaamfoeaaaiaaGreatDoorG03
import Derived.Test.YtplaamfoeaaaiaaGreatDoorG04
import Derived.BigQuiet
import Derived.Deep.QuietTactic
import Derived.Deep.RegionLaw
import Derived.Deep.AppendLies
import Derived.Deep.DeepCutAuto
import Derived.Deep.RegionHeld3
set_option maxRecDepth 100000
set_option maxHeartbeats 8000000
set_option linter.unusedVariables false
namespace Go.Proofs.YtplaamfoeaaaiaaGreatDoor
open Go.RowKit
def rcvA (r : M.Rcv) (vb vd : Value) : Array Value :=
  #[.bool r.crc, .int .i64 r.wait, .int .i64 r.tries, .int .i64 r.left, byteV r.number, .bool r.begun, .bool r.close, vb, vd, .int .i64 r.blocks, .int .i64 r.want, .bool r.over, errV r.err]
structure Rcved (w : World) (R : Nat) (vb vd : Value) (r : M.Rcv) : Prop where
  str : w.heap[R]? = some (.cells (rcvA r vb vd) 308 (0, 0))
  buf : RowB w vb r.buffer
  dat : RowB w vd r.data
  sb : vb.ownBlock ≠ some R
  sd : vd.ownBlock ≠ some R
  sbd : ∀ g, vb.ownBlock = some g → vd.ownBlock ≠ some g
  wt : 1 ≤ r.wait ∧ r.wait ≤ 99
  tr : r.tries ≤ 9
  lf : 1 ≤ r.left ∧ r.left ≤ 99
  bl : r.buffer.length ≤ 1099511627776
  dl : r.data.length ≤ 1099511627776
  kl : r.blocks ≤ 1099511627776
abbrev rfp (R : Nat) (vb vd : Value) : List Nat := R :: (ownL vb ++ ownL vd)
theorem Rcved.live {w : World} {R : Nat} {vb vd : Value} {r : M.Rcv} (h : Rcved w R vb vd r) : Live w (rfp R vb vd) := by
  intro b hb
  simp only [rfp, List.mem_cons, List.mem_append, mem_ownL] at hb
  rcases hb with rfl | hb | hb
  · exact heap_lt h.str
  · exact h.buf.live b hb
  · exact h.dat.live b hb
theorem Rcved.of_only {w w' : World} {R : Nat} {vb vd : Value} {r : M.Rcv} {ks : List Nat} (h : Rcved w R vb vd r) (ho : Only ks w w') (hs : Sep (rfp R vb vd) ks) : Rcved w' R vb vd r :=
  ⟨ho.heap h.str (hs R (by simp [rfp])), ownsRow_only h.buf ho (fun g e => hs g (by simp [rfp, e])), ownsRow_only h.dat ho (fun g e => hs g (by simp [rfp, e])), h.sb, h.sd, h.sbd, h.wt, h.tr, h.lf, h.bl, h.dl, h.kl⟩
theorem Rcved.of_none {w w' : World} {R : Nat} {vb vd : Value} {r : M.Rcv} (h : Rcved w R vb vd r) (ho : Only [] w w') : Rcved w' R vb vd r := h.of_only ho (fun b _ => by simp)
def RPost (w : World) (R : Nat) (vb vd : Value) (r : M.B × M.Rcv) (x : Ending) (w' : World) : Prop :=
  ∃ v vb' vd', x = .returned v ∧ Out w w' v r.1 ∧ Rcved w' R vb' vd' r.2 ∧ Ev w w' (rfp R vb vd) (rfp R vb' vd') ∧ ∀ g, v.ownBlock = some g → g ∉ rfp R vb' vd'
theorem rdone_any (R : Nat) (vb vd : Value) (r : M.Rcv) (w : World) (h : Rcved w R vb vd r) :
    Calls Tryz.prog 248 #[.pointer (some ⟨R, 0, none⟩)] w fun e w' => e = .returned (.tuple #[.bool r.over, errV r.err]) ∧ Only [] w w' := by
  have c11 : w.cell? ⟨R, 11, none⟩ = some (.bool r.over) := cell_at h.str rfl
  have c12 : w.cell? ⟨R, 12, none⟩ = some (errV r.err) := cell_at h.str rfl
  have ho : ∀ n, Only [] w (w.drewN n) := fun n => only_drewN [] w n
  have HO := LH ho
  clear h ho
  go_enter Tryz.func248, Tryz.ntmps248
  go_wp2_with fail
  go_quiet (fail)
  go_wp2_with fail
  go_ret2
  exact ⟨rfl, HO.out _⟩
theorem rdata_any (R : Nat) (vb vd : Value) (r : M.Rcv) (w : World) (h : Rcved w R vb vd r) :
    Calls Tryz.prog 250 #[.pointer (some ⟨R, 0, none⟩)] w fun e w' => ∃ v, e = .returned v ∧ Out w w' v r.data ∧ Only [] w w' := by
  have hdl := h.dl
  obtain ⟨a, c, rfl, hb, h1, h2, h3, _⟩ := h.dat.slc
  have c8 : w.cell? ⟨R, 8, none⟩ = some (.slice a r.data.length c) := cell_at h.str rfl
  have HB := LH (AI hb h3)
  clear h hb h1 h2 h3
  go_enter Tryz.func250, Tryz.ntmps250
  go_wp2_with (at_builtin; refine wpList_appAt _ rfl (.const (.slice none 0 0)) (.tmp 6) rfl w.heap.size (.slice none 0 0) 0 [] rfl (World.ownsRow_nil _ _ _ _) a r.data.length c r.data rfl HB.out.1 rfl HB.out.2 r.data rfl r.data.length (Nat.zero_add _) (by omega) (Nat.le_refl _) ?_; intro a' c' w1 q1 q2 q3)
  go_ret
  exact ⟨_, rfl, q1, (only_grown q2).weaken (by simp [Value.ownBlock])⟩
theorem rend_any (R : Nat) (vb vd : Value) (r : M.Rcv) (e : Nat) (ev : Value) (a : Option Addr) (n c : Nat) (w : World) (h : Rcved w R vb vd r) (he : ev = errV e) :
    Calls Tryz.prog 253 #[.pointer (some ⟨R, 0, none⟩), ev, .slice a n c] w fun x w' => x = .returned (.slice a n c) ∧ Rcved w' R vb vd { r with over := true, err := e } ∧ Only [R] w w' := by
  have c11 : w.cell? ⟨R, 11, none⟩ = some (.bool r.over) := cell_at h.str rfl
  have c12 : w.cell? ⟨R, 12, none⟩ = some (errV r.err) := cell_at h.str rfl
  have f11 : w.frozen? ⟨R, 11, none⟩ = false := free_at h.str
  have f12 : w.frozen? ⟨R, 12, none⟩ = false := free_at h.str
  have hfin : ∀ w', w'.heap[R]? = some (.cells (rcvA { r with over := true, err := e } vb vd) 308 (0, 0)) → Only [R] w w' → Rcved w' R vb vd { r with over := true, err := e } := fun w' q o =>
    ⟨q, ownsRow_only h.buf o (fun g e hg => by simp at hg; subst hg; exact h.sb e), ownsRow_only h.dat o (fun g e hg => by simp at hg; subst hg; exact h.sd e), h.sb, h.sd, h.sbd, h.wt, h.tr, h.lf, h.bl, h.dl, h.kl⟩
  have HF := LH (AI h.str hfin)
  clear h hfin
  by_cases e0 : e = 0
  · subst e0
    obtain rfl : ev = .nilIface := he
    have ho : Only [R] w ((w.setCell ⟨R, 11, none⟩ (.bool true)).setCell ⟨R, 12, none⟩ .nilIface) := ((Only.refl _ _).setCell (by simp) _).setCell (by simp) _
    go_enter Tryz.func253, Tryz.ntmps253
    go_wp2_with fail
    go_ret
    exact ⟨rfl, HF.out.2 _ (hs_same (hs_same HF.out.1 rfl) rfl) ho, ho⟩
  · rw [errV_pos (by omega)] at he
    subst he
    have ho : Only [R] w ((w.setCell ⟨R, 11, none⟩ (.bool true)).setCell ⟨R, 12, none⟩ (.iface 57 (.int .i64 e))) := ((Only.refl _ _).setCell (by simp) _).setCell (by simp) _
    have hv : Hid (errV e = .iface 57 (.int .i64 e)) := errV_pos (by omega)
    clear e0
    go_enter Tryz.func253, Tryz.ntmps253
    go_wp2_with fail
    go_ret
    exact ⟨rfl, HF.out.2 _ (by unfold rcvA; rw [hv.out]; exact hs_same (hs_same HF.out.1 rfl) rfl) ho, ho⟩
theorem rask_any (R : Nat) (vb vd : Value) (r : M.Rcv) (w : World) (h : Rcved w R vb vd r) :
    Calls Tryz.prog 256 #[.pointer (some ⟨R, 0, none⟩)] w fun e w' => e = .returned (byteV r.ask) ∧ w = w' := by
  have c0 : w.cell? ⟨R, 0, none⟩ = some (.bool r.crc) := cell_at h.str rfl
  have c5 : w.cell? ⟨R, 5, none⟩ = some (.bool r.begun) := cell_at h.str rfl
  have ha : r.ask = if r.crc = true ∧ r.begun = false then 67 else 21 := by simp [M.Rcv.ask]
  have HA := LH ha
  clear h ha
  cases hc : r.crc with
  | false =>
    rw [hc] at c0
    have HN : Hid (r.ask = 21) := by rw [HA.out, hc]; exact rfl
    clear hc
    go_enter Tryz.func256, Tryz.ntmps256
    go_wp2_with fail
    go_ret
    exact ⟨by rw [HN.out]; rfl, rfl⟩
  | true =>
    rw [hc] at c0
    cases hb : r.begun with
    | false =>
      rw [hb] at c5
      have HN : Hid (r.ask = 67) := by rw [HA.out, hc, hb]; exact rfl
      clear hc hb
      go_enter Tryz.func256, Tryz.ntmps256
      go_wp2_with fail
      go_ret
      exact ⟨by rw [HN.out]; rfl, rfl⟩
    | true =>
      rw [hb] at c5
      have HN : Hid (r.ask = 21) := by rw [HA.out, hc, hb]; exact rfl
      clear hc hb
      go_enter Tryz.func256, Tryz.ntmps256
      go_wp2_with fail
      go_ret
      exact ⟨by rw [HN.out]; rfl, rfl⟩
theorem bump {w : World} {D base g cap mode n f s : Nat} {pre : List Seg} (hstr : w.heap[D]? = some (.cells #[.int .i64 mode, .int .i64 n, .slice (some ⟨g, 0, none⟩) (pre.length + 1) cap] 152 (0, 0)))
    (hown : w.ownsRow base 243 3 (.slice (some ⟨g, 0, none⟩) (pre.length + 1) cap) (pre.length + 1) (segCells pre ++ [.int .i64 mode, .int .i64 f, .int .i64 s]))
    (hlt : D < base) (hle : base ≤ w.heap.size) (hn : n + 1 ≤ 1099511627776) (hcnt : pre.length ≤ n) (hfit : ∀ x, x ∈ pre → x.f + x.s ≤ n) (hf : f + s ≤ n) :
    Demuxed ((w.setCell ⟨g, pre.length * 3 + 2, none⟩ (.int .i64 ((s : Int) + 1))).setCell ⟨D, 1, none⟩ (.int .i64 ((n : Int) + 1))) D base (.slice (some ⟨g, 0, none⟩) (pre.length + 1) cap) mode (n + 1) (pre ++ [⟨mode, f, s + 1⟩]) := by
  have hg := hown.lt g rfl
  have hst := (hown.stored (pre.length * 3 + 2) (.int .i64 ((s : Int) + 1))).1
  rw [segCells_set] at hst
  have hst2 := ownsRow_only hst (only_set _ D 1 (.int .i64 ((n : Int) + 1))) (fun g' e => by simp [Value.ownBlock] at e; simp; omega)
  refine ⟨?_, ?_, hlt, by simpa using hle, hn, by simp; omega, ?_⟩
  · have h1 : (w.setCell ⟨g, pre.length * 3 + 2, none⟩ (.int .i64 ((s : Int) + 1))).heap[D]? = _ := (heap_set_other (show D ≠ g by omega)).trans hstr
    rw [heap_set_same h1]
    simp
  · have e1 : (pre ++ [(⟨mode, f, s + 1⟩ : Seg)]).length = pre.length + 1 := by simp
    rw [e1, segCells_append]
    exact hst2
  · intro x hx
    rcases List.mem_append.1 hx with h | h
    · have := hfit x h; omega
    · simp at h; subst h; simp only; omega
theorem own_form {w : World} {base : Nat} {v : Value} {n : Nat} {xs : List Value} (h : w.ownsRow base 243 3 v n xs) (hn : 0 < n) : ∃ g c, v = .slice (some ⟨g, 0, none⟩) n c ∧ base ≤ g ∧ g < w.heap.size ∧ n ≤ c := by
  rcases h.2 with ⟨_, h0⟩ | ⟨g, c, cur, hv, hg, hh, hle, _⟩
  · omega
  · exact ⟨g, c, hv, hg, (Array.getElem?_eq_some_iff.1 hh).1, hle⟩
theorem put_same (D base g cap mode n f s K : Nat) (pre : List Seg) (c : Int) (w : World) (hK : pre.length = K) (h : Demuxed w D base (.slice (some ⟨g, 0, none⟩) (K + 1) cap) mode n (pre ++ [⟨mode, f, s⟩])) (hn : n + 1 ≤ 1099511627776) :
    Calls Tryz.prog 93 #[.pointer (some ⟨D, 0, none⟩), .int .u8 c] w fun e w' => e = .returned (.int .i64 mode) ∧ Demuxed w' D base (.slice (some ⟨g, 0, none⟩) (K + 1) cap) mode (n + 1) (pre ++ [⟨mode, f, s + 1⟩]) ∧ Only [D, g] w w' := by
  have hown := h.own
  have hln : (pre ++ [(⟨mode, f, s⟩ : Seg)]).length = K + 1 := by simp [hK]
  rw [hln, segCells_append] at hown
  have hget := segCells_get (pre ++ [⟨mode, f, s⟩]) K ⟨mode, f, s⟩ (by rw [← hK]; simp)
  rw [segCells_append] at hget
  have hfs : f + s ≤ n := h.fit ⟨mode, f, s⟩ (by simp)
  have hfit : ∀ x, x ∈ pre → x.f + x.s ≤ n := fun x hx => h.fit x (by simp [hx])
  have hcnt : K + 1 ≤ n := by have := h.cnt; rw [hln] at this; exact this
  have hb : Demuxed ((w.setCell ⟨g, K * 3 + 2, none⟩ (.int .i64 ((s : Int) + 1))).setCell ⟨D, 1, none⟩ (.int .i64 ((n : Int) + 1))) D base (.slice (some ⟨g, 0, none⟩) (K + 1) cap) mode (n + 1) (pre ++ [⟨mode, f, s + 1⟩]) := by
    subst hK
    exact bump h.str hown h.lt h.le hn (by omega) hfit hfs
  have c0 : w.cell? ⟨D, 0, none⟩ = some (.int .i64 mode) := cell_at h.str rfl
  have c1 : w.cell? ⟨D, 1, none⟩ = some (.int .i64 n) := cell_at h.str rfl
  have c2 : w.cell? ⟨D, 2, none⟩ = some (.slice (some ⟨g, 0, none⟩) (K + 1) cap) := cell_at h.str rfl
  have f1 : w.frozen? ⟨D, 1, none⟩ = false := free_at h.str
  have r0 : w.cell? ⟨g, K * 3, none⟩ = some (.int .i64 mode) := (hown.cellAt (K * 3) (by omega)).trans hget.1
  have r2 : w.cell? ⟨g, K * 3 + 2, none⟩ = some (.int .i64 s) := (hown.cellAt (K * 3 + 2) (by omega)).trans hget.2.2
  have fr : w.frozen? ⟨g, K * 3 + 2, none⟩ = false := hown.frozenAt _
  have hgl := hown.lt g rfl
  have hDg : D ≠ g := by have := h.lt; omega
  have hk0 : decide ((K : Int) < 0) = false := by simp
  have hk1 : (0 : Int) ≤ (K : Int) := Int.natCast_nonneg _
  have hk2 : (K : Int) < ((K + 1 : Nat) : Int) := by omega
  have hkb : K ≤ 1099511627776 := by omega
  have hsb : s ≤ 1099511627776 := by omega
  have HB := LH hb
  clear h hown hln hget hfit hcnt hb hgl hK
  go_enter Tryz.func93, Tryz.ntmps93
  go_wp2
  go_quiet (fail)
  go_wp2
  go_ret
  exact ⟨rfl, HB.out.drewN _, (((Only.refl _ _).setCell (by simp) _).setCell (by simp) _).drewN _⟩
def Mid (w : World) (D base : Nat) (v : Value) (mode n : Nat) (ss : List Seg) (wx : World) : Prop :=
  ∃ g cp, wx.heap[D]? = some (.cells #[.int .i64 mode, .int .i64 n, .slice (some ⟨g, 0, none⟩) (ss.length + 1) cp] 152 (0, 0)) ∧
    wx.ownsRow base 243 3 (.slice (some ⟨g, 0, none⟩) (ss.length + 1) cp) (ss.length + 1) (segCells ss ++ [.int .i64 mode, .int .i64 n, .int .i64 (0 : Nat)]) ∧
    Only (D :: v.ownBlock.toList) w wx ∧ (v.ownBlock = some g ∨ w.heap.size ≤ g)
theorem mid_of {w wa w1 : World} {D base g cp mode n : Nat} {v : Value} {ss : List Seg} (h : Demuxed w D base v mode n ss) (ha : Only (D :: v.ownBlock.toList) w wa) (hda : wa.heap[D]? = w.heap[D]?)
    (hown : w1.ownsRow base 243 3 (.slice (some ⟨g, 0, none⟩) (ss.length + 1) cp) (ss.length + 1) (segCells ss ++ [.int .i64 mode, .int .i64 n, .int .i64 0])) (hgrow : wa.grownBy w1 v.ownBlock) (hat : v.ownBlock = some g ∨ g = wa.heap.size) :
    Mid w D base v mode n ss (w1.setCell ⟨D, 2, none⟩ (.slice (some ⟨g, 0, none⟩) (ss.length + 1) cp)) := by
  have hb := h.blk
  have hlt := h.lt
  have hsz := ha.size
  have hDs : D < w.heap.size := (Array.getElem?_eq_some_iff.1 h.str).1
  have hvD : some D ≠ v.ownBlock := fun e => by have := hb D e.symm; omega
  have hg := hown.lt g rfl
  have h1 : w1.heap[D]? = some (.cells #[.int .i64 mode, .int .i64 n, v] 152 (0, 0)) := by rw [hgrow.block D (by omega) hvD, hda]; exact h.str
  refine ⟨g, cp, ?_, ?_, ?_, hat.imp id (fun e => by omega)⟩
  · rw [heap_set_same h1]; simp
  · exact ownsRow_only hown (only_set w1 D 2 _) (fun g' e => by simp [Value.ownBlock] at e; simp; omega)
  · exact (ha.grown hgrow (fun k hk => .inl (by simp [hk]))).setCell (by simp) _
theorem far_cell {w w1 : World} {o : Obj} {row : Option Nat} {D i : Nat} {v : Value} (hg : (w.alloc o).drew.grownBy w1 row) (hD : D < w.heap.size) (hv : row ≠ some D) (h : w.cell? ⟨D, i, none⟩ = some v) : w1.cell? ⟨D, i, none⟩ = some v :=
  (hg.cell_far ⟨D, i, none⟩ (by simp; omega) (Ne.symm hv)).trans ((World.cell?_alloc_past _ _ _ hD).trans h)
theorem far_frozen {w w1 : World} {o : Obj} {row : Option Nat} {D i : Nat} (hg : (w.alloc o).drew.grownBy w1 row) (hD : D < w.heap.size) (hv : row ≠ some D) (h : w.frozen? ⟨D, i, none⟩ = false) : w1.frozen? ⟨D, i, none⟩ = false :=
  (hg.frozen_far ⟨D, i, none⟩ (by simp; omega) (Ne.symm hv)).trans ((World.frozen?_alloc_past _ _ _ hD).trans h)
theorem put_new (D base : Nat) (a : Option Addr) (cp mode n K : Nat) (ss : List Seg) (c : Int) (w : World) (hK : ss.length = K) (h : Demuxed w D base (.slice a K cp) mode n ss) (hn : n + 1 ≤ 1099511627776)
    (hm : ∀ l, ss.getLast? = some l → l.m ≠ mode) :
    Calls Tryz.prog 93 #[.pointer (some ⟨D, 0, none⟩), .int .u8 c] w fun e w' => ∃ g cap, e = .returned (.int .i64 mode) ∧ Demuxed w' D base (.slice (some ⟨g, 0, none⟩) (K + 1) cap) mode (n + 1) (ss ++ [⟨mode, n, 1⟩]) ∧ Only (D :: (Value.slice a K cp).ownBlock.toList) w w' ∧ ((Value.slice a K cp).ownBlock = some g ∨ w.heap.size ≤ g) := by
  obtain ⟨i0, hi, hz0, hz1, hz2⟩ := info_parts Tryz.info243
  have HI := LH (AI hi (AI hz0 (AI hz1 hz2)))
  have c0 : w.cell? ⟨D, 0, none⟩ = some (.int .i64 mode) := cell_at h.str rfl
  have c2 : w.cell? ⟨D, 2, none⟩ = some (.slice a K cp) := cell_at h.str rfl
  have hcnt := h.cnt
  rw [hK] at hcnt
  have hkb : K ≤ 1099511627776 := by omega
  obtain ⟨P, hP⟩ : ∃ P : Int, (K : Int) - 1 = P := ⟨_, rfl⟩
  have HPm := LH hP
  have HK := LH hK
  have H := LH h
  have HM := LH hm
  clear h hm hK hi hz0 hz1 hz2 hcnt
  go_enter Tryz.func93, Tryz.ntmps93
  go_upto_region 2 with fail
  go_cut [28] (fun s28 wx => s28 = .bool true ∧ ∃ k, wx = w.drewN k)
  case first =>
    rcases List.eq_nil_or_concat ss with hss | ⟨pre, l, hss⟩
    · have hk0 : decide (P < 0) = true := by
        have h1 := HPm.out
        have h2 := HK.out
        rw [hss] at h2
        simp at h2
        simp; omega
      clear hP hss
      go_quiet (fail)
      go_wp2_with fail
      go_meet
      exact ⟨rfl, _, rfl⟩
    · have h1 := HPm.out
      have h2 := HK.out
      rw [hss] at h2
      simp at h2
      have hm := HM.out l (by rw [hss]; simp)
      have h := H.out
      have hown := h.own
      have hget := segCells_get ss pre.length l (by rw [hss]; simp)
      obtain ⟨g, cp', hv, hg1, hg2, hg3⟩ := own_form hown (by rw [hss]; simp)
      simp only [Value.slice.injEq] at hv
      obtain ⟨rfl, _, rfl⟩ := hv
      have hown' := hown
      rw [HK.out] at hown'
      have r0 : w.cell? ⟨g, pre.length * 3, none⟩ = some (.int .i64 l.m) := by
        exact (World.ownsRow.cellAt hown' (pre.length * 3) (by omega)).trans hget.1
      obtain ⟨k1, hk1⟩ : ∃ k1, k1 = pre.length := ⟨_, rfl⟩
      rw [← hk1] at r0 h2
      have hPk : P = (k1 : Int) := by omega
      subst hPk
      have hk0 : decide ((k1 : Int) < 0) = false := by simp
      have hkk1 : (0 : Int) ≤ (k1 : Int) := Int.natCast_nonneg _
      have hkk2 : (k1 : Int) < (K : Int) := by omega
      have hkk3 : k1 < K := by omega
      have hmm : ((l.m : Int) == (mode : Int)) = false := by simp; omega
      have hmm2 : ((l.m : Int) != (mode : Int)) = true := by simp; omega
      clear h1 h2 hm h hown hown' hget hk1 hss hg1 hg2 hg3
      go_quiet (fail)
      go_wp2_with fail
      go_meet
      exact ⟨rfl, _, rfl⟩
  case rest =>
    obtain ⟨rfl, hkq⟩ := hcut
    have hd : Demuxed wc D base (.slice a K cp) mode n ss := by obtain ⟨k, e⟩ := hkq; rw [e]; exact H.out.drewN k
    have ho : Only [] w wc := by obtain ⟨k, e⟩ := hkq; rw [e]; exact only_drewN [] w k
    have hP1 : P + 1 = (K : Int) := by omega
    clear hkq c0 c2 hP
    have c0 : wc.cell? ⟨D, 0, none⟩ = some (.int .i64 mode) := cell_at hd.str rfl
    have c1 : wc.cell? ⟨D, 1, none⟩ = some (.int .i64 n) := cell_at hd.str rfl
    have c2 : wc.cell? ⟨D, 2, none⟩ = some (.slice a K cp) := cell_at hd.str rfl
    have f2 : wc.frozen? ⟨D, 2, none⟩ = false := free_at hd.str
    have hown := hd.own
    rw [HK.out] at hown
    have hDs : D < wc.heap.size := (Array.getElem?_eq_some_iff.1 hd.str).1
    have hDb := hd.lt
    have hble := hd.le
    have hblk := hd.blk
    have hvD : (Value.slice a K cp).ownBlock ≠ some D := fun e => by have := hblk D e; omega
    have HD := LH hd
    have HO := LH ho
    have HP1 := LH hP1
    obtain ⟨hi, hz0, hz1, hz2⟩ := HI.out
    have hN : ∀ gg cp1 w1, w1.ownsRow base 243 3 (.slice (some ⟨gg, 0, none⟩) (K + 1) cp1) (K + 1) (segCells ss ++ [.int .i64 mode, .int .i64 n, .int .i64 0]) → ((wc.alloc (.cells #[.int .i64 mode, .int .i64 n, .int .i64 0] 243)).drew).grownBy w1 (Value.slice a K cp).ownBlock → ((Value.slice a K cp).ownBlock = some gg ∨ gg = wc.heap.size + 1) →
        Mid wc D base (.slice a K cp) mode n ss (w1.setCell ⟨D, 2, none⟩ (.slice (some ⟨gg, 0, none⟩) (K + 1) cp1)) := by
      intro gg cp1 w1 h1 h2 h3
      have e := HK.out
      rw [← e] at h1 h2 h3 ⊢
      rw [← e] at hd
      exact mid_of hd (((Only.refl _ _).alloc _).drew) (Below.heap_alloc _ _ _ hDs) h1 h2 (h3.imp id (fun e' => by simpa using e'))
    have HN := LH hN
    clear hd ho hP1 hblk hN
    go_upto_region 3 with fail
    go_cut [5] (fun s5 wx => s5 = .int .i64 P ∧ Mid wc D base (.slice a K cp) mode n ss wx)
    case first =>
      go_region_law (refine step_append_lies _ (by rfl) _ _ _ (by rfl) base 243 i0 _ 3 24 Tryz.underlying150 hi hz0 hz1 hz2 rfl (by omega) (.slice a K cp) K _ (by rfl) ((hown.alloc _).drew) ⟨wc.heap.size, 0, none⟩ 1 1 [.int .i64 mode, .int .i64 n, .int .i64 0] (by rfl) (by rfl) (World.news_of_block (cs := #[.int .i64 mode, .int .i64 n, .int .i64 0]) (t := 243) (fr := (0, 0)) (heap_alloc_new wc _)) (by simp [Value.oneCell']) (by omega) (by unfold maxLen; omega) (by omega) (by simp; omega) (wc.heap.size + 1) (by simp) ?_; intro gg cp1 w1 hown1 hgrow hat hlt1; have c2' := far_cell hgrow hDs hvD c2; have f2' := far_frozen hgrow hDs hvD f2)
      all_goals go_wp2_with fail
      all_goals go_meet
      all_goals exact ⟨rfl, HN.out _ _ _ hown1 hgrow hat⟩
    case rest =>
      rename_i wd
      obtain ⟨rfl, g, cp1, hstr, hown1, ho1, hat1⟩ := hcut
      have hdd := HD.out
      have hgl := hown1.lt g rfl
      rw [HK.out] at hstr hown1
      have hb : Demuxed ((wc.setCell ⟨g, K * 3 + 2, none⟩ (.int .i64 (((0 : Nat) : Int) + 1))).setCell ⟨D, 1, none⟩ (.int .i64 ((n : Int) + 1))) D base (.slice (some ⟨g, 0, none⟩) (K + 1) cp1) mode (n + 1) (ss ++ [⟨mode, n, 0 + 1⟩]) := by
        have e := HK.out
        subst e
        exact bump hstr hown1 hDb (Nat.le_trans hble ho1.size) hn hdd.cnt hdd.fit (by omega)
      have e0 := hstr
      have x0 : wc.cell? ⟨D, 0, none⟩ = some (.int .i64 mode) := cell_at hstr rfl
      have x1 : wc.cell? ⟨D, 1, none⟩ = some (.int .i64 n) := cell_at hstr rfl
      have x2 : wc.cell? ⟨D, 2, none⟩ = some (.slice (some ⟨g, 0, none⟩) (K + 1) cp1) := cell_at hstr rfl
      have y1 : wc.frozen? ⟨D, 1, none⟩ = false := free_at hstr
      have hlen : (segCells ss).length = K * 3 := by rw [segCells_length, HK.out]
      have r2 : wc.cell? ⟨g, K * 3 + 2, none⟩ = some (.int .i64 0) := by
        rw [World.ownsRow.cellAt hown1 (K * 3 + 2) (by omega), List.getElem?_append_right (by omega), hlen]
        have : K * 3 + 2 - K * 3 = 2 := by omega
        rw [this]; rfl
      have fr : wc.frozen? ⟨g, K * 3 + 2, none⟩ = false := World.ownsRow.frozenAt hown1 _
      have hDg : D ≠ g := by omega
      have hkk1 : (0 : Int) ≤ (K : Int) := Int.natCast_nonneg _
      have hkk2 : (K : Int) < ((K + 1 : Nat) : Int) := by omega
      have hkk3 : K < K + 1 := by omega
      have hP1 := HP1.out
      have hPa : -1 ≤ P := by omega
      have hPb : P ≤ 1099511627776 := by omega
      have HF := LH (AI hb (AI ho1 hat1))
      clear hb ho1 hat1 hstr hown1 e0 hdd hlen hown c0 c1 c2 f2 hi hz0 hz1 hz2 hDs hble hgl hvD
      go_wp2
      go_ret
      refine ⟨g, cp1, rfl, HF.out.1, ?_, ?_⟩
      · have hsg : g ∈ (D :: (Value.slice a K cp).ownBlock.toList) ∨ w.heap.size ≤ g := by
          rcases HF.out.2.2 with e | e
          · left; simp [e]
          · right; exact Nat.le_trans HO.out.size e
        have o1 : Only (D :: (Value.slice a K cp).ownBlock.toList) w wc := (HO.out.weaken (by simp)).trans HF.out.2.1
        refine ⟨o1.os, o1.tape, o1.output, by simpa using o1.size, fun k hk hn => ?_⟩
        have hkD : k ≠ D := fun e => hn (by simp [e])
        have hkg : k ≠ g := fun e => by
          rcases hsg with h' | h'
          · exact hn (e ▸ h')
          · omega
        rw [heap_set_other hkD, heap_set_other hkg]
        exact o1.block k hk hn
      · exact HF.out.2.2.imp id (fun e => Nat.le_trans HO.out.size e)
theorem drop_cons (q : List UInt8) (k : Nat) (h : k < q.length) : q.drop k = q.getD k 0 :: q.drop (k + 1) := by
  rw [List.drop_eq_getElem_cons h]; simp [List.getD, h]
theorem take_snocT (q : List UInt8) (k : Nat) (h : k < q.length) : (q.take (k + 1)).map byteV = (q.take k).map byteV ++ [byteV (q.getD k 0)] := by
  rw [List.take_succ_eq_append_getElem h, List.map_append]; simp [List.getD, h]
theorem next_w (a c : Nat) (ha : a < c) (hc : c ≤ 4096) : wrap64 ((a : Int) + 1) = (a : Int) + 1 := by
  unfold wrap64; omega
theorem next_i (a c : Nat) (ha : a < c) (hc : c ≤ 4096) : IntKind.i64.wrap ((a : Int) + 1) = (a : Int) + 1 := by
  rw [IntKind.wrap_i64]; omega
theorem next_mod (a c x : Nat) (hx : x = (a + 1) % c) : ((a : Int) + 1).tmod (c : Int) = (x : Int) := by
  rw [Int.tmod_eq_emod_of_nonneg (by omega), hx]
  simp
theorem keep3 {w w1 : World} {row : Option Nat} {R S p : Nat} {a b c : Value} (hg : w.grownBy w1 row) (hR : R < w.heap.size) (hS : S < w.heap.size) (nR : row ≠ some R) (nS : row ≠ some S)
    (h0 : w.cell? ⟨S, 0, none⟩ = some a) (h1 : w.cell? ⟨S, 1, none⟩ = some b) (h2 : w.cell? ⟨R, p, none⟩ = some c) :
    w1.cell? ⟨S, 0, none⟩ = some a ∧ w1.cell? ⟨S, 1, none⟩ = some b ∧ w1.cell? ⟨R, p, none⟩ = some c :=
  ⟨(World.cell?_of_block (hg.block S hS (Ne.symm nS))).trans h0, (World.cell?_of_block (hg.block S hS (Ne.symm nS))).trans h1, (World.cell?_of_block (hg.block R hR (Ne.symm nR))).trans h2⟩
theorem take_any (R S cap at_ : Nat) (q : List UInt8) (lost : Int) (n : Int) (F : Nat) (w : World) (h : Ringed w R S cap at_ q lost)
    (hF : (F = 0 ∧ n ≤ 0) ∨ (n = F ∧ F ≤ q.length) ∨ (F = q.length ∧ (q.length : Int) < n)) :
    Calls Tryz.prog 68 #[.pointer (some ⟨S, 0, none⟩), .int .i64 n] w fun e w' =>
      ∃ v, e = .returned v ∧ w'.ownsRow w.heap.size 5 1 v F ((q.take F).map byteV) ∧ Ringed w' R S cap ((at_ + F) % cap) (q.drop F) lost ∧ Only [R, S] w w' := by
  obtain ⟨i0, hi, hz0, hz1, hz2⟩ := info_parts Tryz.info5
  have HI := LH (AI hi (AI hz0 (AI hz1 hz2)))
  obtain ⟨hRw, hSw⟩ := h.lt
  have hql := h.len
  have hcl := h.capLe
  obtain ⟨M, hM⟩ : ∃ M : Int, (if (q.length : Int) < n then (q.length : Int) else n) = M := ⟨_, rfl⟩
  have hmx : (if 0 < M then M else 0) = (F : Int) := by
    rw [← hM]; split <;> split <;> omega
  have hFq : F ≤ q.length := by omega
  clear hF
  have g2 : w.cell? ⟨S, 2, none⟩ = some (.int .i64 q.length) := cell_at h.str rfl
  go_enter Tryz.func68, Tryz.ntmps68
  go_wp2
  clear hM hmx g2
  go_loopw [5, 13] (fun v i wr => ∃ k : Nat, k ≤ F ∧ i = .int .i64 k ∧ wr.ownsRow w.heap.size 5 1 v k ((q.take k).map byteV) ∧ Ringed wr R S cap ((at_ + k) % cap) (q.drop k) lost ∧ Only [R, S] w wr) (fun _ i _ => F - (intOf i).toNat)
  case atStart => exact ⟨0, Nat.zero_le _, rfl, by simpa using World.ownsRow_nil w w.heap.size 5 1, by simpa [Nat.mod_eq_of_lt h.atLt] using h, Only.refl _ _⟩
  case round =>
    obtain ⟨k, hk, rfl, hown, hr, ho⟩ := hrel
    by_cases hlt : k < F
    · obtain ⟨p, hp⟩ : ∃ p, p = (at_ + k) % cap := ⟨_, rfl⟩
      obtain ⟨x, hx⟩ : ∃ x, x = (p + 1) % cap := ⟨_, rfl⟩
      obtain ⟨l, hll⟩ : ∃ l, l = (q.drop (k + 1)).length := ⟨_, rfl⟩
      have hpk : (at_ + (k + 1)) % cap = x := by rw [hx, hp, Nat.mod_add_mod, Nat.add_assoc]
      have hlq : l < 4096 := by rw [hll]; simp; omega
      rw [← hp, drop_cons q k (by omega)] at hr
      have hat := hr.atLt
      have hfst := hr.first
      have hstr := hr.str
      rw [List.length_cons, ← hll] at hstr
      have hkb : k < 4096 := by omega
      have g0 : wr.cell? ⟨S, 0, none⟩ = some (.slice (some ⟨R, 0, none⟩) cap cap) := cell_at hstr rfl
      have g1 : wr.cell? ⟨S, 1, none⟩ = some (.int .i64 p) := cell_at hstr rfl
      have HS := LH hstr
      have HR := LH hr
      have HX := LH hx
      have HL := LH hll
      have HP := LH hp
      have HK := LH hpk
      clear hstr hr hx hll hp hpk hz0 hz1 hz2 hi
      go_wp2
      obtain ⟨hi, hz0, hz1, hz2⟩ := HI.out
      have hrow : ∀ j, u5.ownBlock = some j → w.heap.size ≤ j := fun j hj => (hown.lt j hj).1
      have hnR : u5.ownBlock ≠ some R := fun e => by have := hrow R e; omega
      have hnS : u5.ownBlock ≠ some S := fun e => by have := hrow S e; omega
      have hwr : w.heap.size ≤ wr.heap.size := ho.size
      have hp0 : (0 : Int) ≤ (p : Int) := Int.natCast_nonneg _
      have hp1 : (p : Int) < (cap : Int) := by omega
      go_region_held3 (fun w' => w'.cell? ⟨S, 0, none⟩ = some (.slice (some ⟨R, 0, none⟩) cap cap) ∧ w'.cell? ⟨S, 1, none⟩ = some (.int .i64 p) ∧ w'.cell? ⟨R, p, none⟩ = some (byteV (q.getD k 0)))
        (first
          | (go_split_ands; exact keep3 hgrow (by simp; omega) (by simp; omega) hnR hnS ‹_› ‹_› ‹_›)
          | go_keep)
        ((refine step_append_lies _ (by rfl) _ _ _ (by rfl) w.heap.size 5 i0 _ 1 1 Tryz.underlying22 hi hz0 hz1 hz2 rfl (by omega) u5 k _ (by rfl) ((hown.alloc _).drew)
            ⟨wr.heap.size, 0, none⟩ 1 1 [byteV (q.getD k 0)] (by rfl) (by rfl) (World.news_of_block (cs := #[byteV (q.getD k 0)]) (t := 5) (fr := (0, 0)) (heap_alloc_new wr _)) (by simp [Value.oneCell'])
            (by omega) (by unfold maxLen; omega) (by omega) (by simp; omega) (wr.heap.size + 1) (by simp) ?_; intro gg cp w1 hown' hgrow hat' hlt'))
      rw [List.getD_eq_getElem?_getD] at hown'
      have hr1 := ((HR.out.of_only ((Only.refl [] wr).alloc (.cells #[byteV (q[k]?.getD 0)] 5)) (by simp) (by simp)).drew).grown hgrow hnR hnS
      have ho1 : Only [R, S] w w1 := ((ho.alloc (.cells #[byteV (q[k]?.getD 0)] 5)).drew).grown hgrow (fun j hj => .inr (hrow j hj))
      have hown2 : w1.ownsRow w.heap.size 5 1 (.slice (some ⟨gg, 0, none⟩) (k + 1) cp) (k + 1) ((q.take (k + 1)).map byteV) := by rw [take_snocT q k (by omega), List.getD_eq_getElem?_getD]; exact hown'
      have ht := hr1.take
      have hstr := hr1.str
      rw [List.length_cons, ← HL.out] at hstr
      rw [← HX.out, ← HL.out] at ht
      have g0' : w1.cell? ⟨S, 0, none⟩ = some (.slice (some ⟨R, 0, none⟩) cap cap) := cell_at hstr rfl
      have g1' : w1.cell? ⟨S, 1, none⟩ = some (.int .i64 p) := cell_at hstr rfl
      have g2' : w1.cell? ⟨S, 2, none⟩ = some (.int .i64 (l + 1 : Nat)) := cell_at hstr rfl
      have f1' : w1.frozen? ⟨S, 1, none⟩ = false := free_at hstr
      have f2' : w1.frozen? ⟨S, 2, none⟩ = false := free_at hstr
      have HT := LH ht
      have HO := LH ho1
      have HW := LH hown2
      have hcz : ¬ cap = 0 := by omega
      have e1 := next_w p cap hat hcl
      have e2 := next_i p cap hat hcl
      have e3 := next_mod p cap x HX.out
      clear hr1 ht hstr ho1 hown' hown2 hgrow hrow hi hz0 hz1 hz2 g0 g1 hfst hnR hnS
      go_wp2
      go_still_tail 14, (by kernel_rfl)
      change wpList _ _ _ _ _ w1.drew
      clear e1 e2 e3 hcz
      go_wp2
      go_roundw
      case rel => exact ⟨k + 1, by omega, by go_num, (owns_set (owns_set HW.out hSw _) hSw _).drew, by rw [HK.out]; exact HT.out.drew, ((HO.out.setCell (by simp) _).setCell (by simp) _).drew⟩
      case measure => simp [intOf]; omega
    · obtain rfl : k = F := by omega
      have HR := LH hr
      have HO := LH ho
      have HW := LH hown
      clear hr ho hown
      go_wp2
      go_ret
      exact ⟨_, rfl, HW.out, HR.out, HO.out⟩
end Go.Proofs.YtplaamfoeaaaiaaGreatDoor
