/- A part of the proofs of the laws of lifelinetop (TopNever, TopLost, TopRoom): contracts of functions that these laws reach. No condition of its own. -/
import Derived.Test.YtplaamfoeaaaiaaGreatDoorG02
import Derived.Test.YtplaamfoeaaaiaaGreatDoorG16
import Derived.Test.YtplaamfoeaaaiaaGreatDoorG19
import Derived.LoopN
import Derived.Deep.RegionHeld3
import Derived.Deep.AppendLies
import Derived.Deep.CutBlock
set_option maxRecDepth 100000
set_option maxHeartbeats 8000000
set_option linter.unusedVariables false
namespace Go.Proofs.YtplaamfoeaaaiaaGreatDoor
open Go.RowKit
theorem TabAt.more {w : World} {ro ro' : List Nat} {T gs gn gf gl cs cn cf cl : Nat} {l : List UInt8} (h : TabAt w ro T gs gn gf gl cs cn cf cl l) (hs : ∀ b, b ∈ ro → b ∈ ro') : TabAt w ro' T gs gn gf gl cs cn cf cl l := by
  obtain ⟨i1, i2, i3, i4, i5⟩ := h.inT
  exact ⟨h.str, ⟨hs _ i1, hs _ i2, hs _ i3, hs _ i4, hs _ i5⟩, h.sets, fun k hk => by obtain ⟨g, c, q1, q2⟩ := h.next k hk; exact ⟨g, c, hs _ q1, q2⟩, h.first, h.last, h.len⟩
theorem info230 : (Tryz.prog.info? 230).map (fun i => (i.zero, i.size, i.bytes)) = some (some (.pointer none), 1, 8) := by kernel_rfl
theorem mk_places (w : World) (n : Nat) (h : n ≤ 64) : (Instr.makeSlice 218 (.int .i64 n) (.int .i64 n)).run Tryz.prog w = .ok (.slice (some ⟨w.heap.size, 0, none⟩) n n) (w.alloc (.cells (madeCells #[.slice none 0 0] n) 244)) := by
  obtain ⟨i, hi, hz, hs, hb⟩ := info_parts info244
  have hmk := run_make (P := Tryz.prog) w 218 244 i (.slice none 0 0) Tryz.underlying218 hi hz .i64 .i64 n n (by omega) (by omega) (by rw [hb]; omega) (by omega)
  rw [hs] at hmk
  simp only [Int.toNat_natCast, Nat.mul_one] at hmk
  exact hmk
theorem made_list (v : Value) (n : Nat) : (madeCells #[v] n).toList = List.replicate n v := by
  rw [List.eq_replicate_iff]
  refine ⟨by simp [madeCells], fun b hb => ?_⟩
  simp [madeCells] at hb
  obtain ⟨x, _, rfl⟩ := hb
  rw [Nat.mod_one]
  rfl
structure EofAt (w : World) (W ga n : Nat) (vt : Value) (k : Nat) (ps : List Value) (ro : List Nat) (ls : List M.B) : Prop where
  str : w.heap[W]? = some (.cells #[vt, .slice (some ⟨ga, 0, none⟩) n n, .int .i64 0, .bool false] 221 (0, 0))
  row : ∃ cs : Array Value, w.heap[ga]? = some (.cells cs 244 (0, 0)) ∧ cs.toList = List.replicate n (.slice none 0 0)
  rt : w.ownsRow (W + 1) 230 1 vt k ps
  tab : ∀ (j : Nat) (l : M.B), j < k → ls[j]? = some l → ∃ T gs gn gf gl cs cn cf cl, ps[j]? = some (.pointer (some ⟨T, 0, none⟩)) ∧ TabAt w ro T gs gn gf gl cs cn cf cl l
  away : ∀ b, b ∈ ro → W < b ∧ vt.ownBlock ≠ some b
  live : Live w ro
  old : ga < W
theorem EofAt.of_none {w w' : World} {W ga n k : Nat} {vt : Value} {ps : List Value} {ro : List Nat} {ls : List M.B} (h : EofAt w W ga n vt k ps ro ls) (ho : Only [] w w') : EofAt w' W ga n vt k ps ro ls := by
  obtain ⟨cs, h2, h3⟩ := h.row
  refine ⟨ho.heap h.str (by simp), ⟨cs, ho.heap h2 (by simp), h3⟩, ownsRow_only h.rt ho (fun g _ => by simp), fun j l hj e => ?_, h.away, h.live.ev ho.size, h.old⟩
  obtain ⟨T, gs, gn, gf, gl, cs, cn, cf, cl, t1, t2⟩ := h.tab j l hj e
  exact ⟨T, gs, gn, gf, gl, cs, cn, cf, cl, t1, t2.of_only ho (fun b _ => by simp)⟩
theorem EofAt.ne {w : World} {W ga n k : Nat} {vt : Value} {ps : List Value} {ro : List Nat} {ls : List M.B} (h : EofAt w W ga n vt k ps ro ls) : vt.ownBlock ≠ some W ∧ vt.ownBlock ≠ some ga :=
  ⟨fun e => by have := (h.rt.lt W e).1; omega, fun e => by have := (h.rt.lt ga e).1; have := h.old; omega⟩
theorem EofAt.push {w w1 : World} {W ga n k : Nat} {vt : Value} {ps : List Value} {ro ro3 : List Nat} {ls : List M.B} {o : Obj} {gg cp T gs gn gf gl cs cn cf cl N : Nat} {l : M.B} (h : EofAt w W ga n vt k ps ro ls) (hl : ls[k]? = some l) (hps : ps.length = k)
    (ht : TabAt w ro3 T gs gn gf gl cs cn cf cl l) (hn : ∀ b, b ∈ ro3 → N ≤ b) (hlv : Live w ro3) (hN : W < N) (hvN : ∀ g, vt.ownBlock = some g → g < N)
    (own : w1.ownsRow (W + 1) 230 1 (.slice (some ⟨gg, 0, none⟩) (k + 1) cp) (k + 1) (ps ++ [.pointer (some ⟨T, 0, none⟩)])) (grow : (w.alloc o).drew.grownBy w1 vt.ownBlock) (at' : vt.ownBlock = some gg ∨ gg = w.heap.size + 1) :
    EofAt (w1.setCell ⟨W, 0, none⟩ (.slice (some ⟨gg, 0, none⟩) (k + 1) cp)) W ga n (.slice (some ⟨gg, 0, none⟩) (k + 1) cp) (k + 1) (ps ++ [.pointer (some ⟨T, 0, none⟩)]) (ro3 ++ ro) ls := by
  have ho := push_only (T := W) (i := 0) (u := .slice (some ⟨gg, 0, none⟩) (k + 1) cp) grow
  obtain ⟨n1, n2⟩ := h.ne
  obtain ⟨ks, r1, r2⟩ := h.row
  have hold := h.old
  have hWl := heap_lt h.str
  have sep0 : Sep ro (W :: ownL vt) := fun b hb hm => by
    obtain ⟨a1, a2⟩ := h.away b hb
    rcases List.mem_cons.1 hm with e | e
    · omega
    · exact a2 (mem_ownL.1 e)
  have sep3 : Sep ro3 (W :: ownL vt) := fun b hb hm => by
    have := hn b hb
    rcases List.mem_cons.1 hm with e | e
    · omega
    · have := hvN b (mem_ownL.1 e); omega
  refine ⟨?_, ⟨ks, ho.heap r1 ?_, r2⟩, push_row own (by omega), fun j l' hj e => ?_, fun b hb => ?_, fun b hb => ?_, h.old⟩
  · have hW1 : w1.heap[W]? = some (.cells #[vt, .slice (some ⟨ga, 0, none⟩) n n, .int .i64 0, .bool false] 221 (0, 0)) := by
      rw [grow.block W (by simp; omega) (Ne.symm n1)]
      exact ((Only.refl [] w).alloc o).heap h.str (by simp)
    exact hs_same hW1 rfl
  · intro hm
    rcases List.mem_cons.1 hm with e | e
    · omega
    · exact n2 (mem_ownL.1 e)
  · by_cases hjk : j < k
    · obtain ⟨T', gs', gn', gf', gl', cs', cn', cf', cl', t1, t2⟩ := h.tab j l' hjk e
      exact ⟨T', gs', gn', gf', gl', cs', cn', cf', cl', by rw [List.getElem?_append_left (by omega)]; exact t1, (t2.of_only ho sep0).more (fun b hb => List.mem_append_right _ hb)⟩
    · obtain rfl : j = k := by omega
      rw [hl] at e
      cases e
      exact ⟨T, gs, gn, gf, gl, cs, cn, cf, cl, by rw [List.getElem?_append_right (by omega), hps]; simp, (ht.of_only ho sep3).more (fun b hb => List.mem_append_left _ hb)⟩
  · have hb' : W < b ∧ vt.ownBlock ≠ some b ∧ b < w.heap.size := by
      rcases List.mem_append.1 hb with h' | h'
      · exact ⟨by have := hn b h'; omega, fun e => by have := hn b h'; have := hvN b e; omega, hlv b h'⟩
      · exact ⟨(h.away b h').1, (h.away b h').2, h.live b h'⟩
    refine ⟨hb'.1, fun e => ?_⟩
    simp [Value.ownBlock] at e
    subst e
    rcases at' with e | e
    · exact hb'.2.1 e
    · have := hb'.2.2; omega
  · rcases List.mem_append.1 hb with h' | h'
    · exact Nat.lt_of_lt_of_le (hlv b h') ho.size
    · exact Nat.lt_of_lt_of_le (h.live b h') ho.size
theorem EofAt.done {w : World} {W ga n : Nat} {vt : Value} {ps : List Value} {ro : List Nat} {ls : List M.B} (h : EofAt w W ga n vt n ps ro ls) (hn : ls.length = n) (hps : ps.length = n) (h0 : 0 < n) (h8 : n ≤ 8) :
    ∃ fp, Watched w W fp (M.watchOf ls) ∧ ∀ b, b ∈ fp → ga ≤ b := by
  subst hn
  obtain ⟨gt, ct, rfl, b1, b2⟩ := row_block h.rt h0
  obtain ⟨cs, r1, r2⟩ := h.row
  have hold := h.old
  have hWl := heap_lt h.str
  refine ⟨W :: ga :: (gt :: ro), ⟨ga, gt, ls.length, ct, gt :: ro, _, rfl, ⟨⟨0, h.str⟩, ⟨cs, r1, r2⟩, ⟨by simp [M.watchOf], by simp [M.watchOf], h8⟩, fun k l v bs e1 e2 e3 => ?_, fun k l e => ?_, by simp, ⟨by omega, ?_, ?_⟩, fun b hb => ?_⟩⟩, fun b hb => ?_⟩
  · left
    obtain ⟨_, _, e4⟩ := List.mem_map.1 (List.mem_of_getElem? e3)
    exact ⟨List.eq_of_mem_replicate (List.mem_of_getElem? e2), e4.symm⟩
  · have hk := (List.getElem?_eq_some_iff.1 e).1
    have hk' : k < ls.length := hk
    obtain ⟨T, gs, gn, gf, gl, cs', cn, cf, cl, t1, t2⟩ := h.tab k l hk' e
    exact ⟨T, gs, gn, gf, gl, cs', cn, cf, cl, (h.rt.cellAt k (by omega)).trans t1, t2.more (fun b hb => List.mem_cons_of_mem _ hb)⟩
  · intro hm
    rcases List.mem_cons.1 hm with e | e
    · omega
    · have := (h.away _ e).1; omega
  · intro hm
    rcases List.mem_cons.1 hm with e | e
    · omega
    · have := (h.away _ e).1; omega
  · rcases List.mem_cons.1 hb with rfl | hb
    · exact b2
    · exact h.live b hb
  · simp only [List.mem_cons] at hb
    rcases hb with rfl | rfl | rfl | hb
    · omega
    · exact Nat.le_refl _
    · omega
    · have := (h.away _ hb).1; omega
theorem eof_any (gp cp : Nat) (ls : List ByteArray) (w : World) (h0 : 0 < ls.length) (h8 : ls.length ≤ 8) (hc : ∀ (k : Nat) (s : ByteArray), ls[k]? = some s → w.cell? ⟨gp, k, none⟩ = some (.string s)) (hs : ∀ s, s ∈ ls → Plain s ∧ 0 < s.size ∧ s.size ≤ 64) :
    Calls Tryz.prog 87 #[.slice (some ⟨gp, 0, none⟩) ls.length cp] w fun e w' => ∃ W fp, e = .returned (.tuple #[.pointer (some ⟨W, 0, none⟩), .nilIface]) ∧ Watched w' W fp (M.watchOf (ls.map fun s => s.data.toList)) ∧ (∀ b, b ∈ fp → w.heap.size ≤ b) ∧ Only [] w w' := by
  obtain ⟨n, hn⟩ : ∃ n, n = ls.length := ⟨_, rfl⟩
  rw [← hn] at h0 h8
  obtain ⟨ga, hga⟩ : ∃ ga, ga = w.heap.size := ⟨_, rfl⟩
  obtain ⟨W, hW⟩ : ∃ W, W = ga + 1 := ⟨_, rfl⟩
  have hmk := fun w => mk_places w n (by omega)
  have d0 : ((n : Int) == 0) = false := by simp; omega
  have HH := LH (AI hn (AI hga (AI hW (AI hc hs))))
  rw [← hn]
  clear hn hga hW hc hs
  go_enter Tryz.func87, Tryz.ntmps87
  go_wp2_with fail
  obtain ⟨w1, hw1⟩ : ∃ w1, w1 = (w.alloc (.cells (madeCells #[.slice none 0 0] n) 244)).alloc (.cells #[.slice none 0 0, .slice (some ⟨ga, 0, none⟩) n n, .int .i64 0, .bool false] 221) := ⟨_, rfl⟩
  have hE0 : EofAt w1 W ga n (.slice none 0 0) 0 [] [] (ls.map fun s => s.data.toList) := by
    obtain ⟨hn, hga, hW, hc, hs⟩ := HH.out
    have e1 := heap_alloc_new w (.cells (madeCells #[.slice none 0 0] n) 244)
    rw [← hga] at e1
    have e2 := heap_alloc_new (w.alloc (.cells (madeCells #[.slice none 0 0] n) 244)) (.cells #[.slice none 0 0, .slice (some ⟨ga, 0, none⟩) n n, .int .i64 0, .bool false] 221)
    have e3 : (w.alloc (.cells (madeCells #[.slice none 0 0] n) 244)).heap.size = W := by rw [hW, hga]; simp
    rw [e3, ← hw1] at e2
    have o1 : Only [] (w.alloc (.cells (madeCells #[.slice none 0 0] n) 244)) w1 := by rw [hw1]; exact (Only.refl [] _).alloc _
    exact ⟨e2, ⟨_, o1.heap e1 (by simp), made_list _ _⟩, World.ownsRow_nil _ _ _ _, fun j l hj => absurd hj (Nat.not_lt_zero _), fun b hb => by simp at hb, fun b hb => by simp at hb, by omega⟩
  have ho1 : Only [] w w1 := by rw [hw1]; exact ((Only.refl [] w).alloc _).alloc _
  rw [← HH.out.2.1, ← HH.out.2.2.1, ← hw1]
  have HE := LH (AI hE0 ho1)
  clear hE0 ho1 hw1 hmk d0
  go_loopw [26] (fun s26 wr => ∃ (k : Nat) (vt : Value) (ps : List Value) (ro : List Nat), k ≤ n ∧ s26 = .int .i64 k ∧ ps.length = k ∧ EofAt wr W ga n vt k ps ro (ls.map fun s => s.data.toList) ∧ Only [] w wr) (fun s26 _ => n - (intOf s26).toNat)
  case atStart => exact ⟨0, _, [], [], Nat.zero_le _, rfl, rfl, HE.out.1, HE.out.2⟩
  case round =>
    obtain ⟨k, vt, ps, ro, hk, rfl, hps, he, ho⟩ := hrel
    by_cases hlt : k < n
    · obtain ⟨s, hs⟩ : ∃ s, ls[k]? = some s := ⟨_, List.getElem?_eq_getElem (by rw [← HH.out.1]; exact hlt)⟩
      obtain ⟨p1, p2, p3⟩ := HH.out.2.2.2.2 s (List.mem_of_getElem? hs)
      obtain ⟨av, cv, rfl⟩ := own_slice he.rt
      have cs := ho.cell (HH.out.2.2.2.1 k s hs) (by simp)
      have i1 : (k : Int) < (n : Int) := by omega
      have i2 : (0 : Int) ≤ (k : Int) := by omega
      have HX := LH (AI hs (AI p1 (AI p2 (AI p3 (AI hps (AI he ho))))))
      clear hs p1 p2 p3 hps he ho
      go_upto_region 7 with fail
      go_wp2_with (go_at_call 104; refine (rparse_any s _ HX.out.2.2.2.1 HX.out.2.2.1 HX.out.2.1).mono ?_; rintro e w2 ⟨x, rfl, hx, ho2⟩; obtain ⟨kd, n1, n2, n3, n4, a, m, c, rfl⟩ := hx.form; have HZ := LH (AI hx ho2); clear hx ho2)
      refine (nof_any _ _ _ _ (HZ.out.1.of_only ((Only.refl [] w2).alloc _) (by simp)) (by rw [Array.length_toList]; exact HX.out.2.2.2.1)).mono ?_
      rintro e w3 ⟨T, gs, gn, gf, gl, cs', cn, cf, cl, ro3, rfl, htab, hro3, ho3, hlv3⟩
      have o23 : Only [] wr w3 := (HZ.out.2.alloc _).trans ho3
      have he3 := HX.out.2.2.2.2.2.1.of_none o23
      have HT := LH (AI htab (AI hro3 (AI ho3 (AI o23 hlv3))))
      have hem := tempty_any ro3 T gs gn gf gl cs' cn cf cl s.data.toList w3 htab
      have t0 : w3.cell? ⟨W, 0, none⟩ = some (.slice av k cv) := cell_at he3.str rfl
      have f0 : w3.frozen? ⟨W, 0, none⟩ = false := free_at he3.str
      have hWl := heap_lt he3.str
      have hne := he3.ne.1
      obtain ⟨i4, a0, a1, a2, a3⟩ := info_parts info230
      have HI := LH (AI a0 (AI a1 (AI a2 (AI a3 he3.rt))))
      have HE3 := LH he3
      have HM := LH hem
      clear htab hro3 ho3 o23 hlv3 he3 hem a0 a1 a2 a3
      go_upto_region 13 with (go_at_call 106; with_reducible refine HM.out.mono ?_; rintro e w4 ⟨rfl, rfl⟩)
      go_wp2_with (at_builtin; refine wpList_append_lies _ rfl (.tmp 47) (.tmp 49) 219 rfl (W + 1) 230 i4 (.pointer none) 1 8 Tryz.underlying219 HI.out.1 HI.out.2.1 HI.out.2.2.1 HI.out.2.2.2.1 rfl (by omega) (.slice av k cv) k ps rfl (HI.out.2.2.2.2.alloc _) ⟨w3.heap.size, 0, none⟩ 1 1 [.pointer (some ⟨T, 0, none⟩)] rfl rfl (World.news_of_block (cs := #[.pointer (some ⟨T, 0, none⟩)]) (t := 230) (fr := (0, 0)) (heap_alloc_new w3 _)) (by simp [Value.oneCell']) (by omega) (by unfold maxLen; omega) (by omega) (by simp; omega) (w3.heap.size + 1) (by simp) ?_; intro gg cp' w6 own6 grow6 at6 lt6; have f26 : w6.frozen? ⟨W, 0, none⟩ = false := (grow6.frozen_far ⟨W, 0, none⟩ (by simp; omega) (Ne.symm hne)).trans ((World.frozen?_alloc_past _ _ _ (by omega)).trans f0); have cv26 : w6.cell? ⟨W, 0, none⟩ = some (.slice av k cv) := (grow6.cell_far ⟨W, 0, none⟩ (by simp; omega) (Ne.symm hne)).trans ((World.cell?_alloc_past _ _ _ (by omega)).trans t0))
      obtain ⟨htab, hro3, ho3, o23, hlv3⟩ := HT.out
      have hsw : wr.heap.size ≤ (w2.alloc (.cells (nodeA kd n1 n2 n3 n4 a m c) 227)).heap.size := (HZ.out.2.alloc _).size
      have hpush := HE3.out.push (N := wr.heap.size) (by rw [List.getElem?_map, HX.out.1]; rfl) HX.out.2.2.2.2.1 htab (fun b hb => Nat.le_trans hsw (hro3 b hb)) hlv3 (heap_lt HX.out.2.2.2.2.2.1.str) (fun g e => (HX.out.2.2.2.2.2.1.rt.lt g e).2) own6 (grown_drew grow6) at6
      refine ⟨⟨k + 1, _, _, _, by omega, by go_num, by simp [HX.out.2.2.2.2.1], hpush, ?_⟩, by simp [intOf]; omega⟩
      refine (HX.out.2.2.2.2.2.2.trans o23).trans' (push_only (grown_drew grow6)) ?_
      intro b hb
      right
      have e1 := HH.out.2.1
      have e2 := HH.out.2.2.1
      rcases List.mem_cons.1 hb with h' | h'
      · omega
      · have := (HE3.out.rt.lt b (mem_ownL.1 h')).1; omega
    · obtain rfl : k = n := by omega
      have HX := LH (AI hps (AI he ho))
      clear hps he ho
      go_wp2_with fail
      go_ret2
      obtain ⟨fp, f1, f2⟩ := EofAt.done HX.out.2.1 (by simp; exact HH.out.1.symm) HX.out.1 h0 h8
      exact ⟨W, fp, rfl, f1, fun b hb => by have := f2 b hb; have := HH.out.2.1; omega, HX.out.2.2⟩
def dlgCells (D0 : Nat) : Array Value :=
  #[.string ⟨#[97]⟩, .int .i64 0, .string ⟨#[13]⟩, .slice none 0 0, .int .i64 0, .string ⟨#[]⟩, .int .i64 0,
    .string ⟨#[]⟩, .int .i64 1, .string ⟨#[]⟩, .slice (some ⟨D0, 0, none⟩) 1 1, .int .i64 8, .string ⟨#[99]⟩, .int .i64 0,
    .string ⟨#[99]⟩, .int .i64 3, .string ⟨#[]⟩, .slice none 0 0, .int .i64 5, .string ⟨#[97]⟩, .int .i64 0,
    .string ⟨#[]⟩, .int .i64 5, .string ⟨#[]⟩, .slice none 0 0, .int .i64 0, .string ⟨#[]⟩, .int .i64 0,
    .string ⟨#[98]⟩, .int .i64 4, .string ⟨#[]⟩, .slice none 0 0, .int .i64 0, .string ⟨#[]⟩, .int .i64 0]
structure DlgAt (w : World) (D D0 : Nat) : Prop where
  arm : w.heap[D0]? = some (.cells #[.string ⟨#[61, 62, 32]⟩, .string ⟨#[98]⟩] 194 (0, 0))
  row : ∃ cs : Array Value, w.heap[D]? = some (.cells cs 192 (0, 0)) ∧ cs.toList.take 35 = (dlgCells D0).toList
theorem DlgAt.of_only {w w' : World} {D D0 : Nat} {ks : List Nat} (h : DlgAt w D D0) (ho : Only ks w w') (hs : Sep [D, D0] ks) : DlgAt w' D D0 :=
  ⟨ho.heap h.arm (hs _ (by simp)), by obtain ⟨cs, h1, h2⟩ := h.row; exact ⟨cs, ho.heap h1 (hs _ (by simp)), h2⟩⟩
theorem DlgAt.of_none {w w' : World} {D D0 : Nat} (h : DlgAt w D D0) (ho : Only [] w w') : DlgAt w' D D0 := h.of_only ho (fun b _ => by simp)
theorem DlgAt.cell {w : World} {D D0 : Nat} (h : DlgAt w D D0) (k : Nat) {v : Value} (e : (dlgCells D0).toList[k]? = some v) : w.cell? ⟨D, k, none⟩ = some v := by
  obtain ⟨cs, h1, h2⟩ := h.row
  have hk : k < 35 := (List.getElem?_eq_some_iff.1 e).1
  rw [← h2, List.getElem?_take, if_pos hk] at e
  exact cell_at h1 (by simpa using e)
theorem DlgAt.lt {w : World} {D D0 : Nat} (h : DlgAt w D D0) : D < w.heap.size := by
  obtain ⟨cs, h1, _⟩ := h.row
  exact heap_lt h1
theorem DlgAt.s0 {w : World} {D D0 : Nat} (h : DlgAt w D D0) : w.cell? ⟨D, 0, none⟩ = some (.string ⟨#[97]⟩) ∧ w.cell? ⟨D, 1, none⟩ = some (.int .i64 0) ∧ w.cell? ⟨D, 2, none⟩ = some (.string ⟨#[13]⟩) ∧ w.cell? ⟨D, 3, none⟩ = some (.slice none 0 0) ∧ w.cell? ⟨D, 4, none⟩ = some (.int .i64 0) ∧ w.cell? ⟨D, 5, none⟩ = some (.string ⟨#[]⟩) ∧ w.cell? ⟨D, 6, none⟩ = some (.int .i64 0) :=
  ⟨h.cell 0 rfl, h.cell 1 rfl, h.cell 2 rfl, h.cell 3 rfl, h.cell 4 rfl, h.cell 5 rfl, h.cell 6 rfl⟩
theorem DlgAt.s1 {w : World} {D D0 : Nat} (h : DlgAt w D D0) : w.cell? ⟨D, 7, none⟩ = some (.string ⟨#[]⟩) ∧ w.cell? ⟨D, 8, none⟩ = some (.int .i64 1) ∧ w.cell? ⟨D, 9, none⟩ = some (.string ⟨#[]⟩) ∧ w.cell? ⟨D, 10, none⟩ = some (.slice (some ⟨D0, 0, none⟩) 1 1) ∧ w.cell? ⟨D, 11, none⟩ = some (.int .i64 8) ∧ w.cell? ⟨D, 12, none⟩ = some (.string ⟨#[99]⟩) ∧ w.cell? ⟨D, 13, none⟩ = some (.int .i64 0) :=
  ⟨h.cell 7 rfl, h.cell 8 rfl, h.cell 9 rfl, h.cell 10 rfl, h.cell 11 rfl, h.cell 12 rfl, h.cell 13 rfl⟩
theorem DlgAt.s2 {w : World} {D D0 : Nat} (h : DlgAt w D D0) : w.cell? ⟨D, 14, none⟩ = some (.string ⟨#[99]⟩) ∧ w.cell? ⟨D, 15, none⟩ = some (.int .i64 3) ∧ w.cell? ⟨D, 16, none⟩ = some (.string ⟨#[]⟩) ∧ w.cell? ⟨D, 17, none⟩ = some (.slice none 0 0) ∧ w.cell? ⟨D, 18, none⟩ = some (.int .i64 5) ∧ w.cell? ⟨D, 19, none⟩ = some (.string ⟨#[97]⟩) ∧ w.cell? ⟨D, 20, none⟩ = some (.int .i64 0) :=
  ⟨h.cell 14 rfl, h.cell 15 rfl, h.cell 16 rfl, h.cell 17 rfl, h.cell 18 rfl, h.cell 19 rfl, h.cell 20 rfl⟩
theorem DlgAt.s3 {w : World} {D D0 : Nat} (h : DlgAt w D D0) : w.cell? ⟨D, 21, none⟩ = some (.string ⟨#[]⟩) ∧ w.cell? ⟨D, 22, none⟩ = some (.int .i64 5) ∧ w.cell? ⟨D, 23, none⟩ = some (.string ⟨#[]⟩) ∧ w.cell? ⟨D, 24, none⟩ = some (.slice none 0 0) ∧ w.cell? ⟨D, 25, none⟩ = some (.int .i64 0) ∧ w.cell? ⟨D, 26, none⟩ = some (.string ⟨#[]⟩) ∧ w.cell? ⟨D, 27, none⟩ = some (.int .i64 0) :=
  ⟨h.cell 21 rfl, h.cell 22 rfl, h.cell 23 rfl, h.cell 24 rfl, h.cell 25 rfl, h.cell 26 rfl, h.cell 27 rfl⟩
theorem DlgAt.s4 {w : World} {D D0 : Nat} (h : DlgAt w D D0) : w.cell? ⟨D, 28, none⟩ = some (.string ⟨#[98]⟩) ∧ w.cell? ⟨D, 29, none⟩ = some (.int .i64 4) ∧ w.cell? ⟨D, 30, none⟩ = some (.string ⟨#[]⟩) ∧ w.cell? ⟨D, 31, none⟩ = some (.slice none 0 0) ∧ w.cell? ⟨D, 32, none⟩ = some (.int .i64 0) ∧ w.cell? ⟨D, 33, none⟩ = some (.string ⟨#[]⟩) ∧ w.cell? ⟨D, 34, none⟩ = some (.int .i64 0) :=
  ⟨h.cell 28 rfl, h.cell 29 rfl, h.cell 30 rfl, h.cell 31 rfl, h.cell 32 rfl, h.cell 33 rfl, h.cell 34 rfl⟩
theorem DlgAt.a0 {w : World} {D D0 : Nat} (h : DlgAt w D D0) : w.cell? ⟨D0, 0, none⟩ = some (.string ⟨#[61, 62, 32]⟩) ∧ w.cell? ⟨D0, 1, none⟩ = some (.string ⟨#[98]⟩) := ⟨cell_at h.arm rfl, cell_at h.arm rfl⟩
theorem wake_any (w : World) : Calls Tryz.prog 63 #[] w fun e w' => ∃ D D0, e = .returned (.slice (some ⟨D, 0, none⟩) 5 5) ∧ DlgAt w' D D0 ∧ w.heap.size ≤ D ∧ w.heap.size ≤ D0 ∧ Only [] w w' := by
  go_enter Tryz.func63, Tryz.ntmps63
  go_wp2_with fail
  go_ret
  refine ⟨_, w.heap.size, rfl, ⟨?_, ?_⟩, by omega, Nat.le_refl _, ((Only.refl [] w).alloc _).alloc _⟩
  · exact ((Only.refl [] _).alloc _).heap (heap_alloc_new w _) (by simp)
  · have h := heap_alloc_new (w.alloc (.cells #[.string ⟨#[61, 62, 32]⟩, .string ⟨#[98]⟩] 194)) (.cells (dlgCells w.heap.size) 192)
    have e : (w.alloc (.cells #[.string ⟨#[61, 62, 32]⟩, .string ⟨#[98]⟩] 194)).heap.size = w.heap.size + 1 := by simp
    rw [e] at h
    exact ⟨_, h, rfl⟩
theorem find_a (w : World) (D D0 c : Nat) (h : DlgAt w D D0) : Calls Tryz.prog 86 #[.slice (some ⟨D, 0, none⟩) 5 c, .string ⟨#[97]⟩] w fun e w' => e = .returned (.int .i64 0) ∧ Only [] w w' := by
  have H0 := LH (AI h (Only.refl [] w))
  clear h
  go_enter Tryz.func86, Tryz.ntmps86
  go_wp2_with fail
  refine wp_loop_rounds 1 ?_
  obtain ⟨a0, a1, a2, a3, a4, a5, a6⟩ := H0.out.1.s0
  show Code.wp _ _ (Exit.then (Code.rounds _ _ _ 0) _) _ _
  go_wp2_with fail
  go_ret
  exact ⟨rfl, H0.out.2.alloc _⟩
theorem find_c (w : World) (D D0 c : Nat) (h : DlgAt w D D0) : Calls Tryz.prog 86 #[.slice (some ⟨D, 0, none⟩) 5 c, .string ⟨#[99]⟩] w fun e w' => e = .returned (.int .i64 2) ∧ Only [] w w' := by
  have H0 := LH (AI h (Only.refl [] w))
  clear h
  go_enter Tryz.func86, Tryz.ntmps86
  go_wp2_with fail
  refine wp_loop_rounds 3 ?_
  obtain ⟨a0, a1, a2, a3, a4, a5, a6⟩ := H0.out.1.s0
  show Code.wp _ _ (Exit.then (Code.rounds _ _ _ 2) _) _ _
  go_wp2_with fail
  generalize hw0 : World.alloc _ _ = w1
  have H1 := LH (show DlgAt w1 D D0 ∧ Only [] w w1 by subst hw0; exact ⟨H0.out.1.of_none ((Only.refl [] _).alloc _), H0.out.2.alloc _⟩)
  clear hw0 a0 a1 a2 a3 a4 a5 a6
  obtain ⟨a0, a1, a2, a3, a4, a5, a6⟩ := H1.out.1.s1
  show Code.wp _ _ (Exit.then (Code.rounds _ _ _ 1) _) _ _
  go_wp2_with fail
  generalize hw1 : World.alloc _ _ = w2
  have H2 := LH (show DlgAt w2 D D0 ∧ Only [] w w2 by subst hw1; exact ⟨H1.out.1.of_none ((Only.refl [] _).alloc _), H1.out.2.alloc _⟩)
  clear hw1 a0 a1 a2 a3 a4 a5 a6
  obtain ⟨a0, a1, a2, a3, a4, a5, a6⟩ := H2.out.1.s2
  show Code.wp _ _ (Exit.then (Code.rounds _ _ _ 0) _) _ _
  go_wp2_with fail
  go_ret
  exact ⟨rfl, H2.out.2.alloc _⟩
theorem find_b (w : World) (D D0 c : Nat) (h : DlgAt w D D0) : Calls Tryz.prog 86 #[.slice (some ⟨D, 0, none⟩) 5 c, .string ⟨#[98]⟩] w fun e w' => e = .returned (.int .i64 4) ∧ Only [] w w' := by
  have H0 := LH (AI h (Only.refl [] w))
  clear h
  go_enter Tryz.func86, Tryz.ntmps86
  go_wp2_with fail
  refine wp_loop_rounds 5 ?_
  obtain ⟨a0, a1, a2, a3, a4, a5, a6⟩ := H0.out.1.s0
  show Code.wp _ _ (Exit.then (Code.rounds _ _ _ 4) _) _ _
  go_wp2_with fail
  generalize hw0 : World.alloc _ _ = w1
  have H1 := LH (show DlgAt w1 D D0 ∧ Only [] w w1 by subst hw0; exact ⟨H0.out.1.of_none ((Only.refl [] _).alloc _), H0.out.2.alloc _⟩)
  clear hw0 a0 a1 a2 a3 a4 a5 a6
  obtain ⟨a0, a1, a2, a3, a4, a5, a6⟩ := H1.out.1.s1
  show Code.wp _ _ (Exit.then (Code.rounds _ _ _ 3) _) _ _
  go_wp2_with fail
  generalize hw1 : World.alloc _ _ = w2
  have H2 := LH (show DlgAt w2 D D0 ∧ Only [] w w2 by subst hw1; exact ⟨H1.out.1.of_none ((Only.refl [] _).alloc _), H1.out.2.alloc _⟩)
  clear hw1 a0 a1 a2 a3 a4 a5 a6
  obtain ⟨a0, a1, a2, a3, a4, a5, a6⟩ := H2.out.1.s2
  show Code.wp _ _ (Exit.then (Code.rounds _ _ _ 2) _) _ _
  go_wp2_with fail
  generalize hw2 : World.alloc _ _ = w3
  have H3 := LH (show DlgAt w3 D D0 ∧ Only [] w w3 by subst hw2; exact ⟨H2.out.1.of_none ((Only.refl [] _).alloc _), H2.out.2.alloc _⟩)
  clear hw2 a0 a1 a2 a3 a4 a5 a6
  obtain ⟨a0, a1, a2, a3, a4, a5, a6⟩ := H3.out.1.s3
  show Code.wp _ _ (Exit.then (Code.rounds _ _ _ 1) _) _ _
  go_wp2_with fail
  generalize hw3 : World.alloc _ _ = w4
  have H4 := LH (show DlgAt w4 D D0 ∧ Only [] w w4 by subst hw3; exact ⟨H3.out.1.of_none ((Only.refl [] _).alloc _), H3.out.2.alloc _⟩)
  clear hw3 a0 a1 a2 a3 a4 a5 a6
  obtain ⟨a0, a1, a2, a3, a4, a5, a6⟩ := H4.out.1.s4
  show Code.wp _ _ (Exit.then (Code.rounds _ _ _ 0) _) _ _
  go_wp2_with fail
  go_ret
  exact ⟨rfl, H4.out.2.alloc _⟩
theorem info9s : (Tryz.prog.info? 9).map (fun i => (i.zero, i.size, i.bytes)) = some (some (.string ⟨#[]⟩), 1, 16) := by kernel_rfl
theorem step_new (w : World) (x0 x1 x2 x3 x4 x5 x6 : Value) : (w.alloc (.cells #[x0, x1, x2, x3, x4, x5, x6] 192)).heap[w.heap.size]? = some (.cells #[x0, x1, x2, x3, x4, x5, x6] 192 (0, 0)) := heap_alloc_new w _
theorem plain_arrow : Plain ⟨#[61, 62, 32]⟩ := by
  intro k h
  have h3 : k < 3 := h
  match k, h3 with
  | 0, _ => exact (by unfold plainC; decide : plainC 61)
  | 1, _ => exact (by unfold plainC; decide : plainC 62)
  | 2, _ => exact (by unfold plainC; decide : plainC 32)
theorem new0 (w : World) (a b : Obj) : ((w.alloc a).alloc b).heap[w.heap.size]? = some a := ((Only.refl [] (w.alloc a)).alloc b).heap (heap_alloc_new w a) (by simp)
theorem new1 (w : World) (a b : Obj) : ((w.alloc a).alloc b).heap[w.heap.size + 1]? = some b := by
  have h := heap_alloc_new (w.alloc a) b
  rw [show (w.alloc a).heap.size = w.heap.size + 1 by simp] at h
  exact h
theorem step_cells {w : World} {N : Nat} {x0 x1 x2 x3 x4 x5 x6 : Value} (h : w.heap[N]? = some (.cells #[x0, x1, x2, x3, x4, x5, x6] 192 (0, 0))) :
    w.cell? ⟨N, 0, none⟩ = some x0 ∧ w.cell? ⟨N, 1, none⟩ = some x1 ∧ w.cell? ⟨N, 3, none⟩ = some x3 ∧ w.cell? ⟨N, 4, none⟩ = some x4 ∧ w.cell? ⟨N, 5, none⟩ = some x5 :=
  ⟨cell_at h rfl, cell_at h rfl, cell_at h rfl, cell_at h rfl, cell_at h rfl⟩
theorem check_dlg (w : World) (D D0 : Nat) (h : DlgAt w D D0) : Calls Tryz.prog 64 #[.slice (some ⟨D, 0, none⟩) 5 5] w fun e w' => e = .returned (.tuple #[.int .i64 0, .nilIface]) ∧ Only [] w w' := by
  obtain ⟨i4, e0, e1, e2, e3⟩ := info_parts info9s
  have H0 := LH (AI h (Only.refl [] w))
  have HI := LH (AI e0 (AI e1 (AI e2 e3)))
  clear h e0 e1 e2 e3
  go_enter Tryz.func64, Tryz.ntmps64
  go_wp2_with fail
  refine wp_loop_rounds 6 ?_
  -- the send
  obtain ⟨a0, a1, a2, a3, a4, a5, a6⟩ := H0.out.1.s0
  show Code.wp _ _ (Exit.then (Code.rounds _ _ _ 5) _) _ _
  go_upto_region 6 with fail
  obtain ⟨N, hN⟩ : ∃ N, N = w.heap.size := ⟨_, rfl⟩
  generalize hwa : World.alloc _ _ = wa
  have HA := LH (show wa.heap[N]? = some (.cells #[.string ⟨#[97]⟩, .int .i64 0, .string ⟨#[13]⟩, .slice none 0 0, .int .i64 0, .string ⟨#[]⟩, .int .i64 0] 192 (0, 0)) ∧ DlgAt wa D D0 ∧ Only [] w wa by subst hwa hN; exact ⟨step_new _ _ _ _ _ _ _ _, H0.out.1.of_none ((Only.refl [] _).alloc _), H0.out.2.alloc _⟩)
  rw [← hN]
  clear hwa hN a0 a1 a2 a3 a4 a5 a6
  obtain ⟨b0, b1, b3, b4, b5⟩ := step_cells HA.out.1
  go_upto_region 9 with (go_at_call 86; refine (find_a _ D D0 5 HA.out.2.1).mono ?_; rintro e w1 ⟨rfl, ho1⟩; have HB := LH ho1; clear ho1)
  obtain ⟨c0, c1, c3, c4, c5⟩ := step_cells (HB.out.heap HA.out.1 (by simp))
  clear b0 b1 b3 b4 b5
  go_wp2_with fail
  refine wp_loop_rounds 1 ?_
  show Code.wp _ _ (Exit.then (Code.rounds _ _ _ 0) _) _ _
  go_wp2_with fail
  have H1 := LH (show DlgAt w1 D D0 ∧ Only [] w w1 from ⟨HA.out.2.1.of_none HB.out, HA.out.2.2.trans HB.out⟩)
  clear HA HB c0 c1 c3 c4 c5
  -- the expect
  obtain ⟨a0, a1, a2, a3, a4, a5, a6⟩ := H1.out.1.s1
  show Code.wp _ _ (Exit.then (Code.rounds _ _ _ 4) _) _ _
  go_upto_region 6 with fail
  obtain ⟨N, hN⟩ : ∃ N, N = w1.heap.size := ⟨_, rfl⟩
  generalize hwa : World.alloc _ _ = wa
  have HA := LH (show wa.heap[N]? = some (.cells #[.string ⟨#[]⟩, .int .i64 1, .string ⟨#[]⟩, .slice (some ⟨D0, 0, none⟩) 1 1, .int .i64 8, .string ⟨#[99]⟩, .int .i64 0] 192 (0, 0)) ∧ DlgAt wa D D0 ∧ Only [] w wa by subst hwa hN; exact ⟨step_new _ _ _ _ _ _ _ _, H1.out.1.of_none ((Only.refl [] _).alloc _), H1.out.2.alloc _⟩)
  rw [← hN]
  clear hwa hN a0 a1 a2 a3 a4 a5 a6
  obtain ⟨b0, b1, b3, b4, b5⟩ := step_cells HA.out.1
  go_upto_region 11 with (at_builtin; refine wpList_append_lies _ rfl (.tmp 56) (.tmp 59) 71 rfl wa.heap.size 9 i4 (.string ⟨#[]⟩) 1 16 Tryz.underlying71 HI.out.1 HI.out.2.1 HI.out.2.2.1 HI.out.2.2.2 rfl (by omega) (.slice none 0 0) 0 [] rfl (World.ownsRow_nil _ _ _ _) ⟨wa.heap.size, 0, none⟩ 1 1 [.string ⟨#[99]⟩] rfl rfl (World.news_of_block (cs := #[.string ⟨#[99]⟩]) (t := 9) (fr := (0, 0)) (heap_alloc_new wa _)) (by simp [Value.oneCell']) (by omega) (by unfold maxLen; omega) (by omega) (by simp) (wa.heap.size + 1) (by simp) ?_; intro g6 c6 w8 own8 grow8 at8 lt8)
  have HB := LH (show Only [] wa w8 ∧ w8.ownsRow wa.heap.size 9 1 (.slice (some ⟨g6, 0, none⟩) 1 c6) 1 [.string ⟨#[99]⟩] from ⟨(((Only.refl [] wa).alloc _).trans ((only_grown grow8).weaken (by simp [Value.ownBlock]))), own8⟩)
  clear own8 grow8 at8 lt8 b0 b1 b3 b4 b5
  obtain ⟨c0, c1, c3, c4, c5⟩ := step_cells (HB.out.1.heap HA.out.1 (by simp))
  obtain ⟨d0, d1⟩ := (HA.out.2.1.of_none HB.out.1).a0
  go_upto_region 14 with fail
  refine wp_loop_rounds 2 ?_
  show Code.wp _ _ (Exit.then (Code.rounds _ _ _ 1) _) _ _
  go_upto_block 3 with fail
  go_cut [6, 7] (fun s6 s7 wx => ∃ g c g7 c7, s6 = .slice (some ⟨g, 0, none⟩) 2 c ∧ s7 = .slice (some ⟨g7, 0, none⟩) 1 c7 ∧ wx.ownsRow 0 9 1 s6 2 [.string ⟨#[99]⟩, .string ⟨#[98]⟩] ∧ wx.ownsRow 0 9 1 s7 1 [.string ⟨#[61, 62, 32]⟩] ∧ Only [] wa wx)
  case first =>
    go_upto_region 16 with fail
    obtain ⟨M, hM⟩ : ∃ M, M = w8.heap.size := ⟨_, rfl⟩
    generalize hw9 : World.alloc _ _ = w9
    have H9 := LH (show Only [] wa w9 ∧ w9.ownsRow wa.heap.size 9 1 (.slice (some ⟨g6, 0, none⟩) 1 c6) 1 [.string ⟨#[99]⟩] ∧ w9.heap[M]? = some (.cells #[.string ⟨#[61, 62, 32]⟩, .string ⟨#[98]⟩] 194 (0, 0)) ∧ wa.heap.size ≤ w9.heap.size ∧ g6 < M by
      subst hw9 hM
      exact ⟨HB.out.1.alloc _, HB.out.2.alloc _, heap_alloc_new w8 _, ((Only.refl [] w8).alloc _ |> fun h => Nat.le_trans HB.out.1.size h.size), (HB.out.2.lt g6 rfl).2⟩)
    rw [← hM]
    clear hw9 hM c0 c1 c3 c4 c5 d0 d1
    have m0 : w9.cell? ⟨M, 0, none⟩ = some (.string ⟨#[61, 62, 32]⟩) := cell_at H9.out.2.2.1 rfl
    have m1 : w9.cell? ⟨M, 1, none⟩ = some (.string ⟨#[98]⟩) := cell_at H9.out.2.2.1 rfl
    have hs9 := H9.out.2.2.2.1
    have hM6 := H9.out.2.2.2.2
    have h6a : wa.heap.size ≤ g6 := (H9.out.2.1.lt g6 rfl).1
    have h69 : g6 < w9.heap.size := (H9.out.2.1.lt g6 rfl).2
    have hM9 : M < w9.heap.size := heap_lt H9.out.2.2.1
    go_region_held3 (fun w' => w'.cell? ⟨M, 0, none⟩ = some (.string ⟨#[61, 62, 32]⟩) ∧ w'.cell? ⟨M, 1, none⟩ = some (.string ⟨#[98]⟩))
      (first | exact ⟨m0, m1⟩ | go_keep)
      (first
      | (refine step_append_lies _ (by rfl) (.tmp 76) (.tmp 79) 71 (by rfl) wa.heap.size 9 i4 _ 1 16 Tryz.underlying71 HI.out.1 HI.out.2.1 HI.out.2.2.1 HI.out.2.2.2 rfl (by omega) (.slice none 0 0) 0 [] (by rfl) (World.ownsRow_nil _ _ _ _) _ 1 1 [.string ⟨#[61, 62, 32]⟩] rfl (by rfl) (World.news_of_block (cs := #[.string ⟨#[61, 62, 32]⟩]) (t := 9) (fr := (0, 0)) (by first | exact heap_alloc_new _ _ | exact (only_grown grow2).heap (new0 w9 _ _) (by simp [Value.ownBlock]; omega) | exact (only_grown grow2).heap (new1 w9 _ _) (by simp [Value.ownBlock]; omega))) (by simp [Value.oneCell']) (by omega) (by unfold maxLen; omega) (by omega) (by have := O2.size; simp; omega) _ rfl ?_; intro g7 c7 w7 own7 grow7 at7 lt7; have O27 : Only [] w2 w7 := (by first | exact ((Only.refl [] w2).alloc _).trans ((only_grown grow7).weaken (by simp [Value.ownBlock])) | exact ((only_grown grow7).weaken (by simp [Value.ownBlock]))); have m07 := O27.cell m02 (by simp); have m17 := O27.cell m12 (by simp))
      | (go_loud (refine step_append_lies _ (by rfl) (.tmp 71) (.tmp 74) 71 (by rfl) wa.heap.size 9 i4 _ 1 16 Tryz.underlying71 HI.out.1 HI.out.2.1 HI.out.2.2.1 HI.out.2.2.2 rfl (by omega) (.slice (some ⟨g6, 0, none⟩) 1 c6) 1 [.string ⟨#[99]⟩] (by rfl) (by first | exact (H9.out.2.1.alloc _).drew | exact ((H9.out.2.1.alloc _).alloc _).drew | exact (H9.out.2.1.alloc _) | exact ((H9.out.2.1.alloc _).alloc _) | exact H9.out.2.1) _ 1 1 [.string ⟨#[98]⟩] rfl (by rfl) (World.news_of_block (cs := #[.string ⟨#[98]⟩]) (t := 9) (fr := (0, 0)) (by first | exact heap_alloc_new _ _ | exact new0 _ _ _ | exact new1 _ _ _)) (by simp [Value.oneCell']) (by omega) (by unfold maxLen; omega) (by omega) (by simp; omega) _ rfl ?_; intro g2 c2 w2 own2 grow2 at2 lt2; have m02 : w2.cell? ⟨M, 0, none⟩ = some (.string ⟨#[61, 62, 32]⟩) := (grow2.cell_far ⟨M, 0, none⟩ (by simp; omega) (by simp [Value.ownBlock]; omega)).trans (by first | exact m0 | exact (World.cell?_alloc_past _ _ _ (by omega)).trans m0 | exact (World.cell?_alloc_past _ _ _ (by simp; omega)).trans ((World.cell?_alloc_past _ _ _ (by omega)).trans m0)); have m12 : w2.cell? ⟨M, 1, none⟩ = some (.string ⟨#[98]⟩) := (grow2.cell_far ⟨M, 1, none⟩ (by simp; omega) (by simp [Value.ownBlock]; omega)).trans (by first | exact m1 | exact (World.cell?_alloc_past _ _ _ (by omega)).trans m1 | exact (World.cell?_alloc_past _ _ _ (by simp; omega)).trans ((World.cell?_alloc_past _ _ _ (by omega)).trans m1)); have s2 := (only_grown grow2).size; have O2 : Only [] wa w2 := Only.grown (by first | exact (H9.out.1.alloc _).drew | exact ((H9.out.1.alloc _).alloc _).drew | exact (H9.out.1.alloc _)) grow2 (fun j hj => .inr (by simp [Value.ownBlock] at hj; omega)))))
    all_goals go_wp2_with fail
    all_goals go_meet
    all_goals exact ⟨g2, c2, g7, c7, rfl, rfl, ownsRow_base (ownsRow_only own2 O27 (by simp)) (Nat.zero_le _), ownsRow_base own7 (Nat.zero_le _), O2.trans O27⟩
  case rest =>
    obtain ⟨g2, c2, g7, c7, rfl, rfl, r6, r7, oc⟩ := hcut
    have HC := LH (AI (HA.out.2.1.of_none oc) (AI (HA.out.2.2.trans oc) (AI r6 r7)))
    obtain ⟨c0, c1, c3, c4, c5⟩ := step_cells (oc.heap HA.out.1 (by simp))
    have t0 := r6.cellAt 0 (by omega)
    have t1 := r6.cellAt 1 (by omega)
    have t7 := r7.cellAt 0 (by omega)
    clear r6 r7 oc
    go_wp2_with fail
    show Code.wp _ _ (Exit.then (Code.rounds _ _ _ 0) _) _ _
    go_upto_region 22 with (go_at_call 87; go_loud (refine (eof_any g7 c7 [⟨#[61, 62, 32]⟩] wc (by simp) (by simp) (fun k s e => by match k, e with | 0, e => cases e; exact t7) (fun s e => by simp at e; subst e; exact ⟨plain_arrow, by decide, by decide⟩)).mono ?_; rintro e w2 ⟨W, fp, rfl, _, _, ho2⟩; have HO := LH ho2; clear ho2))
    have t0' := HO.out.cell t0 (by simp)
    have t1' := HO.out.cell t1 (by simp)
    have HD := LH (show DlgAt w2 D D0 ∧ Only [] w w2 from ⟨HC.out.1.of_none HO.out, HC.out.2.1.trans HO.out⟩)
    clear t0 t1 t7 c0 c1 c3 c4 c5
    refine wp_loop_rounds 3 ?_
    show Code.wp _ _ (Exit.then (Code.rounds _ _ _ 2) _) _ _
    go_wp2_with (go_at_call 86; refine (find_c _ D D0 5 HD.out.1).mono ?_; rintro e w3 ⟨rfl, ho3⟩; have HE := LH ho3; have t1'' := ho3.cell t1' (by simp); clear ho3 t0' t1')
    show Code.wp _ _ (Exit.then (Code.rounds _ _ _ 1) _) _ _
    go_wp2_with (go_at_call 86; refine (find_b _ D D0 5 (HD.out.1.of_none HE.out)).mono ?_; rintro e w4 ⟨rfl, ho4⟩; have HF := LH ho4; clear ho4 t1'')
    show Code.wp _ _ (Exit.then (Code.rounds _ _ _ 0) _) _ _
    go_wp2_with fail
    have H2 := LH (show DlgAt w4 D D0 ∧ Only [] w w4 from ⟨(HD.out.1.of_none HE.out).of_none HF.out, (HD.out.2.trans HE.out).trans HF.out⟩)
    clear HD HE HF HO HC HA HB H1 H0
    obtain ⟨a0, a1, a2, a3, a4, a5, a6⟩ := H2.out.1.s2
    show Code.wp _ _ (Exit.then (Code.rounds _ _ _ 3) _) _ _
    go_upto_region 6 with fail
    obtain ⟨N, hN⟩ : ∃ N, N = w4.heap.size := ⟨_, rfl⟩
    generalize hwa : World.alloc _ _ = wa
    have HA := LH (show wa.heap[N]? = some (.cells #[.string ⟨#[99]⟩, .int .i64 3, .string ⟨#[]⟩, .slice none 0 0, .int .i64 5, .string ⟨#[97]⟩, .int .i64 0] 192 (0, 0)) ∧ DlgAt wa D D0 ∧ Only [] w wa by subst hwa hN; exact ⟨step_new _ _ _ _ _ _ _ _, H2.out.1.of_none ((Only.refl [] _).alloc _), H2.out.2.alloc _⟩)
    rw [← hN]
    clear hwa hN a0 a1 a2 a3 a4 a5 a6
    obtain ⟨b0, b1, b3, b4, b5⟩ := step_cells HA.out.1
    go_upto_region 9 with (go_at_call 86; refine (find_c _ D D0 5 HA.out.2.1).mono ?_; rintro e w5 ⟨rfl, ho1⟩; have HB := LH ho1; clear ho1)
    obtain ⟨c0, c1, c3, c4, c5⟩ := step_cells (HB.out.heap HA.out.1 (by simp))
    clear b0 b1 b3 b4 b5
    go_upto_region 11 with (at_builtin; refine wpList_append_lies _ rfl (.tmp 56) (.tmp 59) 71 rfl w5.heap.size 9 i4 (.string ⟨#[]⟩) 1 16 Tryz.underlying71 HI.out.1 HI.out.2.1 HI.out.2.2.1 HI.out.2.2.2 rfl (by omega) (.slice none 0 0) 0 [] rfl (World.ownsRow_nil _ _ _ _) ⟨w5.heap.size, 0, none⟩ 1 1 [.string ⟨#[97]⟩] rfl rfl (World.news_of_block (cs := #[.string ⟨#[97]⟩]) (t := 9) (fr := (0, 0)) (heap_alloc_new w5 _)) (by simp [Value.oneCell']) (by omega) (by unfold maxLen; omega) (by omega) (by simp) (w5.heap.size + 1) (by simp) ?_; intro g6 c6 w8 own8 grow8 at8 lt8)
    have HC := LH (show Only [] w5 w8 from (((Only.refl [] w5).alloc _).trans ((only_grown grow8).weaken (by simp [Value.ownBlock]))))
    have t0 := own8.cellAt 0 (by omega)
    clear own8 grow8 at8 lt8
    obtain ⟨b0, b1, b3, b4, b5⟩ := step_cells (HC.out.heap (HB.out.heap HA.out.1 (by simp)) (by simp))
    clear c0 c1 c3 c4 c5
    have HD := LH (show DlgAt w8 D D0 ∧ Only [] w w8 from ⟨(HA.out.2.1.of_none HB.out).of_none HC.out, (HA.out.2.2.trans HB.out).trans HC.out⟩)
    go_wp2_with fail
    refine wp_loop_rounds 2 ?_
    show Code.wp _ _ (Exit.then (Code.rounds _ _ _ 1) _) _ _
    go_wp2_with (go_at_call 86; refine (find_a _ D D0 5 HD.out.1).mono ?_; rintro e w9 ⟨rfl, ho9⟩; have HE := LH ho9; clear ho9 t0)
    show Code.wp _ _ (Exit.then (Code.rounds _ _ _ 0) _) _ _
    go_wp2_with fail
    have H3 := LH (show DlgAt w9 D D0 ∧ Only [] w w9 from ⟨HD.out.1.of_none HE.out, HD.out.2.trans HE.out⟩)
    clear HD HE HC HA HB H2 b0 b1 b3 b4 b5
    -- the end that must not be met
    obtain ⟨a0, a1, a2, a3, a4, a5, a6⟩ := H3.out.1.s3
    show Code.wp _ _ (Exit.then (Code.rounds _ _ _ 2) _) _ _
    go_upto_region 6 with fail
    obtain ⟨N, hN⟩ : ∃ N, N = w9.heap.size := ⟨_, rfl⟩
    generalize hwa : World.alloc _ _ = wa
    have HA := LH (show wa.heap[N]? = some (.cells #[.string ⟨#[]⟩, .int .i64 5, .string ⟨#[]⟩, .slice none 0 0, .int .i64 0, .string ⟨#[]⟩, .int .i64 0] 192 (0, 0)) ∧ DlgAt wa D D0 ∧ Only [] w wa by subst hwa hN; exact ⟨step_new _ _ _ _ _ _ _ _, H3.out.1.of_none ((Only.refl [] _).alloc _), H3.out.2.alloc _⟩)
    rw [← hN]
    clear hwa hN a0 a1 a2 a3 a4 a5 a6
    obtain ⟨b0, b1, b3, b4, b5⟩ := step_cells HA.out.1
    go_wp2_with fail
    refine wp_loop_rounds 1 ?_
    show Code.wp _ _ (Exit.then (Code.rounds _ _ _ 0) _) _ _
    go_wp2_with fail
    have H4 := LH (show DlgAt wa D D0 ∧ Only [] w wa from HA.out.2)
    clear HA H3 b0 b1 b3 b4 b5
    obtain ⟨wz, hwz⟩ : ∃ wz, wz = wa := ⟨_, rfl⟩
    rw [← hwz]
    rw [← hwz] at H4
    clear hwz
    obtain ⟨a0, a1, a2, a3, a4, a5, a6⟩ := H4.out.1.s4
    show Code.wp _ _ (Exit.then (Code.rounds _ _ _ 1) _) _ _
    go_upto_region 6 with fail
    obtain ⟨N, hN⟩ : ∃ N, N = wz.heap.size := ⟨_, rfl⟩
    generalize hwa : World.alloc _ _ = wa
    have HA := LH (show wa.heap[N]? = some (.cells #[.string ⟨#[98]⟩, .int .i64 4, .string ⟨#[]⟩, .slice none 0 0, .int .i64 0, .string ⟨#[]⟩, .int .i64 0] 192 (0, 0)) ∧ DlgAt wa D D0 ∧ Only [] w wa by subst hwa hN; exact ⟨step_new _ _ _ _ _ _ _ _, H4.out.1.of_none ((Only.refl [] _).alloc _), H4.out.2.alloc _⟩)
    rw [← hN]
    clear hwa hN a0 a1 a2 a3 a4 a5 a6
    obtain ⟨b0, b1, b3, b4, b5⟩ := step_cells HA.out.1
    go_upto_region 9 with (go_at_call 86; refine (find_b _ D D0 5 HA.out.2.1).mono ?_; rintro e w10 ⟨rfl, ho1⟩; have HB := LH ho1; clear ho1)
    obtain ⟨c0, c1, c3, c4, c5⟩ := step_cells (HB.out.heap HA.out.1 (by simp))
    clear b0 b1 b3 b4 b5
    go_wp2_with fail
    refine wp_loop_rounds 1 ?_
    show Code.wp _ _ (Exit.then (Code.rounds _ _ _ 0) _) _ _
    go_wp2_with fail
    show Code.wp _ _ (Exit.then (Code.rounds _ _ _ 0) _) _ _
    go_wp2_with fail
    go_ret2
    exact ⟨rfl, HA.out.2.2.trans HB.out⟩
end Go.Proofs.YtplaamfoeaaaiaaGreatDoor
