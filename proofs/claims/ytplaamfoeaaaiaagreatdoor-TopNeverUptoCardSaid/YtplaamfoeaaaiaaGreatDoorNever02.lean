/- The law TopNever is proved where the arguments are of bulk at most 1048576 (the tied card): a manifest that is wrong, or whose images are others, is never brought: nothing goes out. Conditions: the statement's own bound. -/
import Derived.Test.YtplaamfoeaaaiaaGreatDoorG02
import Derived.Test.YtplaamfoeaaaiaaGreatDoorG28
import Derived.Test.YtplaamfoeaaaiaaGreatDoorNever01
set_option maxRecDepth 100000
set_option maxHeartbeats 8000000
set_option linter.unusedVariables false
namespace Go.Proofs.YtplaamfoeaaaiaaGreatDoor.topNever
open Go.ChangeShapes Go.WideShapes Go.ChangeAt Go.RowKit Go.Deep
theorem bulk_pos {H : Type} (d : DataW H) : 1 ≤ Rows.uptoBulk d := by
  cases d with
  | lit l => cases l <;> simp [Rows.uptoBulk]
  | nil => simp [Rows.uptoBulk]
  | ptr d => simp [Rows.uptoBulk]
  | slice elems spare => simp [Rows.uptoBulk]
  | agg parts => simp [Rows.uptoBulk]
  | iface t d => simp [Rows.uptoBulk]
  | map entries => simp [Rows.uptoBulk]
  | held h => simp [Rows.uptoBulk]
theorem bulk_length {H : Type} (l : List (DataW H)) : l.length ≤ Rows.uptoBulkAll l := by
  induction l with
  | nil => simp [Rows.uptoBulkAll]
  | cons x r ih => have := bulk_pos x; simp only [Rows.uptoBulkAll, List.length_cons]; omega
theorem part_le {H : Type} {d : DataW H} {l : List (DataW H)} (h : d ∈ l) : Rows.uptoBulk d ≤ Rows.uptoBulkAll l := by
  induction l with
  | nil => cases h
  | cons x r ih =>
    simp only [Rows.uptoBulkAll]
    cases List.mem_cons.1 h with
    | inl e => subst e; omega
    | inr e => have := ih e; omega
theorem bulk_many {H : Type} (k : Nat) (l : List (DataW H)) (h : ∀ d, d ∈ l → k ≤ Rows.uptoBulk d) : l.length * k ≤ Rows.uptoBulkAll l := by
  induction l with
  | nil => simp [Rows.uptoBulkAll]
  | cons x r ih =>
    have h1 := h x (by simp)
    have h2 := ih (fun d hd => h d (by simp [hd]))
    simp only [Rows.uptoBulkAll, List.length_cons, Nat.succ_mul]
    omega
theorem cells39 : Tryz.prog.cellsOf 39 = 5 := by kernel_rfl
theorem cells22 : Tryz.prog.cellsOf 22 = 1 := by kernel_rfl
theorem cells9 : Tryz.prog.cellsOf 9 = 1 := by kernel_rfl
theorem cells3 : Tryz.prog.cellsOf 3 = 1 := by kernel_rfl
theorem cells37 : Tryz.prog.cellsOf 37 = 1 := by kernel_rfl
theorem cells29 : Tryz.prog.cellsOf 29 = 1 := by kernel_rfl
theorem cells23 : Tryz.prog.cellsOf 23 = 1 := by kernel_rfl
theorem cells5 : Tryz.prog.cellsOf 5 = 1 := by kernel_rfl
theorem cells69 : Tryz.prog.cellsOf 69 = 5 := by kernel_rfl
theorem choose_lt {α : Type} [Inhabited α] {n : Nat} {p : Nat → α → Prop} (h : ∀ r, r < n → ∃ x, p r x) : ∃ f : Nat → α, ∀ r, r < n → p r (f r) := by
  refine ⟨fun r => if hr : r < n then Classical.choose (h r hr) else default, fun r hr => ?_⟩
  simp only [dif_pos hr]
  exact Classical.choose_spec (h r hr)
theorem cell5 {W : World} {a : Addr} {i : Nat} {cs' : List Value} (hc : W.cells? 0 (a.add (i * 5)) 5 = some cs') : ∃ c0 c1 c2 c3 c4, cs' = [c0, c1, c2, c3, c4] ∧ W.cell? (a.add (i * 5)) = some c0 ∧ W.cell? (a.add (i * 5 + 1)) = some c1 ∧ W.cell? (a.add (i * 5 + 2)) = some c2 ∧ W.cell? (a.add (i * 5 + 3)) = some c3 ∧ W.cell? (a.add (i * 5 + 4)) = some c4 := by
  obtain ⟨_, hcl, hat⟩ := World.cells?_some hc
  match cs', hcl with
  | [c0, c1, c2, c3, c4], _ =>
    have h0 : W.cell? ((a.add (i * 5)).add 0) = some c0 := hat 0 (by omega)
    have h1 : W.cell? ((a.add (i * 5)).add 1) = some c1 := hat 1 (by omega)
    have h2 : W.cell? ((a.add (i * 5)).add 2) = some c2 := hat 2 (by omega)
    have h3 : W.cell? ((a.add (i * 5)).add 3) = some c3 := hat 3 (by omega)
    have h4 : W.cell? ((a.add (i * 5)).add 4) = some c4 := hat 4 (by omega)
    rw [Go.Deep.add_add] at h0 h1 h2 h3 h4
    exact ⟨c0, c1, c2, c3, c4, rfl, h0, h1, h2, h3, h4⟩
theorem entry_open {H : Type} {enc : TypeId × Value → H} {W : World} {n : Nat} {cs' : List Value} {d : DataW H} {pl : List MemPlace} {a : Addr} {i : Nat} (hc : W.cells? 0 (a.add (i * 5)) 5 = some cs') (ht : DataW.trod enc Tryz.prog W 0 (fun _ => true) true n 39 cs' = some (d, pl)) :
    ∃ e : RE, W.cell? (a.add (i * 5)) = some (.string e.name) ∧ W.cell? (a.add (i * 5 + 1)) = some (.int .i64 e.addr) ∧ W.cell? (a.add (i * 5 + 2)) = some (.int .i64 e.size) ∧ W.cell? (a.add (i * 5 + 3)) = some (.int .u32 e.print) ∧ W.cell? (a.add (i * 5 + 4)) = some (.int .i64 e.way) ∧ e.name.size ≤ maxLen ∧ 6 ≤ Rows.uptoBulk d := by
  obtain ⟨ys, n', hn', hy, hlen, hyl, hf⟩ := DataW.trod_struct Tryz.underlying39 ht
  obtain ⟨c0, c1, c2, c3, c4, rfl, h0, h1, h2, h3, h4⟩ := cell5 hc
  match ys, hyl with
  | [y0, y1, y2, y3, y4], _ =>
    have f0 : DataW.trod enc Tryz.prog W 0 (fun _ => true) true n' 9 (([c0, c1, c2, c3, c4].drop 0).take (Tryz.prog.cellsOf 9)) = some y0 := hf 0 _ rfl
    have f1 : DataW.trod enc Tryz.prog W 0 (fun _ => true) true n' 3 (([c0, c1, c2, c3, c4].drop 1).take (Tryz.prog.cellsOf 3)) = some y1 := hf 1 _ rfl
    have f2 : DataW.trod enc Tryz.prog W 0 (fun _ => true) true n' 3 (([c0, c1, c2, c3, c4].drop 2).take (Tryz.prog.cellsOf 3)) = some y2 := hf 2 _ rfl
    have f3 : DataW.trod enc Tryz.prog W 0 (fun _ => true) true n' 37 (([c0, c1, c2, c3, c4].drop 3).take (Tryz.prog.cellsOf 37)) = some y3 := hf 3 _ rfl
    have f4 : DataW.trod enc Tryz.prog W 0 (fun _ => true) true n' 29 (([c0, c1, c2, c3, c4].drop 4).take (Tryz.prog.cellsOf 29)) = some y4 := hf 4 _ rfl
    rw [cells9] at f0
    rw [cells3] at f1 f2
    rw [cells37] at f3
    rw [cells29] at f4
    obtain ⟨s, s1, s2, s3⟩ := DataW.trod_string Tryz.underlying9 f0
    obtain ⟨k1, e1, _, _⟩ := DataW.trod_int Tryz.underlying3 f1
    obtain ⟨k2, e2, _, _⟩ := DataW.trod_int Tryz.underlying3 f2
    obtain ⟨k3, e3, _, _⟩ := DataW.trod_int Tryz.underlying37 f3
    obtain ⟨k4, e4, _, _⟩ := DataW.trod_int Tryz.underlying29 f4
    have s1' : c0 = .string s := by simpa using s1
    have e1' : c1 = .int .i64 k1 := by simpa using e1
    have e2' : c2 = .int .i64 k2 := by simpa using e2
    have e3' : c3 = .int .u32 k3 := by simpa using e3
    have e4' : c4 = .int .i64 k4 := by simpa using e4
    subst s1' e1' e2' e3' e4'
    have hd : d = .agg [y0.1, y1.1, y2.1, y3.1, y4.1] := by
      have := congrArg Prod.fst hy
      simpa using this
    refine ⟨⟨s, k1, k2, k3, k4⟩, h0, h1, h2, h3, h4, s3, ?_⟩
    have b0 := bulk_pos y0.1
    have b1 := bulk_pos y1.1
    have b2 := bulk_pos y2.1
    have b3 := bulk_pos y3.1
    have b4 := bulk_pos y4.1
    rw [hd]
    simp only [Rows.uptoBulk, Rows.uptoBulkAll]
    omega
theorem bytes_open {H : Type} {enc : TypeId × Value → H} {W : World} {n : Nat} {c : Value} {d : DataW H} {pl : List MemPlace} (ht : DataW.trod enc Tryz.prog W 0 (fun _ => true) true n 22 [c] = some (d, pl)) :
    ∃ (p : Option Addr) (m cp : Nat) (bs : List UInt8), c = .slice p m cp ∧ bs.length = m ∧ Bytes W p bs ∧ m ≤ cp ∧ cp ≤ maxLen ∧ (p = none → cp = 0) ∧ (∀ ad, p = some ad → bs ≠ [] → ad.block < W.heap.size) ∧ m ≤ Rows.uptoBulk d := by
  rcases open_ints Tryz.underlying22 Tryz.underlying5 cells5 ht with ⟨hcs, hx⟩ | ⟨x, l, cp, zs, hcs, _, hl, hm, hz, hx, hcell, hwz⟩
  · have hc : c = .slice none 0 0 := by simpa using hcs
    exact ⟨none, 0, 0, [], hc, rfl, ⟨fun _ => rfl, (fun ad e => by cases e)⟩, Nat.le_refl _, by simp [maxLen], fun _ => rfl, (fun ad e => by cases e), Nat.zero_le _⟩
  · have hc : c = .slice (some x) l cp := by simpa using hcs
    have hz' : zs.length = cp := by simpa using hz
    have hby : ∀ z, z ∈ zs → 0 ≤ z ∧ z ≤ 255 := fun z hzm => by
      have := hwz z hzm
      simp [Lit.wf] at this
      have e1 : IntKind.u8.min = 0 := by decide
      have e2 : IntKind.u8.max = 255 := by decide
      omega
    refine ⟨some x, l, cp, (zs.take l).map (fun z => UInt8.ofNat z.toNat), hc, by simp; omega, ⟨(fun e => by cases e), fun ad e i hi => ?_⟩, hl, hm, (fun e => by cases e), fun ad e hne => ?_, ?_⟩
    · cases e
      simp only [List.length_map, List.length_take] at hi
      rw [hcell i (by omega)]
      have h1 : ((zs.take l).map (fun z => UInt8.ofNat z.toNat)).getD i 0 = UInt8.ofNat (zs.getD i 0).toNat := by
        have hi2 : i < zs.length := by omega
        have hi3 : i < l := by omega
        simp [List.getD, hi2, hi3]
      rw [h1]
      have h2 := hby (zs.getD i 0) (by
        have hi2 : i < zs.length := by omega
        simp [List.getD, hi2])
      unfold byteV
      rw [UInt8.toNat_ofNat', Nat.mod_eq_of_lt (by omega)]
      have : ((zs.getD i 0).toNat : Int) = zs.getD i 0 := by omega
      rw [this]
    · cases e
      have hp : 0 < zs.length := by
        rcases Nat.eq_zero_or_pos zs.length with h | h
        · rw [List.eq_nil_of_length_eq_zero h] at hne; simp at hne
        · exact h
      have := World.block_lt_of_cell? W _ (hcell 0 hp)
      simpa [Addr.add] using this
    · have hy2 : d = .slice (lits .u8 (zs.take l)) (lits .u8 (zs.drop l)) := congrArg Prod.fst hx
      rw [hy2]
      have hb := bulk_length (lits (H := H) .u8 (zs.take l))
      have e : (lits (H := H) .u8 (zs.take l)).length = l := by simp [lits]; omega
      simp only [Rows.uptoBulk]
      omega
theorem spot_of {W : World} {a : Addr} {v : Value} (h : W.cell? (a.add 0) = some v) : a.spot = none := by
  have := spot_of_cell h
  simpa [Addr.add] using this
theorem act_open {H : Type} {enc : TypeId × Value → H} {W : World} {n : Nat} {cs' : List Value} {d : DataW H} {pl : List MemPlace} {a : Addr} {i : Nat} (hc : W.cells? 0 (a.add (i * 5)) 5 = some cs') (ht : DataW.trod enc Tryz.prog W 0 (fun _ => true) true n 69 cs' = some (d, pl)) :
    ∃ x : RA, ∃ p m c, W.cell? (a.add (i * 5)) = some (.slice p m c) ∧ W.cell? (a.add (i * 5 + 1)) = some (.int .u16 x.addr) ∧ W.cell? (a.add (i * 5 + 2)) = some (.int .u16 x.size) ∧ W.cell? (a.add (i * 5 + 3)) = some (.int .u32 x.print) ∧ W.cell? (a.add (i * 5 + 4)) = some (byteV x.way) ∧ x.name.length = m ∧ m ≤ maxLen ∧ Bytes W p x.name ∧ x.Ok := by
  obtain ⟨ys, n', hn', hy, hlen, hyl, hf⟩ := DataW.trod_struct Tryz.underlying69 ht
  obtain ⟨c0, c1, c2, c3, c4, rfl, h0, h1, h2, h3, h4⟩ := cell5 hc
  match ys, hyl with
  | [y0, y1, y2, y3, y4], _ =>
    have f0 : DataW.trod enc Tryz.prog W 0 (fun _ => true) true n' 22 (([c0, c1, c2, c3, c4].drop 0).take (Tryz.prog.cellsOf 22)) = some y0 := hf 0 _ rfl
    have f1 : DataW.trod enc Tryz.prog W 0 (fun _ => true) true n' 23 (([c0, c1, c2, c3, c4].drop 1).take (Tryz.prog.cellsOf 23)) = some y1 := hf 1 _ rfl
    have f2 : DataW.trod enc Tryz.prog W 0 (fun _ => true) true n' 23 (([c0, c1, c2, c3, c4].drop 2).take (Tryz.prog.cellsOf 23)) = some y2 := hf 2 _ rfl
    have f3 : DataW.trod enc Tryz.prog W 0 (fun _ => true) true n' 37 (([c0, c1, c2, c3, c4].drop 3).take (Tryz.prog.cellsOf 37)) = some y3 := hf 3 _ rfl
    have f4 : DataW.trod enc Tryz.prog W 0 (fun _ => true) true n' 5 (([c0, c1, c2, c3, c4].drop 4).take (Tryz.prog.cellsOf 5)) = some y4 := hf 4 _ rfl
    rw [cells22] at f0
    rw [cells23] at f1 f2
    rw [cells37] at f3
    rw [cells5] at f4
    obtain ⟨p, m, cp, bs, g1, g2, g3, g4, g5, g6, g7, g8⟩ := bytes_open (c := c0) (by simpa using f0)
    obtain ⟨k1, e1, _, w1⟩ := DataW.trod_int Tryz.underlying23 f1
    obtain ⟨k2, e2, _, w2⟩ := DataW.trod_int Tryz.underlying23 f2
    obtain ⟨k3, e3, _, w3⟩ := DataW.trod_int Tryz.underlying37 f3
    obtain ⟨k4, e4, _, w4⟩ := DataW.trod_int Tryz.underlying5 f4
    have e1' : c1 = .int .u16 k1 := by simpa using e1
    have e2' : c2 = .int .u16 k2 := by simpa using e2
    have e3' : c3 = .int .u32 k3 := by simpa using e3
    have e4' : c4 = .int .u8 k4 := by simpa using e4
    have m16 : IntKind.u16.min = 0 ∧ IntKind.u16.max = 65535 := by decide
    have m32 : IntKind.u32.min = 0 ∧ IntKind.u32.max = 4294967295 := by decide
    have m8 : IntKind.u8.min = 0 ∧ IntKind.u8.max = 255 := by decide
    simp [Lit.wf] at w1 w2 w3 w4
    rw [e1'] at h1
    rw [e2'] at h2
    rw [e3'] at h3
    rw [e4'] at h4
    rw [g1] at h0
    refine ⟨⟨bs, k1.toNat, k2.toNat, k3.toNat, UInt8.ofNat k4.toNat⟩, p, m, cp, h0, ?_, ?_, ?_, ?_, g2, Nat.le_trans g4 g5, g3, ⟨by simp only; omega, by simp only; omega, by simp only; omega⟩⟩
    · rw [h1]; simp only [Option.some.injEq, Value.int.injEq, true_and]; omega
    · rw [h2]; simp only [Option.some.injEq, Value.int.injEq, true_and]; omega
    · rw [h3]; simp only [Option.some.injEq, Value.int.injEq, true_and]; omega
    · rw [h4]
      unfold byteV
      simp only [Option.some.injEq, Value.int.injEq, true_and]
      rw [UInt8.toNat_ofNat', Nat.mod_eq_of_lt (by omega)]
      omega
theorem es_open {H : Type} {enc : TypeId × Value → H} {W : World} {ea : Option Addr} {n ec : Nat} {d : DataW H} {pl : List MemPlace} (h : DataW.Trod enc Tryz.prog W 0 (fun _ => true) true 25 (.slice ea n ec) d pl) :
    ∃ es : List RE, EsRaw W ea es ∧ es.length = n ∧ n ≤ ec ∧ (ea = none → ec = 0) ∧ (∀ e, e ∈ es → e.name.size ≤ 9223372036854775807) ∧ n * 6 ≤ Rows.uptoBulk d := by
  obtain ⟨fuel, hf⟩ := h
  rcases open_slice Tryz.underlying25 hf with ⟨hcs, hd⟩ | ⟨a, len, cap, m, n', D, Pl, hcs, _, hl, hm, hmm, hd, hrow⟩
  · simp [Value.cells] at hcs
    obtain ⟨rfl, rfl, rfl⟩ := hcs
    exact ⟨[], ⟨fun _ => rfl, (fun ad e => by cases e)⟩, rfl, Nat.le_refl _, fun _ => rfl, fun e he => by simp at he, by omega⟩
  · simp [Value.cells] at hcs
    obtain ⟨rfl, rfl, rfl⟩ := hcs
    simp only [Prod.mk.injEq] at hd
    simp only [if_true] at hmm
    rw [cells39] at hrow
    have each : ∀ r, r < n → ∃ e : RE, W.cell? (a.add (r * 5)) = some (.string e.name) ∧ W.cell? (a.add (r * 5 + 1)) = some (.int .i64 e.addr) ∧ W.cell? (a.add (r * 5 + 2)) = some (.int .i64 e.size) ∧ W.cell? (a.add (r * 5 + 3)) = some (.int .u32 e.print) ∧ W.cell? (a.add (r * 5 + 4)) = some (.int .i64 e.way) ∧ e.name.size ≤ maxLen ∧ 6 ≤ Rows.uptoBulk (D r) := by
      intro r hr
      obtain ⟨cs', hc, ht⟩ := hrow r (by omega)
      exact entry_open hc ht
    have : Inhabited RE := ⟨RE0⟩
    obtain ⟨y, hy⟩ := choose_lt each
    refine ⟨(List.range n).map y, ⟨(fun e => by cases e), fun ad e j u hj => ?_⟩, by simp, hl, (fun e => by cases e), fun e he => ?_, ?_⟩
    · cases e
      have hjl := (List.getElem?_eq_some_iff.1 hj).1
      rw [esCells_length] at hjl
      simp only [List.length_map, List.length_range] at hjl
      obtain ⟨k, r, hr, rfl⟩ : ∃ k r, r < 5 ∧ j = k * 5 + r := ⟨j / 5, j % 5, Nat.mod_lt _ (by omega), by omega⟩
      have hk : k < n := by omega
      have hg : ((List.range n).map y)[k]? = some (y k) := by simp [hk]
      obtain ⟨c0, c1, c2, c3, c4⟩ := esCells_get _ k _ hg
      obtain ⟨q0, q1, q2, q3, q4, _⟩ := hy k hk
      have : r = 0 ∨ r = 1 ∨ r = 2 ∨ r = 3 ∨ r = 4 := by omega
      rcases this with rfl | rfl | rfl | rfl | rfl
      · rw [Nat.add_zero, c0] at hj; rw [Nat.add_zero, q0, hj]
      · rw [c1] at hj; rw [q1, hj]
      · rw [c2] at hj; rw [q2, hj]
      · rw [c3] at hj; rw [q3, hj]
      · rw [c4] at hj; rw [q4, hj]
    · rw [List.mem_map] at he
      obtain ⟨i, hi, rfl⟩ := he
      rw [List.mem_range] at hi
      have := (hy i hi).2.2.2.2.2.1
      unfold maxLen at this
      omega
    · have hb := bulk_many 6 ((List.range n).map D) (fun d hd => by
        rw [List.mem_map] at hd
        obtain ⟨i, hi, rfl⟩ := hd
        rw [List.mem_range] at hi
        exact (hy i hi).2.2.2.2.2.2)
      simp only [List.length_map, List.length_range] at hb
      rw [hd.1]
      simp only [Rows.uptoBulk]
      omega
theorem ims_open {H : Type} {enc : TypeId × Value → H} {W : World} {ia : Option Addr} {m ic : Nat} {d : DataW H} {pl : List MemPlace} (h : DataW.Trod enc Tryz.prog W 0 (fun _ => true) true 26 (.slice ia m ic) d pl) :
    ∃ ims : List M.B, ImRaw W (List.range W.heap.size) ia ims ∧ ims.length = m ∧ m ≤ ic ∧ m ≤ Rows.uptoBulk d ∧ ∀ im, im ∈ ims → im.length ≤ Rows.uptoBulk d := by
  obtain ⟨fuel, hf⟩ := h
  rcases open_slice1 Tryz.underlying26 cells22 hf with ⟨hcs, hd⟩ | ⟨a, len, cap, m', n', V, D, Pl, hcs, _, hl, hm, hmm, hd, hrow⟩
  · simp [Value.cells] at hcs
    obtain ⟨rfl, rfl, rfl⟩ := hcs
    exact ⟨[], ⟨fun _ => rfl, (fun ad e => by cases e), (fun ad e => by cases e)⟩, rfl, Nat.le_refl _, by omega, fun im he => by simp at he⟩
  · simp [Value.cells] at hcs
    obtain ⟨rfl, rfl, rfl⟩ := hcs
    simp only [Prod.mk.injEq] at hd
    simp only [if_true] at hmm
    have each : ∀ r, r < m → ∃ im : M.B, W.cell? (a.add r) = some (V r) ∧ SlcR W (List.range W.heap.size) (V r) im ∧ im.length ≤ Rows.uptoBulk (D r) := by
      intro r hr
      obtain ⟨hc, ht⟩ := hrow r (by omega)
      obtain ⟨p, l, cp, bs, g1, g2, g3, g4, g5, g6, g7, g8⟩ := bytes_open ht
      refine ⟨bs, hc, ⟨p, cp, by rw [g2]; exact g1, g3, by omega, g5, g6, ?_⟩, by omega⟩
      by_cases hb : bs = []
      · exact .inl hb
      · exact .inr (fun x e => List.mem_range.2 (g7 x e hb))
    obtain ⟨y, hy⟩ := choose_lt each
    refine ⟨(List.range m).map y, ⟨(fun e => by cases e), fun ad e k im hk => ?_, fun ad e hne => ?_⟩, by simp, hl, ?_, fun im him => ?_⟩
    · cases e
      rw [List.getElem?_map] at hk
      cases hk2 : (List.range m)[k]? with
      | none => rw [hk2] at hk; simp at hk
      | some r =>
        rw [hk2] at hk
        simp only [Option.map_some, Option.some.injEq] at hk
        obtain ⟨hkm, rfl⟩ := List.getElem?_eq_some_iff.1 hk2
        simp only [List.length_range] at hkm
        simp only [List.getElem_range] at hk
        subst hk
        exact ⟨_, (hy k hkm).1, (hy k hkm).2.1⟩
    · cases e
      have hpos : 0 < m := by
        rcases Nat.eq_zero_or_pos m with h | h
        · subst h; simp at hne
        · exact h
      have := World.block_lt_of_cell? W _ (hy 0 hpos).1
      rw [List.mem_range]
      simpa [Addr.add] using this
    · have hb := bulk_length ((List.range m).map D)
      simp only [List.length_map, List.length_range] at hb
      rw [hd.1]
      simp only [Rows.uptoBulk]
      omega
    · rw [List.mem_map] at him
      obtain ⟨i, hi, rfl⟩ := him
      rw [List.mem_range] at hi
      have h1 := (hy i hi).2.2
      have h2 : Rows.uptoBulk (D i) ≤ Rows.uptoBulkAll ((List.range m).map D) := part_le (List.mem_map.2 ⟨i, List.mem_range.2 hi, rfl⟩)
      rw [hd.1]
      simp only [Rows.uptoBulk]
      omega
theorem as_open {H : Type} {enc : TypeId × Value → H} {W : World} {aa : Option Addr} {n ac : Nat} {d : DataW H} {pl : List MemPlace} (h : DataW.Trod enc Tryz.prog W 0 (fun _ => true) true 60 (.slice aa n ac) d pl) :
    ∃ ra : List RA, RaRaw W aa ra ∧ ra.length = n ∧ n ≤ 9223372036854775807 := by
  obtain ⟨fuel, hf⟩ := h
  rcases open_slice Tryz.underlying60 hf with ⟨hcs, hd⟩ | ⟨a, len, cap, m, n', D, Pl, hcs, _, hl, hm, hmm, hd, hrow⟩
  · simp [Value.cells] at hcs
    obtain ⟨rfl, rfl, rfl⟩ := hcs
    exact ⟨[], ⟨fun e => absurd rfl e⟩, rfl, by omega⟩
  · simp [Value.cells] at hcs
    obtain ⟨rfl, rfl, rfl⟩ := hcs
    simp only [if_true] at hmm
    rw [cells69] at hrow
    have each : ∀ r, r < n → ∃ x : RA, ∃ p m c, W.cell? (a.add (r * 5)) = some (.slice p m c) ∧ W.cell? (a.add (r * 5 + 1)) = some (.int .u16 x.addr) ∧ W.cell? (a.add (r * 5 + 2)) = some (.int .u16 x.size) ∧ W.cell? (a.add (r * 5 + 3)) = some (.int .u32 x.print) ∧ W.cell? (a.add (r * 5 + 4)) = some (byteV x.way) ∧ x.name.length = m ∧ m ≤ maxLen ∧ Bytes W p x.name ∧ x.Ok := by
      intro r hr
      obtain ⟨cs', hc, ht⟩ := hrow r (by omega)
      exact act_open hc ht
    have : Inhabited RA := ⟨RA0⟩
    obtain ⟨y, hy⟩ := choose_lt each
    refine ⟨(List.range n).map y, ⟨fun hne => ?_⟩, by simp, by unfold maxLen at hm; omega⟩
    have hpos : 0 < n := by
      rcases Nat.eq_zero_or_pos n with h | h
      · subst h; simp at hne
      · exact h
    obtain ⟨_, _, _, hc0, _⟩ := hy 0 hpos
    have hsp := spot_of (by simpa using hc0)
    obtain ⟨b, off, sp⟩ := a
    simp only at hsp
    subst hsp
    refine ⟨b, off, rfl, fun k x hk => ?_⟩
    rw [List.getElem?_map] at hk
    cases hk2 : (List.range n)[k]? with
    | none => rw [hk2] at hk; simp at hk
    | some r =>
      rw [hk2] at hk
      simp only [Option.map_some, Option.some.injEq] at hk
      obtain ⟨hkm, rfl⟩ := List.getElem?_eq_some_iff.1 hk2
      simp only [List.length_range] at hkm
      simp only [List.getElem_range] at hk
      subst hk
      obtain ⟨p, m, c, q0, q1, q2, q3, q4, q5, q6, q7, q8⟩ := hy k hkm
      rw [Addr.add_lit] at q0 q1 q2 q3 q4
      exact ⟨p, m, c, q0, by rw [Nat.add_assoc]; exact q1, by rw [Nat.add_assoc]; exact q2, by rw [Nat.add_assoc]; exact q3, by rw [Nat.add_assoc]; exact q4, q5, by unfold maxLen at q6; omega, q7, q8⟩
theorem contract (H : Type) (enc : TypeId × Value → H) (W : World) (base : Nat) (args : Array Value) (ds gs : List (DataW H)) (before : List MemPlace)
    (hval : ∀ (j : Nat) t v, Tryz.f5.params[j]? = some t → args[j]? = some v → Value.okWide Tryz.prog W .any base t v)
    (hW : DataW.Whole enc Tryz.prog Tryz.f5.params.toList Rows.topNeverSpec.vars false W args.toList ds gs before) (hk : Rows.uptoSmall H (ds ++ gs) = true) (hL : laidMetH Tryz.prog lai.laidL W) (hS : W.ShapedOpen Tryz.prog) :
    Calls Tryz.prog 5 args W fun e W' => ∃ v, e = .returned v ∧ Rows.topNeverSpec.post enc Tryz.prog Tryz.f5 false true false false W args v W' := by
  have hg := lai.glob_is hL hS
  have hW' := hW
  obtain ⟨p, q, hA0, hV, rfl, hfz, hnd⟩ := hW
  have hA : DataW.TrodAll enc Tryz.prog W 0 (fun _ => true) true Tryz.f5.params.toList args.toList ds p := hA0
  rw [Tryz.params5] at hA hval
  obtain ⟨v0, vs0, d0, ds0, p0, q0, hargs, rfl, rfl, h0, r0⟩ := trodAll_cons hA
  obtain ⟨v1, vs1, d1, ds1, p1, q1, rfl, rfl, rfl, h1, r1⟩ := trodAll_cons r0
  obtain ⟨v2, vs2, d2, ds2, p2, q2, rfl, rfl, rfl, h2, r2⟩ := trodAll_cons r1
  obtain ⟨v3, vs3, d3, ds3, p3, q3, rfl, rfl, rfl, h3, r3⟩ := trodAll_cons r2
  obtain ⟨rfl, rfl, rfl⟩ := trodAll_nil r3
  obtain rfl : args = #[v0, v1, v2, v3] := by cases args; simp_all
  obtain ⟨rfl, rfl⟩ := trodVars_none hV
  obtain ⟨ea, n, ec, rfl⟩ := okWide_slice Tryz.underlying25 (hval 0 25 v0 rfl rfl)
  obtain ⟨ia, m, ic, rfl⟩ := okWide_slice Tryz.underlying26 (hval 1 26 v1 rfl rfl)
  obtain ⟨aa, na, ac, rfl⟩ := okWide_slice Tryz.underlying60 (hval 2 60 v2 rfl rfl)
  obtain ⟨ba, mb, bc, rfl⟩ := okWide_slice Tryz.underlying22 (hval 3 22 v3 rfl rfl)
  have hbulk : Rows.uptoBulkAll ([d0, d1, d2, d3] ++ []) ≤ 1048576 := of_decide_eq_true hk
  simp only [List.append_nil, Rows.uptoBulkAll] at hbulk
  have k0 := h0
  have k1 := h1
  have k2 := h2
  have k3 := h3
  have lt0 : ∀ x ∈ p0, x.block < W.heap.size := by obtain ⟨m, hm⟩ := k0; exact DataW.trod_lt m _ _ _ hm
  have lt1 : ∀ x ∈ p1, x.block < W.heap.size := by obtain ⟨m, hm⟩ := k1; exact DataW.trod_lt m _ _ _ hm
  have lt2 : ∀ x ∈ p2, x.block < W.heap.size := by obtain ⟨m, hm⟩ := k2; exact DataW.trod_lt m _ _ _ hm
  have lt3 : ∀ x ∈ p3, x.block < W.heap.size := by obtain ⟨m, hm⟩ := k3; exact DataW.trod_lt m _ _ _ hm
  obtain ⟨es, e1, e2, e3, e4, e5, e6⟩ := es_open h0
  obtain ⟨ims, i1, i2, i3, i4, i5⟩ := ims_open h1
  obtain ⟨ra, a1, a2, a3⟩ := as_open h2
  obtain ⟨fuel3, h3'⟩ := h3
  obtain ⟨bp, bm, bcp, bs, b1, b2, b3, b4, b5, b6, b7, b8⟩ := bytes_open (c := .slice ba mb bc) (by simpa [Value.cells] using h3')
  simp only [Value.slice.injEq] at b1
  obtain ⟨rfl, rfl, rfl⟩ := b1
  have hM : Man W ea n ec es ia m ic ims (List.range W.heap.size) := ⟨e1, e2, e3, e4, by omega, e5, i1, i2, i3, by omega, fun im him => by have := i5 im him; omega, fun b hb => List.mem_range.1 hb⟩
  refine (never_is ea ia aa ba n ec m ic na ac mb bc es ims _ ra bs W hM a1 a2 a3 b3 (by
    by_cases hb : bs = []
    · exact .inl hb
    · exact .inr (fun ad e => b7 ad e hb)) b2 (by unfold maxLen at b5; omega) hg).mono fun e W' ⟨he, ho⟩ => ?_
  have bel := lai.only_below ho
  subst he
  exact ⟨_, rfl, _, _, _, [], _, [], hW', trodAll_mk1 (shut_bool Tryz.underlying4 _), (trodAll_cons_mk (Below.trod lai.laidOut (by kernel_rfl) (of_decide_eq_true (by kernel_rfl)) k0 bel lt0) (trodAll_cons_mk (Below.trod lai.laidOut (by kernel_rfl) (of_decide_eq_true (by kernel_rfl)) k1 bel lt1) (trodAll_cons_mk (Below.trod lai.laidOut (by kernel_rfl) (of_decide_eq_true (by kernel_rfl)) k2 bel lt2) (trodAll_cons_mk (Below.trod lai.laidOut (by kernel_rfl) (of_decide_eq_true (by kernel_rfl)) k3 bel lt3) trodAll_mk0)))), rfl, bel.frame _, fun h => by cases h⟩
abbrev wArgs : Array Value := #[.slice none 0 0, .slice none 0 0, .slice none 0 0, .slice none 0 0]
theorem reads (os : Os) {H : Type} (enc : TypeId × Value → H) : ∃ places, DataW.whole enc Tryz.prog ((lai.laidWorld os).forCall (fun _ _ => 0) ⟨#[], wArgs, []⟩).memory Tryz.f5.params.toList Rows.topNeverSpec.vars false wArgs.toList 8 = some ([.nil, .nil, .nil, .nil], [], places) :=
  ⟨[], by kernel_rfl⟩
theorem lifted (os : Os) (started : os.Started) (H : Type) (enc : TypeId × Value → H) (F : Stop.Interp) :
    ReturnsInHanded {} Tryz.checked os 5 .any ((Rows.OpenSpec.upto Rows.topNeverSpec).preRow enc Tryz.prog Tryz.f5 Rows.topNeverUptoRow.domain false Rows.topNeverUptoRow.laid) (((Rows.OpenSpec.upto Rows.topNeverSpec).at F).post enc Tryz.prog Tryz.f5 false true false false) := by
  obtain ⟨places, hx⟩ := reads os enc
  refine returnsInHanded_of_row (C := Tryz.checked) (s := Rows.OpenSpec.upto Rows.topNeverSpec) lai.own started (by kernel_rfl) Tryz.func5
    (witness_row_atRef (enc := enc) (C := Tryz.checked) false (lai.laidWorld os) wArgs rfl (by kernel_rfl) (by kernel_rfl) (by kernel_rfl)
      (OpenSpec.preRow_of_cond 8 hx (by kernel_rfl) (fun k hk => by cases hk; kernel_rfl) (by kernel_rfl) (lai.laid_met os wArgs))) ?_
  intro W base args ds gs before hval hW _ hcond _ hL hS _
  exact contract H enc W base args ds gs before hval hW (hcond _ rfl) hL hS
theorem said : Rows.TopNeverUptoSaid :=
  OpenClaim.holds_of_cond 5 Tryz.f5 rfl rfl rfl rfl rfl rfl rfl ⟨rfl, rfl, rfl, rfl, rfl⟩ rfl rfl rfl rfl rfl (by kernel_rfl) Tryz.func5 (by kernel_rfl)
    (of_decide_eq_true (by kernel_rfl)) (by unfold Func.isWrapper; first | (rw [if_pos (by decide +kernel)]; kernel_rfl) | (rw [if_neg (by decide +kernel)]; exact ⟨rfl, rfl⟩))
    (fun os started H enc _ F => by rw [OpenClaim.pre_eq_preRow]; exact lifted os started H enc F)
theorem plain (f : FuncId) (fn : Func) (hf : Tryz.pinned.checked.prog.funcNamed "lifeline/lifelinetop.TopNever" = some f) (hfn : Tryz.pinned.checked.prog.funcs[f]? = some fn) :
    true = Tryz.pinned.checked.prog.looks [] ∧ ∀ (j : Nat) t, fn.params[j]? = some t → Tryz.pinned.checked.prog.wantsStandIn t = false := by
  obtain rfl : f = 5 := Option.some.inj ((show Tryz.prog.funcNamed "lifeline/lifelinetop.TopNever" = some 5 by kernel_rfl).symm.trans hf) |>.symm
  obtain rfl : fn = Tryz.f5 := (Option.some.inj (Tryz.func5.symm.trans hfn)).symm
  refine ⟨by kernel_rfl, fun j t ht => ?_⟩
  rw [Tryz.params5] at ht
  have hm : t ∈ [25, 26, 60, 22] := by simpa using Array.mem_of_getElem? ht
  have hall : ([25, 26, 60, 22].all fun u => !Tryz.prog.wantsStandIn u) = true := by kernel_rfl
  exact (show Tryz.prog.wantsStandIn t = false by simpa using List.all_eq_true.1 hall t hm)
theorem proved : Rows.TopNeverUptoCardSaid :=
  Claim7.holds_tied_plain_at .later [] _ _ _ _ said (fun _ h => by cases h) (by kernel_rfl) (fun _ h => by cases h) topNeverUpto_row_tie rfl ⟨rfl, rfl⟩ (by kernel_rfl) rfl plain (by kernel_rfl)
end Go.Proofs.YtplaamfoeaaaiaaGreatDoor.topNever
