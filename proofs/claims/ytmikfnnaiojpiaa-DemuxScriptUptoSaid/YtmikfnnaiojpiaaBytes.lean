/-
  Slices of bytes in memory: reading, slicing, appending, as steps of the walk.
-/
import Derived.Test.YtmikfnnaiojpiaaBase
namespace Go.Proofs.Ytmikfnnaiojpiaa
open Go.RowKit

/-- A slice's value over bytes: nil and no bytes, or an address at which they lie. -/
structure Bytes (w : World) (a : Option Addr) (bs : List UInt8) : Prop where
  nil : a = none → bs = []
  cell : ∀ ad, a = some ad → ∀ i, i < bs.length → w.cell? (ad.add i) = some (byteV (bs.getD i 0))

/-- The slice lies in no block of bs. -/
def Away (a : Option Addr) (bs : List Nat) : Prop := ∀ ad, a = some ad → ad.block ∉ bs

theorem add_block (ad : Addr) (i : Nat) : (ad.add i).block = ad.block := by unfold Addr.add; split <;> rfl

theorem Bytes.of_only {w w' : World} {a : Option Addr} {bs : List UInt8} {ks : List Nat} (h : Bytes w a bs) (ho : Only ks w w') (ha : bs = [] ∨ Away a ks) : Bytes w' a bs := by
  refine ⟨h.nil, fun ad had i hi => ?_⟩
  have hc := h.cell ad had i hi
  have hlt := World.block_lt_of_cell? w _ hc
  rcases ha with rfl | ha
  · simp at hi
  · rw [World.cell?_of_block (w := w) (ho.block _ hlt (by rw [add_block]; exact ha ad had))]; exact hc

/-- A block of bytes, as a slice. -/
theorem Bytes.of_block {w : World} {b : Nat} {bs : List UInt8} {c : Array Value} {t : TypeId} {fr : Nat × Nat} (h : w.heap[b]? = some (.cells c t fr)) (hc : ∀ i, i < bs.length → c[i]? = some (byteV (bs.getD i 0))) : Bytes w (some ⟨b, 0, none⟩) bs := by
  refine ⟨fun e => (by cases e), fun ad e i hi => ?_⟩
  cases e
  rw [Addr.add_lit, Nat.zero_add]
  exact cell_at h (hc i hi)

theorem spot_of_cell {w : World} {ad : Addr} {v : Value} (h : w.cell? ad = some v) : ad.spot = none := by
  cases hs : ad.spot with
  | none => rfl
  | some x => unfold World.cell? at h; split at h <;> simp [hs] at h

/-- What the call owns, as a slice. -/
theorem Bytes.of_owns {w : World} {base : Nat} {a : Option Addr} {n c : Nat} {bs : List UInt8} (h : w.ownsRow base 5 1 (.slice a n c) n (bs.map byteV)) : Bytes w a bs ∧ bs.length = n ∧ n ≤ c ∧ (a = none → c = 0) ∧ (∀ ad, a = some ad → base ≤ ad.block) ∧ c ≤ maxLen := by
  have hl : bs.length = n := by have := h.1; simpa using this
  rcases h.2 with ⟨hv, hn⟩ | ⟨g, cap, cur, hv, hg, hh, hle, hm, hs, ht⟩
  · simp only [Value.slice.injEq] at hv
    obtain ⟨rfl, rfl, rfl⟩ := hv
    have : bs = [] := List.eq_nil_of_length_eq_zero hl
    exact ⟨⟨fun _ => this, fun ad e => by cases e⟩, hl, Nat.le_refl _, fun _ => rfl, fun ad e => (by cases e), by simp [maxLen]⟩
  · simp only [Value.slice.injEq] at hv
    obtain ⟨rfl, _, rfl⟩ := hv
    refine ⟨⟨fun e => (by cases e), fun ad e i hi => ?_⟩, hl, hle, fun e => (by cases e), fun ad e => (by cases e; exact hg), hm⟩
    cases e
    have hi' : i < n := by omega
    rw [Addr.add_lit, Nat.zero_add, cell_of_row w g i cur 5 (0, 0) hh]
    have e2 : (cur.toList.take (n * 1))[i]? = (bs.map byteV)[i]? := by rw [ht]
    rw [List.getElem?_take, if_pos (by omega)] at e2
    rw [← Array.getElem?_toList, e2]
    simp [List.getD, hi]

/-- The head of a slice. -/
theorem run_head (P : Program) (w : World) (t : TypeId) (a : Option Addr) (n c k : Nat) (ht : P.underlying t = some (.slice (P.elem t))) (s : Nat) (hs : ∀ w, (sizeOf (P.elem t)).run P w = .ok s w) (hk : k ≤ c) (kh : IntKind) :
    (Instr.slice t (.slice a n c) none (some (.int kh (k : Int))) none).run P w = .ok (.slice a k c) w := by
  rw [run_slice_h w t a n c ht kh k (by omega) (by omega), hs]
  simp only [Result.andThen, sliced, Int.toNat_natCast, Nat.zero_mul, Nat.sub_zero]
  congr 1
  cases a with
  | none => simp
  | some ad => simp [Addr.add]

theorem run_tail (P : Program) (w : World) (t : TypeId) (a : Option Addr) (n c k : Nat) (ht : P.underlying t = some (.slice (P.elem t))) (s : Nat) (hs : ∀ w, (sizeOf (P.elem t)).run P w = .ok s w) (hk : k ≤ n) (kh : IntKind) :
    (Instr.slice t (.slice a n c) (some (.int kh (k : Int))) none none).run P w = .ok (.slice (if c = k then a else a.map (·.add (k * s))) (n - k) (c - k)) w := by
  rw [run_slice_l w t a n c ht kh k (by omega) (by omega), hs]
  simp only [Result.andThen, sliced, Int.toNat_natCast]

theorem Bytes.tail {w : World} {a : Option Addr} {bs : List UInt8} (h : Bytes w a bs) (k c : Nat) (hk : k ≤ bs.length) (hc : bs.length ≤ c) : Bytes w (if c = k then a else a.map (·.add (k * 1))) (bs.drop k) := by
  split
  · have : bs.drop k = [] := List.drop_eq_nil_of_le (by omega)
    rw [this]
    exact ⟨fun _ => rfl, fun ad e i hi => by simp at hi⟩
  · refine ⟨fun e => ?_, fun ad e i hi => ?_⟩
    · cases a with
      | none => rw [h.nil rfl]; simp
      | some ad => simp at e
    · cases a with
      | none => simp at e
      | some a0 =>
        simp only [Option.map_some, Option.some.injEq] at e
        subst e
        simp only [List.length_drop] at hi
        have hc' := h.cell a0 rfl (k + i) (by omega)
        have hadd : (a0.add (k * 1)).add i = a0.add (k + i) := by
          unfold Addr.add
          by_cases h1 : k = 0
          · subst h1; simp
          · by_cases h2 : i = 0
            · subst h2; simp [h1]
            · simp [h1, h2, Nat.add_assoc]
        rw [hadd, hc']
        simp [List.getD, List.getElem?_drop]

theorem Bytes.head {w : World} {a : Option Addr} {bs : List UInt8} (h : Bytes w a bs) (k : Nat) : Bytes w a (bs.take k) := by
  refine ⟨fun e => by rw [h.nil e]; simp, fun ad e i hi => ?_⟩
  simp at hi
  rw [h.cell ad e i (by omega)]
  simp [List.getD, show i < k by omega]

theorem away_tail {a : Option Addr} {ks : List Nat} (h : Away a ks) (k c : Nat) : Away (if c = k then a else a.map (·.add (k * 1))) ks := by
  split
  · exact h
  · intro ad e
    cases a with
    | none => simp at e
    | some a0 =>
      simp only [Option.map_some, Option.some.injEq] at e
      subst e
      rw [add_block]; exact h a0 rfl

/-- string(b), b's bytes known. -/
theorem run_str (w : World) (a : Option Addr) (n c : Nat) (bs : List UInt8) (h : Bytes w a bs) (hn : bs.length = n) :
    (convert 37 9 (.slice a n c)).run Try.prog w = .ok (.string ⟨bs.toArray⟩) w := by
  cases a with
  | none =>
    have hb := h.nil rfl
    subst hb
    rw [run_convert_bytes_string w 37 9 5 none n c Try.underlying37 Try.underlying5 Try.underlying9]
    rfl
  | some ad =>
    subst hn
    refine run_convert_bytes_back w 37 9 5 ad c bs Try.underlying37 Try.underlying5 Try.underlying9 ?_
    intro j hj
    rw [h.cell ad rfl j hj]
    simp [List.getD, hj]

theorem bounds_u8' {n : Int} (h : (Lit.int .u8 n).wf = true) : 0 ≤ n ∧ n ≤ 255 := by
  simp [Lit.wf] at h
  have e1 : IntKind.u8.min = 0 := by decide
  have e2 : IntKind.u8.max = 255 := by decide
  omega

/-- What came in as a slice of bytes. -/
theorem row_bytes {w : World} {a : Option Addr} {len cap : Nat} {zs : List Int} (h : (a = none ∧ len = 0 ∧ cap = 0 ∧ zs = []) ∨
    ∃ x, a = some x ∧ len ≤ cap ∧ cap ≤ maxLen ∧ zs.length = cap ∧ (∀ i, i < zs.length → w.cell? (x.add i) = some (.int .u8 (zs.getD i 0))) ∧ ∀ n ∈ zs, (Lit.int .u8 n).wf = true) :
    ∃ bs : List UInt8, bs.length = len ∧ Bytes w a bs ∧ len ≤ cap ∧ cap ≤ maxLen ∧ (a = none → cap = 0) ∧ (bs = [] ∨ ∀ ad, a = some ad → ad.block < w.heap.size) := by
  rcases h with ⟨rfl, rfl, rfl, rfl⟩ | ⟨x, rfl, hl, hm, hz, hc, hw⟩
  · exact ⟨[], rfl, ⟨fun _ => rfl, fun ad e => by cases e⟩, Nat.le_refl _, by simp [maxLen], fun _ => rfl, .inl rfl⟩
  · have hlen : ((zs.take len).map fun n => UInt8.ofNat n.toNat).length = len := by simp; omega
    have hcell : ∀ i, i < len → w.cell? (x.add i) = some (byteV (((zs.take len).map fun n => UInt8.ofNat n.toNat).getD i 0)) := by
      intro i hi
      rw [hc i (by omega)]
      have hi' : i < zs.length := by omega
      have hb := bounds_u8' (hw zs[i] (List.getElem_mem hi'))
      have e : ((zs.take len).map fun n => UInt8.ofNat n.toNat).getD i 0 = UInt8.ofNat zs[i].toNat := by
        simp [List.getD, hi', hi]
      rw [e]
      have e2 : zs.getD i 0 = zs[i] := by simp [List.getD, hi']
      rw [e2]
      have e3 : ((UInt8.ofNat zs[i].toNat).toNat : Int) = zs[i] := by
        rw [UInt8.toNat_ofNat']; omega
      show _ = some (Value.int .u8 ((UInt8.ofNat zs[i].toNat).toNat : Int))
      rw [e3]
    refine ⟨_, hlen, ⟨fun e => (by cases e), fun ad e i hi => ?_⟩, hl, hm, fun e => (by cases e), ?_⟩
    · cases e
      exact hcell i (by omega)
    · by_cases h0 : len = 0
      · left; exact List.eq_nil_of_length_eq_zero (by omega)
      · right
        intro ad e
        cases e
        have := World.block_lt_of_cell? w _ (hcell 0 (by omega))
        rw [add_block] at this
        exact this

theorem Try.size5b (w : World) : (sizeOf (Try.prog.elem 37)).run Try.prog w = .ok 1 w := by
  have h : Try.prog.elem 37 = 5 := by kernel_rfl
  rw [h]
  obtain ⟨i, hi, _, hs, _⟩ := info_parts Try.info5
  simp [sizeOf, typeInfo, hi, hs]

theorem Try.elem37 : Try.prog.underlying 37 = some (.slice (Try.prog.elem 37)) := by kernel_rfl

theorem bytes_news {w : World} {ad : Addr} {bs : List UInt8} (h : Bytes w (some ad) bs) : ∀ j u, (bs.map byteV)[j]? = some u → w.cell? (ad.add j) = some u := by
  intro j u hu
  have hj : j < bs.length := by
    have := (List.getElem?_eq_some_iff.1 hu).1
    simpa using this
  rw [h.cell ad rfl j hj]
  rw [List.getElem?_map, List.getElem?_eq_getElem hj] at hu
  simp only [Option.map_some, Option.some.injEq] at hu
  rw [← hu]
  simp [List.getD, hj]

theorem byteV_one (bs : List UInt8) : ∀ u ∈ bs.map byteV, u.oneCell' = true := by
  intro u hu
  obtain ⟨_, _, rfl⟩ := List.mem_map.1 hu
  rfl

theorem run_app (w : World) (base : Nat) (ty : TypeId) (v : Value) (n : Nat) (xs : List UInt8) (hown : w.ownsRow base 5 1 v n (xs.map byteV)) (a : Option Addr) (m c : Nat) (bs : List UInt8) (hb : Bytes w a bs) (hm : bs.length = m) (hn : a = none → c = 0)
    (hl : n + m ≤ 140737488355328) (hbase : base ≤ w.heap.size) :
    ∃ v' w', (Builtin.append_ #[37, 37] ty #[v, .slice a m c]).run Try.prog w = .ok v' w' ∧ w'.ownsRow base 5 1 v' (n + m) ((xs ++ bs).map byteV) ∧ w.grownBy w' v.ownBlock := by
  obtain ⟨i0, hi, hz0, hz1, hz2⟩ := info_parts Try.info5
  cases a with
  | none =>
    obtain rfl := hn rfl
    obtain rfl := hb.nil rfl
    simp only [List.length_nil] at hm
    subst hm
    refine ⟨v, w, run_append_owned_none (P := Try.prog) w base 37 ty 5 i0 1 Try.underlying37 hi v n _ hown, ?_, World.grownBy.refl _ _⟩
    simpa using hown
  | some ad =>
    obtain ⟨v', w', hr, h1, h2, _⟩ := run_append_own (P := Try.prog) w base 37 ty 5 i0 (.int .u8 0) 1 1 Try.underlying37 hi hz0 hz1 hz2 rfl (by decide) v n _ hown ad m c (bs.map byteV) (by simp [hm]) (bytes_news hb) (byteV_one bs)
      (by unfold maxLen; omega) (by omega) hbase
    exact ⟨v', w', hr, by rw [List.map_append]; exact h1, h2⟩

theorem wpList_app (w : World) {ops : Array Oper} {rest : List Oper} {o : Oper} {a : Act} {Q : Exit → Act → World → Prop}
    (hg : o.guard = none) (s x : Operand) (hop : o.op = Op.call { callee := Callee.builtin Builtin.append, args := #[s, x], argTypes := #[37, 37] })
    (base : Nat) (v : Value) (n : Nat) (xs : List UInt8) (hs : a.eval s = v) (hown : w.ownsRow base 5 1 v n (xs.map byteV)) (ao : Option Addr) (m c : Nat) (bs : List UInt8) (hx : a.eval x = .slice ao m c) (hb : Bytes w ao bs) (hm : bs.length = m) (hn : ao = none → c = 0)
    (zs : List UInt8) (hz : xs ++ bs = zs) (N : Nat) (hN : n + m = N) (hl : N ≤ 140737488355328) (hbase : base ≤ w.heap.size)
    (hK : ∀ v' w', w'.ownsRow base 5 1 v' N (zs.map byteV) → w.grownBy w' v.ownBlock → wpList Try.prog ops Q rest (a.put o.dst v') w') :
    wpList Try.prog ops Q (o :: rest) a w := by
  subst hz
  subst hN
  refine wpList_plain hg fun K hK' => ?_
  obtain ⟨v', w', hrun, r1, r2⟩ := run_app w base o.type v n xs hown ao m c bs hb hm hn hl hbase
  unfold Oper.wp
  simp [execOp, hop, resolve, invoke, builtin, hs, hx, hrun, Result.andThen]
  exact hK' _ _ (hK v' w' r1 r2)

theorem owns_some {w : World} {base : Nat} {v : Value} {n : Nat} {xs : List Value} (h : w.ownsRow base 5 1 v n xs) (hn : 0 < n) : ∃ g c, v = .slice (some ⟨g, 0, none⟩) n c ∧ base ≤ g ∧ g < w.heap.size ∧ n ≤ c ∧ c ≤ maxLen := by
  rcases h.2 with ⟨_, h0⟩ | ⟨g, c, cur, hv, hg, hh, hle, hm, _⟩
  · omega
  · exact ⟨g, c, hv, hg, (Array.getElem?_eq_some_iff.1 hh).1, hle, hm⟩

theorem wpList_appS (w : World) {ops : Array Oper} {rest : List Oper} {o : Oper} {a : Act} {Q : Exit → Act → World → Prop}
    (hg : o.guard = none) (s x : Operand) (hop : o.op = Op.call { callee := Callee.builtin Builtin.append, args := #[s, x], argTypes := #[37, 37] })
    (base : Nat) (v : Value) (n : Nat) (xs : List UInt8) (hs : a.eval s = v) (hown : w.ownsRow base 5 1 v n (xs.map byteV)) (ao : Option Addr) (m c : Nat) (bs : List UInt8) (hx : a.eval x = .slice ao m c) (hb : Bytes w ao bs) (hm : bs.length = m) (hn : ao = none → c = 0)
    (zs : List UInt8) (hz : xs ++ bs = zs) (N : Nat) (hN : n + m = N) (hl : N ≤ 140737488355328) (hbase : base ≤ w.heap.size) (hpos : 0 < N)
    (hK : ∀ g cp w', w'.ownsRow base 5 1 (.slice (some ⟨g, 0, none⟩) N cp) N (zs.map byteV) → w.grownBy w' v.ownBlock → base ≤ g → g < w'.heap.size → N ≤ cp → cp ≤ 9223372036854775807 → wpList Try.prog ops Q rest (a.put o.dst (.slice (some ⟨g, 0, none⟩) N cp)) w') :
    wpList Try.prog ops Q (o :: rest) a w := by
  refine wpList_app w hg s x hop base v n xs hs hown ao m c bs hx hb hm hn zs hz N hN hl hbase ?_
  intro v' w' h1 h2
  obtain ⟨g, cp, rfl, e1, e2, e3, e4⟩ := owns_some h1 hpos
  exact hK g cp w' h1 h2 e1 e2 e3 (by simpa [maxLen] using e4)

theorem bytes1 (w : World) (x : UInt8) (a : Int) (hx : (x.toNat : Int) = a) : Bytes (w.alloc (.cells #[.int .u8 a] 5)) (some ⟨w.heap.size, 0, none⟩) [x] := by
  subst hx
  exact Bytes.of_block (heap_alloc_new w _) (by
    intro i hi
    match i, hi with
    | 0, _ => rfl)

theorem Bytes.drew {w : World} {a : Option Addr} {bs : List UInt8} (h : Bytes w a bs) : Bytes w.drew a bs := ⟨h.nil, h.cell⟩


end Go.Proofs.Ytmikfnnaiojpiaa
