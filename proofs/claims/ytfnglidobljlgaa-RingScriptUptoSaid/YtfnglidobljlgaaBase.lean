/-
  Plain words for a ring in memory: two blocks, what they hold, and that nothing else has turned. No walk in sight.
-/
import Derived.Test.YtfnglidobljlgaaRows
import Derived.WalkKit
import Derived.WalkSpells
import Derived.WalkLawsBesides
import Derived.Lib.Hide
import Derived.IntWalk
namespace Go.Proofs.Ytfnglidobljlgaa
open Go.RowKit

/-- Of the blocks that were there only those in bs may have turned. -/
structure Only (bs : List Nat) (w w' : World) : Prop where
  os : w'.os = w.os
  tape : w'.tape = w.tape
  output : w'.output = w.output
  size : w.heap.size ≤ w'.heap.size
  block : ∀ k, k < w.heap.size → k ∉ bs → w'.heap[k]? = w.heap[k]?

theorem Only.refl (bs : List Nat) (w : World) : Only bs w w := ⟨rfl, rfl, rfl, Nat.le_refl _, fun _ _ _ => rfl⟩

theorem Only.trans {bs : List Nat} {a b c : World} (h : Only bs a b) (k : Only bs b c) : Only bs a c :=
  ⟨k.os.trans h.os, k.tape.trans h.tape, k.output.trans h.output, Nat.le_trans h.size k.size,
    fun i hi hn => (k.block i (Nat.lt_of_lt_of_le hi h.size) hn).trans (h.block i hi hn)⟩

theorem Only.weaken {bs cs : List Nat} {a b : World} (h : Only bs a b) (hs : ∀ x, x ∈ bs → x ∈ cs) : Only cs a b :=
  ⟨h.os, h.tape, h.output, h.size, fun i hi hn => h.block i hi fun hx => hn (hs i hx)⟩

theorem Only.drew {bs : List Nat} {a w : World} (h : Only bs a w) : Only bs a w.drew := ⟨h.os, h.tape, h.output, h.size, h.block⟩

theorem Only.alloc {bs : List Nat} {a w : World} (h : Only bs a w) (o : Obj) : Only bs a (w.alloc o) :=
  h.trans ⟨rfl, rfl, rfl, by simp, fun k hk _ => Below.heap_alloc _ _ _ hk⟩

theorem Only.setCell {bs : List Nat} {a w : World} (h : Only bs a w) {p : Addr} (hp : p.block ∈ bs) (u : Value) : Only bs a (w.setCell p u) :=
  h.trans ⟨rfl, rfl, rfl, by simp [World.setCell], fun k _ hn => Below.heap_setCell _ _ _ _ (fun e => hn (e ▸ hp))⟩

theorem Only.below {bs : List Nat} {a w : World} {B : Nat} (h : Only bs a w) (hB : B ≤ a.heap.size) (hb : ∀ x, x ∈ bs → B ≤ x) : Below B a w :=
  ⟨h.os, h.tape, h.output, h.size, fun k hk => h.block k (by omega) fun hx => by have := hb k hx; omega⟩

theorem Below.only {bs : List Nat} {a w : World} {B : Nat} (h : Below B a w) (hb : ∀ x, x < a.heap.size → B ≤ x → x ∈ bs) : Only bs a w :=
  ⟨h.os, h.tape, h.output, h.size, fun k hk hn => h.block k (by
    rcases Nat.lt_or_ge k B with h' | h'
    · exact h'
    · exact absurd (hb k hk h') hn)⟩

/-- A block of cells reads so. -/
theorem cell_at {w : World} {b i : Nat} {c : Array Value} {t : TypeId} {fr : Nat × Nat} {v : Value} (h : w.heap[b]? = some (.cells c t fr)) (hv : c[i]? = some v) : w.cell? ⟨b, i, none⟩ = some v := by
  rw [cell_of_row w b i c t fr h]; exact hv

theorem free_at {w : World} {b i : Nat} {c : Array Value} {t : TypeId} (h : w.heap[b]? = some (.cells c t (0, 0))) : w.frozen? ⟨b, i, none⟩ = false := frozen_of_row w b i c t h

/-- A byte in a cell. -/
abbrev byteV (x : UInt8) : Value := .int .u8 (x.toNat : Int)

/-- THE RING: its struct is block S (type 43), its room block R; the bytes q wait, from place at_ on, in a circle of cap places; so many are lost. -/
structure Ringed (w : World) (R S cap at_ : Nat) (q : List UInt8) (lost : Int) : Prop where
  ne : R ≠ S
  capPos : 0 < cap
  capLe : cap ≤ 4096
  atLt : at_ < cap
  len : q.length ≤ cap
  str : w.heap[S]? = some (.cells #[.slice (some ⟨R, 0, none⟩) cap cap, .int .i64 at_, .int .i64 q.length, .int .i64 lost] 43 (0, 0))
  room : ∃ buf : Array Value, w.heap[R]? = some (.cells buf 5 (0, 0)) ∧ buf.size = cap ∧ (∀ i, i < cap → ∃ x : UInt8, buf[i]? = some (byteV x)) ∧
    ∀ i, i < q.length → buf[(at_ + i) % cap]? = some (byteV (q.getD i 0))

theorem Ringed.of_only {w w' : World} {R S cap at_ : Nat} {q : List UInt8} {lost : Int} {bs : List Nat} (h : Ringed w R S cap at_ q lost) (ho : Only bs w w') (hR : R ∉ bs) (hS : S ∉ bs) : Ringed w' R S cap at_ q lost := by
  obtain ⟨buf, hb, rest⟩ := h.room
  refine ⟨h.ne, h.capPos, h.capLe, h.atLt, h.len, ?_, buf, ?_, rest⟩
  · rw [ho.block S (Array.getElem?_eq_some_iff.1 h.str).1 hS]; exact h.str
  · rw [ho.block R (Array.getElem?_eq_some_iff.1 hb).1 hR]; exact hb

theorem Ringed.drew {w : World} {R S cap at_ : Nat} {q : List UInt8} {lost : Int} (h : Ringed w R S cap at_ q lost) : Ringed w.drew R S cap at_ q lost :=
  h.of_only (Only.refl [] w).drew (by simp) (by simp)

theorem Ringed.lt {w : World} {R S cap at_ : Nat} {q : List UInt8} {lost : Int} (h : Ringed w R S cap at_ q lost) : R < w.heap.size ∧ S < w.heap.size := by
  obtain ⟨buf, hb, _⟩ := h.room
  exact ⟨(Array.getElem?_eq_some_iff.1 hb).1, (Array.getElem?_eq_some_iff.1 h.str).1⟩

theorem Try.info5 : (Try.prog.info? 5).map (fun i => (i.zero, i.size, i.bytes)) = some (some (.int .u8 0), 1, 1) := by kernel_rfl

/-- A ring is made. -/
theorem ringed_new (w : World) (cap : Nat) (h0 : 0 < cap) (h1 : cap ≤ 4096) :
    Ringed ((w.alloc (.cells (madeCells #[.int .u8 0] cap) 5)).alloc (.cells #[.slice (some ⟨w.heap.size, 0, none⟩) cap cap, .int .i64 0, .int .i64 0, .int .i64 0] 43)) w.heap.size (w.heap.size + 1) cap 0 [] 0 := by
  refine ⟨by omega, h0, h1, h0, by simp, ?_, madeCells #[.int .u8 0] cap, ?_, size_madeCells _ _, ?_, ?_⟩
  · show ((w.heap.push _).push _)[w.heap.size + 1]? = _
    rw [Array.getElem?_push, if_pos (by simp)]; rfl
  · show ((w.heap.push _).push _)[w.heap.size]? = _
    rw [Array.getElem?_push, if_neg (by simp), Array.getElem?_push, if_pos rfl]
  · intro i hi
    refine ⟨0, ?_⟩
    have := toList_madeCells_one (.int .u8 0) cap
    rw [← Array.getElem?_toList, this, List.getElem?_replicate, if_pos hi]; rfl
  · intro i hi; simp at hi

theorem heap_set_same {w : World} {b i : Nat} {c : Array Value} {t : TypeId} {v : Value} (h : w.heap[b]? = some (.cells c t (0, 0))) : (w.setCell ⟨b, i, none⟩ v).heap[b]? = some (.cells (c.setIfInBounds i v) t (0, 0)) := heap_setCell_same w b i c t v h

theorem heap_set_other {w : World} {b b' i : Nat} {v : Value} (h : b ≠ b') : (w.setCell ⟨b', i, none⟩ v).heap[b]? = w.heap[b]? := heap_setCell_other w ⟨b', i, none⟩ b v h

theorem mod_ne {a b c m : Nat} (h0 : a < m) (hb : b < m) (hc : c < m) (h : b ≠ c) : (a + b) % m ≠ (a + c) % m := by
  have e1 : (a + b) % m = if a + b < m then a + b else a + b - m := by
    split
    · exact Nat.mod_eq_of_lt ‹_›
    · rw [Nat.mod_eq_sub_mod (by omega), Nat.mod_eq_of_lt (by omega)]
  have e2 : (a + c) % m = if a + c < m then a + c else a + c - m := by
    split
    · exact Nat.mod_eq_of_lt ‹_›
    · rw [Nat.mod_eq_sub_mod (by omega), Nat.mod_eq_of_lt (by omega)]
  rw [e1, e2]
  split <;> split <;> omega

/-- A byte is laid behind the others. -/
theorem Ringed.put {w : World} {R S cap at_ : Nat} {q : List UInt8} {lost : Int} (h : Ringed w R S cap at_ q lost) (hl : q.length < cap) (x : UInt8) :
    Ringed ((w.setCell ⟨R, (at_ + q.length) % cap, none⟩ (byteV x)).setCell ⟨S, 2, none⟩ (.int .i64 ((q.length : Int) + 1))) R S cap at_ (q ++ [x]) lost := by
  obtain ⟨buf, hb, hsz, hall, hq⟩ := h.room
  have hpos := h.capPos
  have hat := h.atLt
  have hm : (at_ + q.length) % cap < buf.size := by rw [hsz]; exact Nat.mod_lt _ hpos
  refine ⟨h.ne, h.capPos, h.capLe, h.atLt, by simp; omega, ?_, buf.setIfInBounds ((at_ + q.length) % cap) (byteV x), ?_, by simpa using hsz, ?_, ?_⟩
  · have h1 : (w.setCell ⟨R, (at_ + q.length) % cap, none⟩ (byteV x)).heap[S]? = _ := (heap_set_other (Ne.symm h.ne)).trans h.str
    rw [heap_set_same h1]
    simp
  · rw [heap_set_other h.ne, heap_set_same hb]
  · intro i hi
    rw [Array.getElem?_setIfInBounds]
    split
    · exact ⟨x, by first | rfl | rw [if_pos hm]⟩
    · exact hall i hi
  · intro i hi
    simp at hi
    rw [Array.getElem?_setIfInBounds]
    by_cases e : i = q.length
    · subst e
      rw [if_pos rfl, if_pos hm]
      simp
    · have hne := mod_ne (a := at_) (b := q.length) (c := i) hat hl (by omega) (fun e' => e e'.symm)
      rw [if_neg hne, hq i (by omega)]
      simp [List.getD, List.getElem?_append, show i < q.length by omega]

/-- What was lost is counted anew. -/
theorem Ringed.setLost {w : World} {R S cap at_ : Nat} {q : List UInt8} {lost : Int} (h : Ringed w R S cap at_ q lost) (l : Int) :
    Ringed (w.setCell ⟨S, 3, none⟩ (.int .i64 l)) R S cap at_ q l := by
  obtain ⟨buf, hb, rest⟩ := h.room
  refine ⟨h.ne, h.capPos, h.capLe, h.atLt, h.len, ?_, buf, ?_, rest⟩
  · rw [heap_set_same h.str]; simp
  · rw [heap_set_other h.ne]; exact hb

/-- The first byte is taken. -/
theorem Ringed.take {w : World} {R S cap at_ : Nat} {x : UInt8} {q : List UInt8} {lost : Int} (h : Ringed w R S cap at_ (x :: q) lost) :
    Ringed ((w.setCell ⟨S, 1, none⟩ (.int .i64 (((at_ + 1) % cap : Nat) : Int))).setCell ⟨S, 2, none⟩ (.int .i64 (q.length : Int))) R S cap ((at_ + 1) % cap) q lost := by
  obtain ⟨buf, hb, hsz, hall, hq⟩ := h.room
  have hpos := h.capPos
  have hat := h.atLt
  refine ⟨h.ne, h.capPos, h.capLe, Nat.mod_lt _ hpos, by have := h.len; simp at this; omega, ?_, buf, ?_, hsz, hall, ?_⟩
  · rw [heap_set_same (heap_set_same h.str)]; simp
  · rw [heap_set_other h.ne, heap_set_other h.ne]; exact hb
  · intro i hi
    have := hq (i + 1) (by simp; omega)
    rw [Nat.mod_add_mod, Nat.add_assoc, Nat.add_comm 1 i]
    simpa using this

theorem Ringed.first {w : World} {R S cap at_ : Nat} {x : UInt8} {q : List UInt8} {lost : Int} (h : Ringed w R S cap at_ (x :: q) lost) : w.cell? ⟨R, at_, none⟩ = some (byteV x) := by
  obtain ⟨buf, hb, hsz, hall, hq⟩ := h.room
  have := hq 0 (by simp)
  rw [Nat.add_zero, Nat.mod_eq_of_lt h.atLt] at this
  exact cell_at hb (by simpa using this)

/-- A slice's value over bytes: nil and no bytes, or an address at which they lie. -/
structure Bytes (w : World) (a : Option Addr) (bs : List UInt8) : Prop where
  nil : a = none → bs = []
  cell : ∀ ad, a = some ad → ∀ i, i < bs.length → w.cell? (ad.add i) = some (byteV (bs.getD i 0))

/-- The slice lies in no block of bs. -/
def Away (a : Option Addr) (bs : List Nat) : Prop := ∀ ad, a = some ad → ad.block ∉ bs

theorem add_block (ad : Addr) (i : Nat) : (ad.add i).block = ad.block := by unfold Addr.add; split <;> rfl

theorem Bytes.of_only {w w' : World} {a : Option Addr} {bs : List UInt8} {ks : List Nat} (h : Bytes w a bs) (ho : Only ks w w') (ha : bs = [] ∨ Away a ks) : Bytes w' a bs := by
  refine ⟨h.nil, fun ad had i hi => ?_⟩
  have hc := h.cell ad had i hi
  have hlt := World.block_lt_of_cell? w _ hc
  rcases ha with rfl | ha
  · simp at hi
  · rw [World.cell?_of_block (w := w) (ho.block _ hlt (by rw [add_block]; exact ha ad had))]; exact hc

/-- A block of bytes, as a slice. -/
theorem Bytes.of_block {w : World} {b : Nat} {bs : List UInt8} {c : Array Value} {t : TypeId} {fr : Nat × Nat} (h : w.heap[b]? = some (.cells c t fr)) (hc : ∀ i, i < bs.length → c[i]? = some (byteV (bs.getD i 0))) : Bytes w (some ⟨b, 0, none⟩) bs := by
  refine ⟨fun e => (by cases e), fun ad e i hi => ?_⟩
  cases e
  rw [Addr.add_lit, Nat.zero_add]
  exact cell_at h (hc i hi)

theorem spot_of_cell {w : World} {ad : Addr} {v : Value} (h : w.cell? ad = some v) : ad.spot = none := by
  cases hs : ad.spot with
  | none => rfl
  | some x => unfold World.cell? at h; split at h <;> simp [hs] at h

/-- What the call owns, as a slice. -/
theorem Bytes.of_owns {w : World} {base : Nat} {a : Option Addr} {n c : Nat} {bs : List UInt8} (h : w.ownsRow base 5 1 (.slice a n c) n (bs.map byteV)) : Bytes w a bs ∧ bs.length = n ∧ n ≤ c ∧ (a = none → c = 0) ∧ (∀ ad, a = some ad → base ≤ ad.block) ∧ c ≤ maxLen := by
  have hl : bs.length = n := by have := h.1; simpa using this
  rcases h.2 with ⟨hv, hn⟩ | ⟨g, cap, cur, hv, hg, hh, hle, hm, hs, ht⟩
  · simp only [Value.slice.injEq] at hv
    obtain ⟨rfl, rfl, rfl⟩ := hv
    have : bs = [] := List.eq_nil_of_length_eq_zero hl
    exact ⟨⟨fun _ => this, fun ad e => by cases e⟩, hl, Nat.le_refl _, fun _ => rfl, fun ad e => (by cases e), by simp [maxLen]⟩
  · simp only [Value.slice.injEq] at hv
    obtain ⟨rfl, _, rfl⟩ := hv
    refine ⟨⟨fun e => (by cases e), fun ad e i hi => ?_⟩, hl, hle, fun e => (by cases e), fun ad e => (by cases e; exact hg), hm⟩
    cases e
    have hi' : i < n := by omega
    rw [Addr.add_lit, Nat.zero_add, cell_of_row w g i cur 5 (0, 0) hh]
    have e2 : (cur.toList.take (n * 1))[i]? = (bs.map byteV)[i]? := by rw [ht]
    rw [List.getElem?_take, if_pos (by omega)] at e2
    rw [← Array.getElem?_toList, e2]
    simp [List.getD, hi]

/-- The head of a slice. -/
theorem run_head (P : Program) (w : World) (t : TypeId) (a : Option Addr) (n c k : Nat) (ht : P.underlying t = some (.slice (P.elem t))) (s : Nat) (hs : ∀ w, (sizeOf (P.elem t)).run P w = .ok s w) (hk : k ≤ c) (kh : IntKind) :
    (Instr.slice t (.slice a n c) none (some (.int kh (k : Int))) none).run P w = .ok (.slice a k c) w := by
  rw [run_slice_h w t a n c ht kh k (by omega) (by omega), hs]
  simp only [Result.andThen, sliced, Int.toNat_natCast, Nat.zero_mul, Nat.sub_zero]
  congr 1
  cases a with
  | none => simp
  | some ad => simp [Addr.add]

theorem run_tail (P : Program) (w : World) (t : TypeId) (a : Option Addr) (n c k : Nat) (ht : P.underlying t = some (.slice (P.elem t))) (s : Nat) (hs : ∀ w, (sizeOf (P.elem t)).run P w = .ok s w) (hk : k ≤ n) (kh : IntKind) :
    (Instr.slice t (.slice a n c) (some (.int kh (k : Int))) none none).run P w = .ok (.slice (if c = k then a else a.map (·.add (k * s))) (n - k) (c - k)) w := by
  rw [run_slice_l w t a n c ht kh k (by omega) (by omega), hs]
  simp only [Result.andThen, sliced, Int.toNat_natCast]

theorem Bytes.tail {w : World} {a : Option Addr} {bs : List UInt8} (h : Bytes w a bs) (k c : Nat) (hk : k ≤ bs.length) (hc : bs.length ≤ c) : Bytes w (if c = k then a else a.map (·.add (k * 1))) (bs.drop k) := by
  split
  · have : bs.drop k = [] := List.drop_eq_nil_of_le (by omega)
    rw [this]
    exact ⟨fun _ => rfl, fun ad e i hi => by simp at hi⟩
  · refine ⟨fun e => ?_, fun ad e i hi => ?_⟩
    · cases a with
      | none => rw [h.nil rfl]; simp
      | some ad => simp at e
    · cases a with
      | none => simp at e
      | some a0 =>
        simp only [Option.map_some, Option.some.injEq] at e
        subst e
        simp only [List.length_drop] at hi
        have hc' := h.cell a0 rfl (k + i) (by omega)
        have hadd : (a0.add (k * 1)).add i = a0.add (k + i) := by
          unfold Addr.add
          by_cases h1 : k = 0
          · subst h1; simp
          · by_cases h2 : i = 0
            · subst h2; simp [h1]
            · simp [h1, h2, Nat.add_assoc]
        rw [hadd, hc']
        simp [List.getD, List.getElem?_drop]

theorem Bytes.head {w : World} {a : Option Addr} {bs : List UInt8} (h : Bytes w a bs) (k : Nat) : Bytes w a (bs.take k) := by
  refine ⟨fun e => by rw [h.nil e]; simp, fun ad e i hi => ?_⟩
  simp at hi
  rw [h.cell ad e i (by omega)]
  simp [List.getD, show i < k by omega]

theorem away_tail {a : Option Addr} {ks : List Nat} (h : Away a ks) (k c : Nat) : Away (if c = k then a else a.map (·.add (k * 1))) ks := by
  split
  · exact h
  · intro ad e
    cases a with
    | none => simp at e
    | some a0 =>
      simp only [Option.map_some, Option.some.injEq] at e
      subst e
      rw [add_block]; exact h a0 rfl

/-- string(b), b's bytes known. -/
theorem run_str (w : World) (a : Option Addr) (n c : Nat) (bs : List UInt8) (h : Bytes w a bs) (hn : bs.length = n) :
    (convert 26 9 (.slice a n c)).run Try.prog w = .ok (.string ⟨bs.toArray⟩) w := by
  cases a with
  | none =>
    have hb := h.nil rfl
    subst hb
    rw [run_convert_bytes_string w 26 9 5 none n c Try.underlying26 Try.underlying5 Try.underlying9]
    rfl
  | some ad =>
    subst hn
    refine run_convert_bytes_back w 26 9 5 ad c bs Try.underlying26 Try.underlying5 Try.underlying9 ?_
    intro j hj
    rw [h.cell ad rfl j hj]
    simp [List.getD, hj]

theorem Only.grown {bs : List Nat} {a w w' : World} {row : Option Nat} (h : Only bs a w) (hg : w.grownBy w' row) (hr : ∀ k, row = some k → a.heap.size ≤ k) : Only bs a w' :=
  ⟨hg.os.trans h.os, hg.tape.trans h.tape, hg.output.trans h.output, Nat.le_trans h.size hg.size,
    fun k hk hn => (hg.block k (Nat.lt_of_lt_of_le hk h.size) (fun e => by have := hr k e.symm; omega)).trans (h.block k hk hn)⟩

theorem Ringed.grown {w w' : World} {R S cap at_ : Nat} {q : List UInt8} {lost : Int} {row : Option Nat} (h : Ringed w R S cap at_ q lost) (hg : w.grownBy w' row) (hR : row ≠ some R) (hS : row ≠ some S) : Ringed w' R S cap at_ q lost := by
  obtain ⟨buf, hb, rest⟩ := h.room
  refine ⟨h.ne, h.capPos, h.capLe, h.atLt, h.len, ?_, buf, ?_, rest⟩
  · rw [hg.block S (Array.getElem?_eq_some_iff.1 h.str).1 (Ne.symm hS)]; exact h.str
  · rw [hg.block R (Array.getElem?_eq_some_iff.1 hb).1 (Ne.symm hR)]; exact hb

theorem owns_set {w : World} {base : Nat} {v : Value} {n : Nat} {xs : List Value} (h : w.ownsRow base 5 1 v n xs) {b i : Nat} (hb : b < base) (u : Value) : (w.setCell ⟨b, i, none⟩ u).ownsRow base 5 1 v n xs :=
  ownsRow_setCell_below h hb u

theorem bounds_u8' {n : Int} (h : (Lit.int .u8 n).wf = true) : 0 ≤ n ∧ n ≤ 255 := by
  simp [Lit.wf] at h
  have e1 : IntKind.u8.min = 0 := by decide
  have e2 : IntKind.u8.max = 255 := by decide
  omega

/-- What came in as a slice of bytes. -/
theorem row_bytes {w : World} {a : Option Addr} {len cap : Nat} {zs : List Int} (h : (a = none ∧ len = 0 ∧ cap = 0 ∧ zs = []) ∨
    ∃ x, a = some x ∧ len ≤ cap ∧ cap ≤ maxLen ∧ zs.length = cap ∧ (∀ i, i < zs.length → w.cell? (x.add i) = some (.int .u8 (zs.getD i 0))) ∧ ∀ n ∈ zs, (Lit.int .u8 n).wf = true) :
    ∃ bs : List UInt8, bs.length = len ∧ Bytes w a bs ∧ len ≤ cap ∧ cap ≤ maxLen ∧ (a = none → cap = 0) ∧ (bs = [] ∨ ∀ ad, a = some ad → ad.block < w.heap.size) := by
  rcases h with ⟨rfl, rfl, rfl, rfl⟩ | ⟨x, rfl, hl, hm, hz, hc, hw⟩
  · exact ⟨[], rfl, ⟨fun _ => rfl, fun ad e => by cases e⟩, Nat.le_refl _, by simp [maxLen], fun _ => rfl, .inl rfl⟩
  · have hlen : ((zs.take len).map fun n => UInt8.ofNat n.toNat).length = len := by simp; omega
    have hcell : ∀ i, i < len → w.cell? (x.add i) = some (byteV (((zs.take len).map fun n => UInt8.ofNat n.toNat).getD i 0)) := by
      intro i hi
      rw [hc i (by omega)]
      have hi' : i < zs.length := by omega
      have hb := bounds_u8' (hw zs[i] (List.getElem_mem hi'))
      have e : ((zs.take len).map fun n => UInt8.ofNat n.toNat).getD i 0 = UInt8.ofNat zs[i].toNat := by
        simp [List.getD, hi', hi]
      rw [e]
      have e2 : zs.getD i 0 = zs[i] := by simp [List.getD, hi']
      rw [e2]
      have e3 : ((UInt8.ofNat zs[i].toNat).toNat : Int) = zs[i] := by
        rw [UInt8.toNat_ofNat']; omega
      show _ = some (Value.int .u8 ((UInt8.ofNat zs[i].toNat).toNat : Int))
      rw [e3]
    refine ⟨_, hlen, ⟨fun e => (by cases e), fun ad e i hi => ?_⟩, hl, hm, fun e => (by cases e), ?_⟩
    · cases e
      exact hcell i (by omega)
    · by_cases h0 : len = 0
      · left; exact List.eq_nil_of_length_eq_zero (by omega)
      · right
        intro ad e
        cases e
        have := World.block_lt_of_cell? w _ (hcell 0 (by omega))
        rw [add_block] at this
        exact this

end Go.Proofs.Ytfnglidobljlgaa
