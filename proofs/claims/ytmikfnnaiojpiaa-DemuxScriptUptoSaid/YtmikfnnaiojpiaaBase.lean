/-
  Plain words for a demux in memory: its struct, the segments that it owns, and that nothing else has turned. No walk in sight.
-/
import Derived.Test.YtmikfnnaiojpiaaRows
import Derived.WalkKit
import Derived.WalkSpells
import Derived.WalkLawsBesides
import Derived.Lib.Hide
import Derived.IntWalk
import Derived.OwnWalk
namespace Go.Proofs.Ytmikfnnaiojpiaa
open Go.RowKit

/-- Of the blocks that were there only those in bs may have turned. -/
structure Only (bs : List Nat) (w w' : World) : Prop where
  os : w'.os = w.os
  tape : w'.tape = w.tape
  output : w'.output = w.output
  size : w.heap.size ≤ w'.heap.size
  block : ∀ k, k < w.heap.size → k ∉ bs → w'.heap[k]? = w.heap[k]?

theorem Only.refl (bs : List Nat) (w : World) : Only bs w w := ⟨rfl, rfl, rfl, Nat.le_refl _, fun _ _ _ => rfl⟩

theorem Only.trans {bs : List Nat} {a b c : World} (h : Only bs a b) (k : Only bs b c) : Only bs a c :=
  ⟨k.os.trans h.os, k.tape.trans h.tape, k.output.trans h.output, Nat.le_trans h.size k.size,
    fun i hi hn => (k.block i (Nat.lt_of_lt_of_le hi h.size) hn).trans (h.block i hi hn)⟩

theorem Only.weaken {bs cs : List Nat} {a b : World} (h : Only bs a b) (hs : ∀ x, x ∈ bs → x ∈ cs) : Only cs a b :=
  ⟨h.os, h.tape, h.output, h.size, fun i hi hn => h.block i hi fun hx => hn (hs i hx)⟩

theorem Only.drew {bs : List Nat} {a w : World} (h : Only bs a w) : Only bs a w.drew := ⟨h.os, h.tape, h.output, h.size, h.block⟩

theorem Only.alloc {bs : List Nat} {a w : World} (h : Only bs a w) (o : Obj) : Only bs a (w.alloc o) :=
  h.trans ⟨rfl, rfl, rfl, by simp, fun k hk _ => Below.heap_alloc _ _ _ hk⟩

theorem Only.setCell {bs : List Nat} {a w : World} (h : Only bs a w) {p : Addr} (hp : p.block ∈ bs) (u : Value) : Only bs a (w.setCell p u) :=
  h.trans ⟨rfl, rfl, rfl, by simp [World.setCell], fun k _ hn => Below.heap_setCell _ _ _ _ (fun e => hn (e ▸ hp))⟩

theorem Only.below {bs : List Nat} {a w : World} {B : Nat} (h : Only bs a w) (hB : B ≤ a.heap.size) (hb : ∀ x, x ∈ bs → B ≤ x) : Below B a w :=
  ⟨h.os, h.tape, h.output, h.size, fun k hk => h.block k (by omega) fun hx => by have := hb k hx; omega⟩

/-- A block of cells reads so. -/
theorem cell_at {w : World} {b i : Nat} {c : Array Value} {t : TypeId} {fr : Nat × Nat} {v : Value} (h : w.heap[b]? = some (.cells c t fr)) (hv : c[i]? = some v) : w.cell? ⟨b, i, none⟩ = some v := by
  rw [cell_of_row w b i c t fr h]; exact hv

theorem free_at {w : World} {b i : Nat} {c : Array Value} {t : TypeId} (h : w.heap[b]? = some (.cells c t (0, 0))) : w.frozen? ⟨b, i, none⟩ = false := frozen_of_row w b i c t h

/-- A byte in a cell. -/
abbrev byteV (x : UInt8) : Value := .int .u8 (x.toNat : Int)

theorem heap_set_same {w : World} {b i : Nat} {c : Array Value} {t : TypeId} {v : Value} (h : w.heap[b]? = some (.cells c t (0, 0))) : (w.setCell ⟨b, i, none⟩ v).heap[b]? = some (.cells (c.setIfInBounds i v) t (0, 0)) := heap_setCell_same w b i c t v h

theorem heap_set_other {w : World} {b b' i : Nat} {v : Value} (h : b ≠ b') : (w.setCell ⟨b', i, none⟩ v).heap[b]? = w.heap[b]? := heap_setCell_other w ⟨b', i, none⟩ b v h

theorem Only.grown {bs : List Nat} {a w w' : World} {row : Option Nat} (h : Only bs a w) (hg : w.grownBy w' row) (hr : ∀ k, row = some k → k ∈ bs ∨ a.heap.size ≤ k) : Only bs a w' :=
  ⟨hg.os.trans h.os, hg.tape.trans h.tape, hg.output.trans h.output, Nat.le_trans h.size hg.size,
    fun k hk hn => (hg.block k (Nat.lt_of_lt_of_le hk h.size) (fun e => by rcases hr k e.symm with h' | h'
                                                                           · exact hn h'
                                                                           · omega)).trans (h.block k hk hn)⟩

theorem only_drewN (bs : List Nat) (w : World) (n : Nat) : Only bs w (w.drewN n) := ⟨rfl, rfl, rfl, Nat.le_refl _, fun _ _ _ => rfl⟩

theorem only_set (w : World) (g i : Nat) (v : Value) : Only [g] w (w.setCell ⟨g, i, none⟩ v) := (Only.refl [g] w).setCell (by simp) v

/-- A segment: to whom, from where, how many. -/
structure Seg where
  m : Nat
  f : Nat
  s : Nat

def segCells : List Seg → List Value
  | [] => []
  | x :: r => .int .i64 x.m :: .int .i64 x.f :: .int .i64 x.s :: segCells r

theorem segCells_append (a b : List Seg) : segCells (a ++ b) = segCells a ++ segCells b := by
  induction a with
  | nil => rfl
  | cons x r ih => simp [segCells, ih]

theorem segCells_length (a : List Seg) : (segCells a).length = a.length * 3 := by
  induction a with
  | nil => rfl
  | cons x r ih => simp [segCells, ih]; omega

theorem segCells_get (a : List Seg) (k : Nat) (x : Seg) (h : a[k]? = some x) : (segCells a)[k * 3]? = some (.int .i64 x.m) ∧ (segCells a)[k * 3 + 1]? = some (.int .i64 x.f) ∧ (segCells a)[k * 3 + 2]? = some (.int .i64 x.s) := by
  induction a generalizing k with
  | nil => simp at h
  | cons y r ih =>
    cases k with
    | zero =>
      simp at h
      subst h
      simp [segCells]
    | succ k =>
      have h' := ih k (by simpa using h)
      have e : (k + 1) * 3 = k * 3 + 1 + 1 + 1 := by omega
      rw [e]
      simpa [segCells] using h'

theorem segCells_set (a : List Seg) (m f s : Nat) (n : Int) : (segCells a ++ [Value.int .i64 m, Value.int .i64 f, Value.int .i64 s]).set (a.length * 3 + 2) (Value.int .i64 n) = segCells a ++ [Value.int .i64 m, Value.int .i64 f, Value.int .i64 n] := by
  have h : a.length * 3 + 2 = (segCells a).length + 2 := by rw [segCells_length]
  rw [h]
  rw [List.set_append_right _ _ (by omega)]
  congr 1
  have : (segCells a).length + 2 - (segCells a).length = 2 := by omega
  rw [this]
  rfl

/-- One byte more is given to m. -/
def pushSeg (ss : List Seg) (m n : Nat) : List Seg :=
  match ss.getLast? with
  | some l => if l.m = m then ss.dropLast ++ [⟨l.m, l.f, l.s + 1⟩] else ss ++ [⟨m, n, 1⟩]
  | none => [⟨m, n, 1⟩]

theorem pushSeg_same (pre : List Seg) (f s m n : Nat) : pushSeg (pre ++ [⟨m, f, s⟩]) m n = pre ++ [⟨m, f, s + 1⟩] := by
  simp [pushSeg]

theorem pushSeg_other (pre : List Seg) (l : Seg) (m n : Nat) (h : l.m ≠ m) : pushSeg (pre ++ [l]) m n = pre ++ [l] ++ [⟨m, n, 1⟩] := by
  simp [pushSeg, h]

theorem pushSeg_nil (m n : Nat) : pushSeg [] m n = [⟨m, n, 1⟩] := rfl

/-- THE DEMUX: its struct is block D (type 48): the mode, how many bytes, the segments' slice v, which lies in blocks from base on. -/
structure Demuxed (w : World) (D base : Nat) (v : Value) (mode n : Nat) (ss : List Seg) : Prop where
  str : w.heap[D]? = some (.cells #[.int .i64 mode, .int .i64 n, v] 48 (0, 0))
  own : w.ownsRow base 31 3 v ss.length (segCells ss)
  lt : D < base
  le : base ≤ w.heap.size
  nle : n ≤ 1099511627776
  cnt : ss.length ≤ n
  fit : ∀ x, x ∈ ss → x.f + x.s ≤ n

theorem ownsRow_only {w w' : World} {base e size : Nat} {v : Value} {n : Nat} {xs : List Value} {bs : List Nat} (h : w.ownsRow base e size v n xs) (ho : Only bs w w') (hv : ∀ g, v.ownBlock = some g → g ∉ bs) : w'.ownsRow base e size v n xs := by
  refine ⟨h.1, ?_⟩
  rcases h.2 with hn | ⟨g, cap, cur, rfl, hb, hh, rest⟩
  · exact .inl hn
  · exact .inr ⟨g, cap, cur, rfl, hb, by rw [ho.block g (Array.getElem?_eq_some_iff.1 hh).1 (hv g rfl)]; exact hh, rest⟩

theorem Demuxed.of_only {w w' : World} {D base : Nat} {v : Value} {mode n : Nat} {ss : List Seg} {bs : List Nat} (h : Demuxed w D base v mode n ss) (ho : Only bs w w') (hD : D ∉ bs) (hv : ∀ g, v.ownBlock = some g → g ∉ bs) : Demuxed w' D base v mode n ss :=
  ⟨by rw [ho.block D (Array.getElem?_eq_some_iff.1 h.str).1 hD]; exact h.str, ownsRow_only h.own ho hv, h.lt, Nat.le_trans h.le ho.size, h.nle, h.cnt, h.fit⟩

theorem Demuxed.drew {w : World} {D base : Nat} {v : Value} {mode n : Nat} {ss : List Seg} (h : Demuxed w D base v mode n ss) : Demuxed w.drew D base v mode n ss :=
  h.of_only (Only.refl [] w).drew (by simp) (by simp)

theorem Only.drewN {bs : List Nat} {a w : World} (h : Only bs a w) (n : Nat) : Only bs a (w.drewN n) := h.trans (only_drewN bs w n)

theorem Demuxed.drewN {w : World} {D base : Nat} {v : Value} {mode n : Nat} {ss : List Seg} (h : Demuxed w D base v mode n ss) (k : Nat) : Demuxed (w.drewN k) D base v mode n ss :=
  h.of_only (only_drewN [] w k) (by simp) (by simp)

theorem Demuxed.alloc {w : World} {D base : Nat} {v : Value} {mode n : Nat} {ss : List Seg} (h : Demuxed w D base v mode n ss) (o : Obj) : Demuxed (w.alloc o) D base v mode n ss :=
  h.of_only ((Only.refl [] w).alloc o) (by simp) (by simp)

theorem Demuxed.setMode {w : World} {D base : Nat} {v : Value} {mode n : Nat} {ss : List Seg} (h : Demuxed w D base v mode n ss) (m : Nat) : Demuxed (w.setCell ⟨D, 0, none⟩ (.int .i64 m)) D base v m n ss := by
  refine ⟨?_, ownsRow_only h.own (only_set w D 0 _) (fun g hg => ?_), h.lt, by simpa using h.le, h.nle, h.cnt, h.fit⟩
  · rw [heap_set_same h.str]; simp
  · have := h.own.lt g hg
    have := h.lt
    simp; omega

theorem Demuxed.blk {w : World} {D base : Nat} {v : Value} {mode n : Nat} {ss : List Seg} (h : Demuxed w D base v mode n ss) : ∀ g, v.ownBlock = some g → base ≤ g ∧ g < w.heap.size := h.own.lt

theorem demuxed_new (w : World) (m : Nat) : Demuxed (w.alloc (.cells #[.int .i64 m, .int .i64 0, .slice none 0 0] 48)) w.heap.size (w.heap.size + 1) (.slice none 0 0) m 0 [] :=
  ⟨heap_alloc_new w _, World.ownsRow_nil _ _ _ _, by omega, by simp, by omega, by simp, by simp⟩

theorem Try.info31 : (Try.prog.info? 31).map (fun i => (i.zero, i.size, i.bytes)) = some (some (.agg #[.int .i64 0, .int .i64 0, .int .i64 0]), 3, 24) := by kernel_rfl
theorem Try.info5 : (Try.prog.info? 5).map (fun i => (i.zero, i.size, i.bytes)) = some (some (.int .u8 0), 1, 1) := by kernel_rfl

/-- Whose turn it becomes. -/
def fitM (m : Int) : Nat := if m = 1 then 1 else if m = 2 then 2 else 0

end Go.Proofs.Ytmikfnnaiojpiaa
