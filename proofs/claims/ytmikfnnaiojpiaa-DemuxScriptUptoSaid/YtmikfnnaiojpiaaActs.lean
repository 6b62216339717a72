/-
  Deeds that came in, in memory; one element appended to a row of the call's own, as one step of the walk; the state of a demux beside the row of all bytes.
-/
import Derived.Test.YtmikfnnaiojpiaaPure
import Derived.Maps.AppendAt
namespace Go.Proofs.Ytmikfnnaiojpiaa
open Go.RowKit

def allB (B : Nat → List UInt8) : Nat → List UInt8
  | 0 => []
  | k + 1 => allB B k ++ B k

theorem allB_le (B : Nat → List UInt8) {k n : Nat} (h : k ≤ n) : (allB B k).length ≤ (allB B n).length := by
  induction n with
  | zero => have : k = 0 := by omega
            subst this; exact Nat.le_refl _
  | succ n ih =>
    by_cases e : k = n + 1
    · subst e; exact Nat.le_refl _
    · have := ih (by omega)
      simp only [allB, List.length_append]; omega

structure ActsIn (w : World) (a1 : Option Addr) (len1 : Nat) (B : Nat → List UInt8) (A : Nat → Option Addr) (C : Nat → Nat) (K : Nat → Int) (Sw : Nat → Bool) : Prop where
  top : 0 < len1 → ∃ b off, a1 = some ⟨b, off, none⟩ ∧ b < w.heap.size ∧ ∀ r, r < len1 → w.cell? ⟨b, off + r * 3, none⟩ = some (.bool (Sw r)) ∧ w.cell? ⟨b, off + r * 3 + 1, none⟩ = some (.int .i8 (K r)) ∧ w.cell? ⟨b, off + r * 3 + 2, none⟩ = some (.slice (A r) (B r).length (C r))
  row : ∀ r, r < len1 → Bytes w (A r) (B r) ∧ (B r).length ≤ C r ∧ C r ≤ 9223372036854775807 ∧ (A r = none → C r = 0) ∧ (B r = [] ∨ ∀ ad, A r = some ad → ad.block < w.heap.size) ∧ -128 ≤ K r ∧ K r ≤ 127

theorem fitM_lt (m : Int) : fitM m < 3 := by unfold fitM; split <;> (try split) <;> omega

/-- One element behind the others. -/
theorem wpList_push (w : World) {ops : Array Oper} {rest : List Oper} {o : Oper} {a : Act} {Q : Exit → Act → World → Prop}
    (hg : o.guard = none) (s x : Operand) (t e : TypeId) (hop : o.op = Op.call { callee := Callee.builtin Builtin.append, args := #[s, x], argTypes := #[t, t] })
    (i : TypeInfo) (z : Value) (bytes : Nat) (ht : Try.prog.underlying t = some (.slice e)) (hi : Try.prog.info? e = some i) (hz : i.zero = some z) (hsz : i.size = 1) (hby : i.bytes = bytes) (hzs : z.cells.size = 1)
    (base : Nat) (v : Value) (n : Nat) (xs : List Value) (hs : a.eval s = v) (hown : w.ownsRow base e 1 v n xs) (g : Nat) (u : Value) (hx : a.eval x = .slice (some ⟨g, 0, none⟩) 1 1) (hc : w.cell? ⟨g, 0, none⟩ = some u) (h1 : u.oneCell' = true)
    (hn : n + 1 ≤ maxLen) (hl : (n + 1) * bytes ≤ 140737488355328) (hbase : base ≤ w.heap.size)
    (hK : ∀ v' w', w'.ownsRow base e 1 v' (n + 1) (xs ++ [u]) → w.grownBy w' v.ownBlock → (∀ g', v'.ownBlock = some g' → v.ownBlock = some g' ∨ w.heap.size ≤ g') → wpList Try.prog ops Q rest (a.put o.dst v') w') :
    wpList Try.prog ops Q (o :: rest) a w := by
  refine wpList_plain hg fun K hK' => ?_
  obtain ⟨v', w', hrun, r1, r2, _, r4⟩ := run_append_own_at (P := Try.prog) w base t o.type e i z 1 bytes ht hi hz hsz hby hzs (by decide) v n xs hown ⟨g, 0, none⟩ 1 1 [u] rfl (by
    intro j u' hj
    match j, hj with
    | 0, hj =>
      simp at hj
      subst hj
      simpa [Addr.add] using hc) (by intro u' hu'; simp at hu'; subst hu'; exact h1) hn hl hbase
  unfold Oper.wp
  simp [execOp, hop, resolve, invoke, builtin, hs, hx, hrun, Result.andThen]
  refine hK' _ _ (hK v' w' r1 r2 (fun g' e' => ?_))
  rcases r4 with r4 | r4
  · left; rw [← r4]; exact e'
  · right; rw [r4] at e'; cases e'; exact Nat.le_refl _

/-- THE STATE: the demux, the segments that it should have, and the row of all bytes beside it. -/
structure St (wa : World) (F : List UInt8) (tt : List Nat) (mode : Nat) (sA : Value) (v : Value) (ss : List Seg) (wr : World) : Prop where
  dem : Demuxed wr wa.heap.size (wa.heap.size + 1) v mode F.length ss
  inv : SegInv ss tt
  len : tt.length = F.length
  three : ∀ m, m ∈ tt → m < 3
  mode3 : mode < 3
  all : wr.ownsRow (wa.heap.size + 1) 5 1 sA F.length (F.map byteV)
  sep : ∀ g, sA.ownBlock = some g → v.ownBlock ≠ some g
  bel : Below wa.heap.size wa wr

theorem St.switch {wa wr w' : World} {F : List UInt8} {tt : List Nat} {mode : Nat} {sA v : Value} {ss : List Seg} (h : St wa F tt mode sA v ss wr) {m : Nat} (hd : Demuxed w' wa.heap.size (wa.heap.size + 1) v m F.length ss) (ho : Only [wa.heap.size] wr w') (hm : m < 3) : St wa F tt m sA v ss w' :=
  ⟨hd, h.inv, h.len, h.three, hm, ownsRow_only h.all ho (fun g e => by have := h.all.lt g e; simp; omega), h.sep, h.bel.trans (h.dem.below1 ho (Nat.le_refl _))⟩

theorem St.alloc {wa wr : World} {F : List UInt8} {tt : List Nat} {mode : Nat} {sA v : Value} {ss : List Seg} (h : St wa F tt mode sA v ss wr) (o : Obj) : St wa F tt mode sA v ss (wr.alloc o) :=
  ⟨h.dem.alloc o, h.inv, h.len, h.three, h.mode3, h.all.alloc o, h.sep, h.bel.alloc h.bel.size o⟩

theorem St.kept {wa wr w' : World} {F : List UInt8} {tt : List Nat} {mode : Nat} {sA v : Value} {ss : List Seg} (h : St wa F tt mode sA v ss wr) (ho : Only (wa.heap.size :: v.ownBlock.toList) wr w') : w'.ownsRow (wa.heap.size + 1) 5 1 sA F.length (F.map byteV) := by
  refine ownsRow_only h.all ho (fun g e hx => ?_)
  have := h.all.lt g e
  rcases List.mem_cons.1 hx with h' | h'
  · omega
  · exact h.sep g e (by simpa using h')

/-- A byte is given, and laid behind all. -/
theorem St.put {wa wr w' w2 : World} {F : List UInt8} {tt : List Nat} {mode : Nat} {sA v v' sA' : Value} {ss : List Seg} (h : St wa F tt mode sA v ss wr) (c : UInt8)
    (hd : Demuxed w' wa.heap.size (wa.heap.size + 1) v' mode (F.length + 1) (pushSeg ss mode F.length)) (ho : Only (wa.heap.size :: v.ownBlock.toList) wr w') (hv : ∀ g, v'.ownBlock = some g → v.ownBlock = some g ∨ wr.heap.size ≤ g)
    {o : Obj} (hown : w2.ownsRow (wa.heap.size + 1) 5 1 sA' (F.length + 1) (F.map byteV ++ [byteV c])) (hg : (w'.alloc o).grownBy w2 sA.ownBlock) (hs : ∀ g, sA'.ownBlock = some g → sA.ownBlock = some g ∨ w'.heap.size + 1 ≤ g) :
    St wa (F ++ [c]) (tt ++ [mode]) mode sA' v' (pushSeg ss mode F.length) w2 := by
  have hlt := h.all.lt
  have hda : Demuxed w2 wa.heap.size (wa.heap.size + 1) v' mode (F.length + 1) (pushSeg ss mode F.length) := by
    have hd2 := hd.alloc o
    have hob : Only sA.ownBlock.toList (w'.alloc o) w2 := ⟨hg.os, hg.tape, hg.output, hg.size, fun k hk hn => hg.block k hk (fun e => hn (by rw [← e]; simp))⟩
    refine hd2.of_only hob ?_ ?_
    · intro hx
      have := hlt wa.heap.size (by simpa using hx)
      omega
    · intro g hg' hx
      have hx' : sA.ownBlock = some g := by simpa using hx
      rcases hv g hg' with e | e
      · exact h.sep g hx' e
      · have := hlt g hx'; omega
  refine ⟨by simpa using hda, ?_, by simp [h.len], ?_, h.mode3, by simpa using hown, ?_, ?_⟩
  · have := h.inv.push mode
    rw [h.len] at this
    exact this
  · intro m hm
    rcases List.mem_append.1 hm with e | e
    · exact h.three m e
    · simp at e; subst e; exact h.mode3
  · intro g hg' hx
    rcases hs g hg' with e | e
    · rcases hv g hx with e2 | e2
      · exact h.sep g e e2
      · have := hlt g e; omega
    · have := hd.blk g hx
      omega
  · have b1 := h.dem.below ho (Nat.le_refl _)
    have b2 : Below wa.heap.size wa w' := h.bel.trans b1
    refine (b2.alloc b2.size o).trans ?_
    exact (Below.refl _ _).grown hg (by have := b2.size; simp; omega) (fun k e => by have := hlt k e; omega)

end Go.Proofs.Ytmikfnnaiojpiaa
