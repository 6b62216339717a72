/-
  The state of DemuxScript: beside the demux and the row of all bytes, the row of whose turn it was; the contract of its function literal.
-/
import Derived.Test.YtmikfnnaiojpiaaActs
namespace Go.Proofs.Ytmikfnnaiojpiaa
open Go.RowKit

theorem Try.info23 : (Try.prog.info? 23).map (fun i => (i.zero, i.size, i.bytes)) = some (some (.int .i64 0), 1, 8) := by kernel_rfl
theorem Try.under46 : Try.prog.underlying 46 = some (.slice 23) := by kernel_rfl

def modeV (m : Nat) : Value := .int .i64 m

structure Sc (wa : World) (F : List UInt8) (tt : List Nat) (mode : Nat) (sA sT : Value) (v : Value) (ss : List Seg) (wr : World) : Prop where
  st : St wa F tt mode sA v ss wr
  two : wr.ownsRow (wa.heap.size + 1) 23 1 sT F.length (tt.map modeV)
  sepV : ∀ g, sT.ownBlock = some g → v.ownBlock ≠ some g
  sepA : ∀ g, sT.ownBlock = some g → sA.ownBlock ≠ some g

theorem Sc.switch {wa wr w' : World} {F : List UInt8} {tt : List Nat} {mode : Nat} {sA sT v : Value} {ss : List Seg} (h : Sc wa F tt mode sA sT v ss wr) {m : Nat} (hd : Demuxed w' wa.heap.size (wa.heap.size + 1) v m F.length ss) (ho : Only [wa.heap.size] wr w') (hm : m < 3) : Sc wa F tt m sA sT v ss w' :=
  ⟨h.st.switch hd ho hm, ownsRow_only h.two ho (fun g e => by have := h.two.lt g e; simp; omega), h.sepV, h.sepA⟩

theorem Sc.alloc {wa wr : World} {F : List UInt8} {tt : List Nat} {mode : Nat} {sA sT v : Value} {ss : List Seg} (h : Sc wa F tt mode sA sT v ss wr) (o : Obj) : Sc wa F tt mode sA sT v ss (wr.alloc o) :=
  ⟨h.st.alloc o, h.two.alloc o, h.sepV, h.sepA⟩

theorem only_grown {w w' : World} {v : Value} (hg : w.grownBy w' v.ownBlock) : Only v.ownBlock.toList w w' :=
  ⟨hg.os, hg.tape, hg.output, hg.size, fun k hk hn => hg.block k hk (fun e => hn (by rw [← e]; simp))⟩

/-- The turns' row lies as it lay, where a byte was given and laid behind all. -/
theorem Sc.kept {wa wr w' w2 : World} {F : List UInt8} {tt : List Nat} {mode : Nat} {sA sT v : Value} {ss : List Seg} (h : Sc wa F tt mode sA sT v ss wr) (ho : Only (wa.heap.size :: v.ownBlock.toList) wr w')
    {o : Obj} (hg : (w'.alloc o).grownBy w2 sA.ownBlock) : w2.ownsRow (wa.heap.size + 1) 23 1 sT F.length (tt.map modeV) := by
  have h1 : w'.ownsRow (wa.heap.size + 1) 23 1 sT F.length (tt.map modeV) := by
    refine ownsRow_only h.two ho (fun g e hx => ?_)
    have := h.two.lt g e
    rcases List.mem_cons.1 hx with h' | h'
    · omega
    · exact h.sepV g e (by simpa using h')
  exact ownsRow_only (h1.alloc o) (only_grown hg) (fun g e hx => h.sepA g e (by simpa using hx))

/-- A byte is given, laid behind all, and its turn behind the turns. -/
theorem Sc.put {wa wr w' w2 w3 : World} {F : List UInt8} {tt : List Nat} {mode : Nat} {sA sT v v' sA' sT' : Value} {ss : List Seg} (h : Sc wa F tt mode sA sT v ss wr) (c : UInt8)
    (hd : Demuxed w' wa.heap.size (wa.heap.size + 1) v' mode (F.length + 1) (pushSeg ss mode F.length)) (ho : Only (wa.heap.size :: v.ownBlock.toList) wr w') (hv : ∀ g, v'.ownBlock = some g → v.ownBlock = some g ∨ wr.heap.size ≤ g)
    {o o2 : Obj} (hown : w2.ownsRow (wa.heap.size + 1) 5 1 sA' (F.length + 1) (F.map byteV ++ [byteV c])) (hg : (w'.alloc o).grownBy w2 sA.ownBlock) (hs : ∀ g, sA'.ownBlock = some g → sA.ownBlock = some g ∨ w'.heap.size + 1 ≤ g)
    (hown2 : w3.ownsRow (wa.heap.size + 1) 23 1 sT' (F.length + 1) (tt.map modeV ++ [modeV mode])) (hg2 : (w2.alloc o2).grownBy w3 sT.ownBlock) (hs2 : ∀ g, sT'.ownBlock = some g → sT.ownBlock = some g ∨ w2.heap.size + 1 ≤ g) :
    Sc wa (F ++ [c]) (tt ++ [mode]) mode sA' sT' v' (pushSeg ss mode F.length) w3 := by
  have hst := h.st.put c hd ho hv hown hg hs
  have hltT := h.two.lt
  have hltA' := hown.lt
  have hltV' := hd.blk
  have hsz1 := ho.size
  have hsz2 : w'.heap.size + 1 ≤ w2.heap.size := by have := hg.size; simpa using this
  have hle := h.st.dem.le
  have nv : ∀ g, sT.ownBlock = some g → v'.ownBlock ≠ some g := by
    intro g e hx
    rcases hv g hx with e2 | e2
    · exact h.sepV g e e2
    · have := hltT g e; omega
  have na : ∀ g, sT.ownBlock = some g → sA'.ownBlock ≠ some g := by
    intro g e hx
    rcases hs g hx with e2 | e2
    · exact h.sepA g e e2
    · have := hltT g e; omega
  have hob := only_grown hg2
  have hst2 := hst.alloc o2
  refine ⟨⟨?_, hst2.inv, hst2.len, hst2.three, hst2.mode3, ?_, hst2.sep, ?_⟩, by simpa using hown2, ?_, ?_⟩
  · refine hst2.dem.of_only hob ?_ ?_
    · intro hx
      have := hltT wa.heap.size (by simpa using hx)
      omega
    · intro g e hx
      exact nv g (by simpa using hx) e
  · exact ownsRow_only hst2.all hob (fun g e hx => na g (by simpa using hx) e)
  · exact hst2.bel.trans ((Below.refl _ _).grown hg2 (by have := hst2.bel.size; exact this) (fun k e => by have := hltT k e; omega))
  · intro g e hx
    rcases hs2 g e with e2 | e2
    · exact nv g e2 hx
    · have := hltV' g hx; omega
  · intro g e hx
    rcases hs2 g e with e2 | e2
    · exact na g e2 hx
    · have := hltA' g hx; omega

/-- An element of a row of one-cell elements. -/
theorem row_at {w : World} {base e n c : Nat} {a : Option Addr} {xs : List Value} (h : w.ownsRow base e 1 (.slice a n c) n xs) (j : Nat) (u : Value) (hu : xs[j]? = some u) :
    ∃ g, a = some ⟨g, 0, none⟩ ∧ g < w.heap.size ∧ n ≤ c ∧ w.cell? ⟨g, j, none⟩ = some u := by
  have hj : j < n := by
    have h1 := (List.getElem?_eq_some_iff.1 hu).1
    have h2 := h.1
    omega
  rcases h.2 with ⟨_, h0⟩ | ⟨g, cap, cur, hv, hg, hh, hle, hm, _⟩
  · omega
  · simp only [Value.slice.injEq, true_and] at hv
    obtain ⟨rfl, rfl⟩ := hv
    exact ⟨g, rfl, (Array.getElem?_eq_some_iff.1 hh).1, hle, (h.cellAt j (by omega)).trans hu⟩

theorem sel_step (tt : List Nat) (F : List UInt8) (j t : Nat) (c : UInt8) (M : Nat) (h : F.length = tt.length) (ht : tt[j]? = some t) (hc : F[j]? = some c) :
    selB (tt.take (j + 1)) (F.take (j + 1)) M = selB (tt.take j) (F.take j) M ++ (if t = M then [c] else []) := by
  obtain ⟨h1, rfl⟩ := List.getElem?_eq_some_iff.1 ht
  obtain ⟨h2, rfl⟩ := List.getElem?_eq_some_iff.1 hc
  rw [List.take_succ_eq_append_getElem h1, List.take_succ_eq_append_getElem h2, selB_snoc _ _ _ _ _ (by simp; omega)]

theorem str_len (l : List UInt8) : (⟨l.toArray⟩ : ByteArray).size = l.length := rfl

/-- The facts of one segment. -/
theorem SegInv.at {ss : List Seg} {tt : List Nat} (h : SegInv ss tt) (k : Nat) (x : Seg) (hx : ss[k]? = some x) : x.f = sumS (ss.take k) ∧ 1 ≤ x.s ∧ sumS (ss.take (k + 1)) = x.f + x.s ∧ x.f + x.s ≤ tt.length ∧ ∀ i, i < x.s → tt[x.f + i]? = some x.m := by
  obtain ⟨h1, h2⟩ := h.starts k x hx
  have hm := List.mem_of_getElem? hx
  refine ⟨h1, h2, ?_, h.fit x hm, h.modes x hm⟩
  rw [take_snocS ss k x hx, sumS_append, h1]; simp [sumS]

set_option maxHeartbeats 400000 in
theorem fit_any (m : Int) (w : World) (hl : -128 ≤ m) (hu : m ≤ 127) : Calls Try.prog 17 #[.int .i8 m] w fun e w' => e = .returned (.int .i64 (fitM m)) ∧ w = w' := by
  unfold fitM
  by_cases h1 : m = 1
  · subst h1
    rw [if_pos rfl]
    go_enter Try.func17, Try.ntmps17
    go_wp2
    go_ret
    exact ⟨rfl, rfl⟩
  · rw [if_neg h1]
    by_cases h2 : m = 2
    · subst h2
      rw [if_pos rfl]
      go_enter Try.func17, Try.ntmps17
      go_wp2
      go_ret
      exact ⟨rfl, rfl⟩
    · rw [if_neg h2]
      have e1 : (m == 1) = false := by simpa using h1
      have e2 : (m == 2) = false := by simpa using h2
      go_enter Try.func17, Try.ntmps17
      go_wp2
      go_ret
      exact ⟨rfl, rfl⟩

end Go.Proofs.Ytmikfnnaiojpiaa
