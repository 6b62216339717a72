/-
  append of bytes onto bytes that the call owns, as one step of the walk; helpers over Only, ownsRow.
-/
import Derived.Test.YtfnglidobljlgaaAwake
namespace Go.Proofs.Ytfnglidobljlgaa
open Go.RowKit

theorem bytes_news {w : World} {ad : Addr} {bs : List UInt8} (h : Bytes w (some ad) bs) : ∀ j u, (bs.map byteV)[j]? = some u → w.cell? (ad.add j) = some u := by
  intro j u hu
  have hj : j < bs.length := by
    have := (List.getElem?_eq_some_iff.1 hu).1
    simpa using this
  rw [h.cell ad rfl j hj]
  rw [List.getElem?_map, List.getElem?_eq_getElem hj] at hu
  simp only [Option.map_some, Option.some.injEq] at hu
  rw [← hu]
  simp [List.getD, hj]

theorem byteV_one (bs : List UInt8) : ∀ u ∈ bs.map byteV, u.oneCell' = true := by
  intro u hu
  obtain ⟨_, _, rfl⟩ := List.mem_map.1 hu
  rfl

theorem run_app (w : World) (base : Nat) (ty : TypeId) (v : Value) (n : Nat) (xs : List UInt8) (hown : w.ownsRow base 5 1 v n (xs.map byteV)) (a : Option Addr) (m c : Nat) (bs : List UInt8) (hb : Bytes w a bs) (hm : bs.length = m) (hn : a = none → c = 0)
    (hl : n + m ≤ 140737488355328) (hbase : base ≤ w.heap.size) :
    ∃ v' w', (Builtin.append_ #[26, 26] ty #[v, .slice a m c]).run Try.prog w = .ok v' w' ∧ w'.ownsRow base 5 1 v' (n + m) ((xs ++ bs).map byteV) ∧ w.grownBy w' v.ownBlock := by
  obtain ⟨i0, hi, hz0, hz1, hz2⟩ := info_parts Try.info5
  cases a with
  | none =>
    obtain rfl := hn rfl
    obtain rfl := hb.nil rfl
    simp only [List.length_nil] at hm
    subst hm
    refine ⟨v, w, run_append_owned_none (P := Try.prog) w base 26 ty 5 i0 1 Try.underlying26 hi v n _ hown, ?_, World.grownBy.refl _ _⟩
    simpa using hown
  | some ad =>
    obtain ⟨v', w', hr, h1, h2, _⟩ := run_append_own (P := Try.prog) w base 26 ty 5 i0 (.int .u8 0) 1 1 Try.underlying26 hi hz0 hz1 hz2 rfl (by decide) v n _ hown ad m c (bs.map byteV) (by simp [hm]) (bytes_news hb) (byteV_one bs)
      (by unfold maxLen; omega) (by omega) hbase
    exact ⟨v', w', hr, by rw [List.map_append]; exact h1, h2⟩

theorem wpList_app (w : World) {ops : Array Oper} {rest : List Oper} {o : Oper} {a : Act} {Q : Exit → Act → World → Prop}
    (hg : o.guard = none) (s x : Operand) (hop : o.op = Op.call { callee := Callee.builtin Builtin.append, args := #[s, x], argTypes := #[26, 26] })
    (base : Nat) (v : Value) (n : Nat) (xs : List UInt8) (hs : a.eval s = v) (hown : w.ownsRow base 5 1 v n (xs.map byteV)) (ao : Option Addr) (m c : Nat) (bs : List UInt8) (hx : a.eval x = .slice ao m c) (hb : Bytes w ao bs) (hm : bs.length = m) (hn : ao = none → c = 0)
    (zs : List UInt8) (hz : xs ++ bs = zs) (N : Nat) (hN : n + m = N) (hl : N ≤ 140737488355328) (hbase : base ≤ w.heap.size)
    (hK : ∀ v' w', w'.ownsRow base 5 1 v' N (zs.map byteV) → w.grownBy w' v.ownBlock → wpList Try.prog ops Q rest (a.put o.dst v') w') :
    wpList Try.prog ops Q (o :: rest) a w := by
  subst hz
  subst hN
  refine wpList_plain hg fun K hK' => ?_
  obtain ⟨v', w', hrun, r1, r2⟩ := run_app w base o.type v n xs hown ao m c bs hb hm hn hl hbase
  unfold Oper.wp
  simp [execOp, hop, resolve, invoke, builtin, hs, hx, hrun, Result.andThen]
  exact hK' _ _ (hK v' w' r1 r2)

theorem owns_some {w : World} {base : Nat} {v : Value} {n : Nat} {xs : List Value} (h : w.ownsRow base 5 1 v n xs) (hn : 0 < n) : ∃ g c, v = .slice (some ⟨g, 0, none⟩) n c ∧ base ≤ g ∧ g < w.heap.size ∧ n ≤ c ∧ c ≤ maxLen := by
  rcases h.2 with ⟨_, h0⟩ | ⟨g, c, cur, hv, hg, hh, hle, hm, _⟩
  · omega
  · exact ⟨g, c, hv, hg, (Array.getElem?_eq_some_iff.1 hh).1, hle, hm⟩

theorem wpList_appS (w : World) {ops : Array Oper} {rest : List Oper} {o : Oper} {a : Act} {Q : Exit → Act → World → Prop}
    (hg : o.guard = none) (s x : Operand) (hop : o.op = Op.call { callee := Callee.builtin Builtin.append, args := #[s, x], argTypes := #[26, 26] })
    (base : Nat) (v : Value) (n : Nat) (xs : List UInt8) (hs : a.eval s = v) (hown : w.ownsRow base 5 1 v n (xs.map byteV)) (ao : Option Addr) (m c : Nat) (bs : List UInt8) (hx : a.eval x = .slice ao m c) (hb : Bytes w ao bs) (hm : bs.length = m) (hn : ao = none → c = 0)
    (zs : List UInt8) (hz : xs ++ bs = zs) (N : Nat) (hN : n + m = N) (hl : N ≤ 140737488355328) (hbase : base ≤ w.heap.size) (hpos : 0 < N)
    (hK : ∀ g cp w', w'.ownsRow base 5 1 (.slice (some ⟨g, 0, none⟩) N cp) N (zs.map byteV) → w.grownBy w' v.ownBlock → base ≤ g → g < w'.heap.size → N ≤ cp → cp ≤ 9223372036854775807 → wpList Try.prog ops Q rest (a.put o.dst (.slice (some ⟨g, 0, none⟩) N cp)) w') :
    wpList Try.prog ops Q (o :: rest) a w := by
  refine wpList_app w hg s x hop base v n xs hs hown ao m c bs hx hb hm hn zs hz N hN hl hbase ?_
  intro v' w' h1 h2
  obtain ⟨g, cp, rfl, e1, e2, e3, e4⟩ := owns_some h1 hpos
  exact hK g cp w' h1 h2 e1 e2 e3 (by simpa [maxLen] using e4)

theorem bytes1 (w : World) (x : UInt8) (a : Int) (hx : (x.toNat : Int) = a) : Bytes (w.alloc (.cells #[.int .u8 a] 5)) (some ⟨w.heap.size, 0, none⟩) [x] := by
  subst hx
  exact Bytes.of_block (heap_alloc_new w _) (by
    intro i hi
    match i, hi with
    | 0, _ => rfl)

theorem owns_only {w w' : World} {base g n c : Nat} {xs : List Value} {bs : List Nat} (h : w.ownsRow base 5 1 (.slice (some ⟨g, 0, none⟩) n c) n xs) (ho : Only bs w w') (hg : g ∉ bs) : w'.ownsRow base 5 1 (.slice (some ⟨g, 0, none⟩) n c) n xs := by
  refine ⟨h.1, ?_⟩
  rcases h.2 with ⟨hv, _⟩ | ⟨g', c', cur, hv, hb, hh, rest⟩
  · simp at hv
  · have e : g = g' := by simpa using (by simpa using hv : g = g' ∧ c = c').1
    subst e
    exact .inr ⟨g, c', cur, hv, hb, by rw [ho.block g (Array.getElem?_eq_some_iff.1 hh).1 hg]; exact hh, rest⟩

theorem only_grown (w w' : World) {row : Option Nat} (hg : w.grownBy w' row) {bs : List Nat} (hr : ∀ k, row = some k → k ∈ bs) : Only bs w w' :=
  ⟨hg.os, hg.tape, hg.output, hg.size, fun k hk hn => hg.block k hk (fun e => hn (hr k e.symm))⟩

theorem only_set (w : World) (g i : Nat) (v : Value) : Only [g] w (w.setCell ⟨g, i, none⟩ v) := (Only.refl [g] w).setCell (by simp) v

theorem Bytes.drew {w : World} {a : Option Addr} {bs : List UInt8} (h : Bytes w a bs) : Bytes w.drew a bs := ⟨h.nil, h.cell⟩

/-- What is taken, as a slice of bytes. -/
theorem take_bytes (R S cap at_ : Nat) (q : List UInt8) (lost : Int) (n : Int) (F : Nat) (w : World) (h : Ringed w R S cap at_ q lost)
    (hF : (F = 0 ∧ n ≤ 0) ∨ (n = F ∧ F ≤ q.length) ∨ (F = q.length ∧ (q.length : Int) < n)) (q1 q2 : List UInt8) (h1 : q1 = q.take F) (h2 : q2 = q.drop F) :
    Calls Try.prog 12 #[.pointer (some ⟨S, 0, none⟩), .int .i64 n] w fun e w' =>
      ∃ a c, e = .returned (.slice a F c) ∧ Bytes w' a q1 ∧ q1.length = F ∧ (∀ ad, a = some ad → w.heap.size ≤ ad.block) ∧ Ringed w' R S cap ((at_ + F) % cap) q2 lost ∧ Only [R, S] w w' :=
  (take_any R S cap at_ q lost n F w h hF).mono fun e w' ⟨v, he, hown, hr, ho⟩ => by
    obtain ⟨a, c, rfl⟩ := owns_form hown
    subst h1
    subst h2
    have hb := Bytes.of_owns hown
    exact ⟨a, c, he, hb.1, hb.2.1, hb.2.2.2.2.1, hr, ho⟩

/-- IN TWO PARTS AS MUCH HAS ROOM AS AT ONCE. -/
theorem parts_pure (bs : List UInt8) (k C : Nat) (hk : k ≤ bs.length) :
    min k C + min (bs.length - k) (C - ((bs.take k).take (min k C)).length) = min bs.length C ∧
    (bs.take k).take (min k C) ++ (bs.drop k).take (min (bs.length - k) (C - ((bs.take k).take (min k C)).length)) = bs.take (min bs.length C) := by
  have hl : ((bs.take k).take (min k C)).length = min k C := by simp; omega
  rw [hl]
  constructor
  · omega
  · by_cases h : k ≤ C
    · have e1 : min k C = k := by omega
      rw [e1, List.take_take, Nat.min_self]
      have e2 : min bs.length C = k + min (bs.length - k) (C - k) := by omega
      rw [e2, List.take_add]
    · have e1 : min k C = C := by omega
      have e2 : min (bs.length - k) (C - min k C) = 0 := by omega
      have e3 : min bs.length C = C := by omega
      rw [e2, e1, e3, List.take_zero, List.append_nil, List.take_take]
      congr 1; omega

end Go.Proofs.Ytfnglidobljlgaa
