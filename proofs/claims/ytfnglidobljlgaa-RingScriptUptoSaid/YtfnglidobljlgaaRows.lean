/-
  No cell of these rows narrows 'for every input' (looked for: loops, veiled, ifaces, maps, wideKeys, modest, calm, conditions, laid).
  DERIVED. THE GIVEN ROWS OF THIS SEAT. 6 by the template 'for every input the law returns true; each argument reads behind the call as it read before'; 0 by the template 'total and deterministic' (their statements: YtfnglidobljlgaaTotals.lean).
  GIVEN WITH THE SEED: the statements are not yours to turn. If you find one false, say at which input.
  Laid BY PROGRAM, IN A SANDBOX (cutbox-rows.mjs): the forced cells as the released guide's own fill.sh prints them over the translation 79b8341a03212896… (all of the seat's roots in one cut). By AI agents, Wed Nov 11 2026. No macro, syntax, notation, axiom, sorry.
-/
import Derived.Test.YtfnglidobljlgaaChecked
import GoSem.Claim
import GoSem.ClaimJoined
import GoSem.ClaimMapViews
import Derived.JoinedTies
import Derived.KernelRfl
namespace Go.Proofs.Ytfnglidobljlgaa
/- THE CELL 'sum', in the pinned program and in every row, IS THE sha256 OF THE DUMP (.gsa) THAT YtfnglidobljlgaaProg.lean LOADS. Nothing in Lean hashes anything: it is a label: what it is worth is what the hold of that sum in a sandbox is worth. -/
noncomputable def Try.pinned : Pinned := { name := "ytfnglidobljlgaa", sum := "79b8341a032128962ff65bb64971c611412ba79c26c55e66008bd83e3ebaf34e", checked := Try.checked }
namespace Rows
def none {H : Type} : Left H := { results := [], args := [] }

/-- 'lifelinelaw02.RingAll': WHATEVER THE INPUT: true; the input reads as it did. -/
def ringAllSpec : ChangeSpec := { name := "ringAll", fn := fun _ => fun
  | [d1, d2] => { results := [.lit (.bool true)], args := [d1, d2] }
  | _ => none }
def ringAllRow : OpenClaim := { program := "ytfnglidobljlgaa", sum := "79b8341a032128962ff65bb64971c611412ba79c26c55e66008bd83e3ebaf34e", func := "lifeline/lifelinelaw02.RingAll", spec := "ringAll", apart := false }
def RingAllSaid : Prop := ringAllRow.holds Try.pinned (OpenSpec.ofChange ringAllSpec)

/-- ITS FALSE NEIGHBOUR: 'it returns false'. Refute it at one input. -/
def ringAllWrong : ChangeSpec := { name := "ringAll", fn := fun _ => fun
  | [d1, d2] => { results := [.lit (.bool false)], args := [d1, d2] }
  | _ => none }
def RingAllWrongFalsely : Prop := ringAllRow.holds Try.pinned (OpenSpec.ofChange ringAllWrong)

/-- 'lifelinelaw02.RingParts': WHATEVER THE INPUT: true; the input reads as it did. -/
def ringPartsSpec : ChangeSpec := { name := "ringParts", fn := fun _ => fun
  | [d1, d2, d3] => { results := [.lit (.bool true)], args := [d1, d2, d3] }
  | _ => none }
def ringPartsRow : OpenClaim := { program := "ytfnglidobljlgaa", sum := "79b8341a032128962ff65bb64971c611412ba79c26c55e66008bd83e3ebaf34e", func := "lifeline/lifelinelaw02.RingParts", spec := "ringParts", apart := false }
def RingPartsSaid : Prop := ringPartsRow.holds Try.pinned (OpenSpec.ofChange ringPartsSpec)

/-- ITS FALSE NEIGHBOUR: 'it returns false'. Refute it at one input. -/
def ringPartsWrong : ChangeSpec := { name := "ringParts", fn := fun _ => fun
  | [d1, d2, d3] => { results := [.lit (.bool false)], args := [d1, d2, d3] }
  | _ => none }
def RingPartsWrongFalsely : Prop := ringPartsRow.holds Try.pinned (OpenSpec.ofChange ringPartsWrong)

/-- 'lifelinelaw02.RingRound': WHATEVER THE INPUT: true; the input reads as it did. -/
def ringRoundSpec : ChangeSpec := { name := "ringRound", fn := fun _ => fun
  | [d1, d2] => { results := [.lit (.bool true)], args := [d1, d2] }
  | _ => none }
def ringRoundRow : OpenClaim := { program := "ytfnglidobljlgaa", sum := "79b8341a032128962ff65bb64971c611412ba79c26c55e66008bd83e3ebaf34e", func := "lifeline/lifelinelaw02.RingRound", spec := "ringRound", apart := false }
def RingRoundSaid : Prop := ringRoundRow.holds Try.pinned (OpenSpec.ofChange ringRoundSpec)

/-- ITS FALSE NEIGHBOUR: 'it returns false'. Refute it at one input. -/
def ringRoundWrong : ChangeSpec := { name := "ringRound", fn := fun _ => fun
  | [d1, d2] => { results := [.lit (.bool false)], args := [d1, d2] }
  | _ => none }
def RingRoundWrongFalsely : Prop := ringRoundRow.holds Try.pinned (OpenSpec.ofChange ringRoundWrong)

/-- 'lifelinelaw02.RingOwn': WHATEVER THE INPUT: true; the input reads as it did. -/
def ringOwnSpec : ChangeSpec := { name := "ringOwn", fn := fun _ => fun
  | [d1, d2] => { results := [.lit (.bool true)], args := [d1, d2] }
  | _ => none }
def ringOwnRow : OpenClaim := { program := "ytfnglidobljlgaa", sum := "79b8341a032128962ff65bb64971c611412ba79c26c55e66008bd83e3ebaf34e", func := "lifeline/lifelinelaw02.RingOwn", spec := "ringOwn", apart := false }
def RingOwnSaid : Prop := ringOwnRow.holds Try.pinned (OpenSpec.ofChange ringOwnSpec)

/-- ITS FALSE NEIGHBOUR: 'it returns false'. Refute it at one input. -/
def ringOwnWrong : ChangeSpec := { name := "ringOwn", fn := fun _ => fun
  | [d1, d2] => { results := [.lit (.bool false)], args := [d1, d2] }
  | _ => none }
def RingOwnWrongFalsely : Prop := ringOwnRow.holds Try.pinned (OpenSpec.ofChange ringOwnWrong)

/-- 'lifelinelaw02.RingScript': WHATEVER THE INPUT: true; the input reads as it did. -/
def ringScriptSpec : ChangeSpec := { name := "ringScript", fn := fun _ => fun
  | [d1, d2] => { results := [.lit (.bool true)], args := [d1, d2] }
  | _ => none }
def ringScriptRow : OpenClaim := { program := "ytfnglidobljlgaa", sum := "79b8341a032128962ff65bb64971c611412ba79c26c55e66008bd83e3ebaf34e", func := "lifeline/lifelinelaw02.RingScript", spec := "ringScript", apart := false }
def RingScriptSaid : Prop := ringScriptRow.holds Try.pinned (OpenSpec.ofChange ringScriptSpec)

/-- ITS FALSE NEIGHBOUR: 'it returns false'. Refute it at one input. -/
def ringScriptWrong : ChangeSpec := { name := "ringScript", fn := fun _ => fun
  | [d1, d2] => { results := [.lit (.bool false)], args := [d1, d2] }
  | _ => none }
def RingScriptWrongFalsely : Prop := ringScriptRow.holds Try.pinned (OpenSpec.ofChange ringScriptWrong)

/-- 'lifelinelaw02.RingRoom': WHATEVER THE INPUT: true; the input reads as it did. -/
def ringRoomSpec : ChangeSpec := { name := "ringRoom", fn := fun _ => fun
  | [d] => { results := [.lit (.bool true)], args := [d] }
  | _ => none }
def ringRoomRow : OpenClaim := { program := "ytfnglidobljlgaa", sum := "79b8341a032128962ff65bb64971c611412ba79c26c55e66008bd83e3ebaf34e", func := "lifeline/lifelinelaw02.RingRoom", spec := "ringRoom", apart := false }
def RingRoomSaid : Prop := ringRoomRow.holds Try.pinned (OpenSpec.ofChange ringRoomSpec)

/-- ITS FALSE NEIGHBOUR: 'it returns false'. Refute it at one input. -/
def ringRoomWrong : ChangeSpec := { name := "ringRoom", fn := fun _ => fun
  | [d] => { results := [.lit (.bool false)], args := [d] }
  | _ => none }
def RingRoomWrongFalsely : Prop := ringRoomRow.holds Try.pinned (OpenSpec.ofChange ringRoomWrong)

/- THE SECOND FORM. 'bulk': how many values and letters a reading holds, each counted each time it is reached (what is shared counts as often as it is met; a slice's spare places count too). A statement '..UptoSaid' is the law's where the arguments, and the package variables that the reading takes, are together of bulk at most 1048576: NARROWER than '..Said'. Prove '..Said' where nothing that the law and all that it calls make is longer than what came in: it says more and counts as full. Else prove '..UptoSaid'. A law counts once. -/
mutual
def uptoBulk {H : Type} : DataW H → Nat
  | .lit (.string bytes) => bytes.length + 1
  | .lit _ => 1
  | .nil => 1
  | .ptr d => uptoBulk d + 1
  | .slice elems spare => uptoBulkAll elems + uptoBulkAll spare + 1
  | .agg parts => uptoBulkAll parts + 1
  | .iface _ d => uptoBulk d + 1
  | .map entries => uptoBulkEntries entries + 1
  | .held _ => 1
def uptoBulkAll {H : Type} : List (DataW H) → Nat
  | [] => 0
  | d :: r => uptoBulk d + uptoBulkAll r
def uptoBulkEntries {H : Type} : List (Lit × DataW H) → Nat
  | [] => 0
  | x :: r => uptoBulkEntry x + uptoBulkEntries r
def uptoBulkEntry {H : Type} : Lit × DataW H → Nat
  | (.string bytes, d) => bytes.length + uptoBulk d + 1
  | (_, d) => uptoBulk d + 1
 end
def uptoSmall : (H : Type) → List (DataW H) → Bool := fun _ ds => decide (uptoBulkAll ds ≤ 1048576)
def OpenSpec.upto (s : _root_.Go.ChangeSpec) : _root_.Go.OpenSpec := { _root_.Go.OpenSpec.ofChange s with cond := some uptoSmall }

/-- 'lifelinelaw02.RingAll', WHERE WHAT IT READS IS OF BULK AT MOST 1048576: true; the input reads as it did. -/
def ringAllUptoRow : OpenClaim := { program := "ytfnglidobljlgaa", sum := "79b8341a032128962ff65bb64971c611412ba79c26c55e66008bd83e3ebaf34e", func := "lifeline/lifelinelaw02.RingAll", spec := "ringAll", apart := false, narrowed := true }
def RingAllUptoSaid : Prop := ringAllUptoRow.holds Try.pinned (OpenSpec.upto ringAllSpec)

/-- 'lifelinelaw02.RingParts', WHERE WHAT IT READS IS OF BULK AT MOST 1048576: true; the input reads as it did. -/
def ringPartsUptoRow : OpenClaim := { program := "ytfnglidobljlgaa", sum := "79b8341a032128962ff65bb64971c611412ba79c26c55e66008bd83e3ebaf34e", func := "lifeline/lifelinelaw02.RingParts", spec := "ringParts", apart := false, narrowed := true }
def RingPartsUptoSaid : Prop := ringPartsUptoRow.holds Try.pinned (OpenSpec.upto ringPartsSpec)

/-- 'lifelinelaw02.RingRound', WHERE WHAT IT READS IS OF BULK AT MOST 1048576: true; the input reads as it did. -/
def ringRoundUptoRow : OpenClaim := { program := "ytfnglidobljlgaa", sum := "79b8341a032128962ff65bb64971c611412ba79c26c55e66008bd83e3ebaf34e", func := "lifeline/lifelinelaw02.RingRound", spec := "ringRound", apart := false, narrowed := true }
def RingRoundUptoSaid : Prop := ringRoundUptoRow.holds Try.pinned (OpenSpec.upto ringRoundSpec)

/-- 'lifelinelaw02.RingOwn', WHERE WHAT IT READS IS OF BULK AT MOST 1048576: true; the input reads as it did. -/
def ringOwnUptoRow : OpenClaim := { program := "ytfnglidobljlgaa", sum := "79b8341a032128962ff65bb64971c611412ba79c26c55e66008bd83e3ebaf34e", func := "lifeline/lifelinelaw02.RingOwn", spec := "ringOwn", apart := false, narrowed := true }
def RingOwnUptoSaid : Prop := ringOwnUptoRow.holds Try.pinned (OpenSpec.upto ringOwnSpec)

/-- 'lifelinelaw02.RingScript', WHERE WHAT IT READS IS OF BULK AT MOST 1048576: true; the input reads as it did. -/
def ringScriptUptoRow : OpenClaim := { program := "ytfnglidobljlgaa", sum := "79b8341a032128962ff65bb64971c611412ba79c26c55e66008bd83e3ebaf34e", func := "lifeline/lifelinelaw02.RingScript", spec := "ringScript", apart := false, narrowed := true }
def RingScriptUptoSaid : Prop := ringScriptUptoRow.holds Try.pinned (OpenSpec.upto ringScriptSpec)

/-- 'lifelinelaw02.RingRoom', WHERE WHAT IT READS IS OF BULK AT MOST 1048576: true; the input reads as it did. -/
def ringRoomUptoRow : OpenClaim := { program := "ytfnglidobljlgaa", sum := "79b8341a032128962ff65bb64971c611412ba79c26c55e66008bd83e3ebaf34e", func := "lifeline/lifelinelaw02.RingRoom", spec := "ringRoom", apart := false, narrowed := true }
def RingRoomUptoSaid : Prop := ringRoomUptoRow.holds Try.pinned (OpenSpec.upto ringRoomSpec)

end Rows
end Go.Proofs.Ytfnglidobljlgaa
