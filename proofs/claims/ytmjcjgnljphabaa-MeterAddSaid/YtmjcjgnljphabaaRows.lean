/-
  No cell of these rows narrows 'for every input' (looked for: loops, veiled, ifaces, maps, wideKeys, modest, calm, conditions, laid).
  DERIVED. THE GIVEN ROWS OF THIS SEAT. 5 by the template 'for every input the law returns true; each argument reads behind the call as it read before'; 0 by the template 'total and deterministic' (their statements: YtmjcjgnljphabaaTotals.lean).
  GIVEN WITH THE SEED: the statements are not yours to turn. If you find one false, say at which input.
  Laid BY PROGRAM, IN A SANDBOX (cutbox-rows.mjs): the forced cells as the released guide's own fill.sh prints them over the translation c054a5180cc75e7e… (all of the seat's roots in one cut). By AI agents, Wed Nov 11 2026. No macro, syntax, notation, axiom, sorry.
-/
import Derived.Test.YtmjcjgnljphabaaChecked
import GoSem.Claim
import GoSem.ClaimJoined
import GoSem.ClaimMapViews
import Derived.JoinedTies
import Derived.KernelRfl
namespace Go.Proofs.Ytmjcjgnljphabaa
/- THE CELL 'sum', in the pinned program and in every row, IS THE sha256 OF THE DUMP (.gsa) THAT YtmjcjgnljphabaaProg.lean LOADS. Nothing in Lean hashes anything: it is a label: what it is worth is what the hold of that sum in a sandbox is worth. -/
noncomputable def Try.pinned : Pinned := { name := "ytmjcjgnljphabaa", sum := "c054a5180cc75e7e60c23504faf27d4fffae32398cd61e250d5526cb01a2295c", checked := Try.checked }
namespace Rows
def none {H : Type} : Left H := { results := [], args := [] }

/-- 'lifelinelaw03.MeterAdd': WHATEVER THE INPUT: true; the input reads as it did. -/
def meterAddSpec : ChangeSpec := { name := "meterAdd", fn := fun _ => fun
  | [d1, d2, d3, d4] => { results := [.lit (.bool true)], args := [d1, d2, d3, d4] }
  | _ => none }
def meterAddRow : OpenClaim := { program := "ytmjcjgnljphabaa", sum := "c054a5180cc75e7e60c23504faf27d4fffae32398cd61e250d5526cb01a2295c", func := "lifeline/lifelinelaw03.MeterAdd", spec := "meterAdd", unfollowed := true, recurses := true, apart := false }
def MeterAddSaid : Prop := meterAddRow.holds Try.pinned (OpenSpec.ofChange meterAddSpec)

/-- ITS FALSE NEIGHBOUR: 'it returns false'. Refute it at one input. -/
def meterAddWrong : ChangeSpec := { name := "meterAdd", fn := fun _ => fun
  | [d1, d2, d3, d4] => { results := [.lit (.bool false)], args := [d1, d2, d3, d4] }
  | _ => none }
def MeterAddWrongFalsely : Prop := meterAddRow.holds Try.pinned (OpenSpec.ofChange meterAddWrong)

/-- 'lifelinelaw03.MeterShare': WHATEVER THE INPUT: true; the input reads as it did. -/
def meterShareSpec : ChangeSpec := { name := "meterShare", fn := fun _ => fun
  | [d1, d2] => { results := [.lit (.bool true)], args := [d1, d2] }
  | _ => none }
def meterShareRow : OpenClaim := { program := "ytmjcjgnljphabaa", sum := "c054a5180cc75e7e60c23504faf27d4fffae32398cd61e250d5526cb01a2295c", func := "lifeline/lifelinelaw03.MeterShare", spec := "meterShare", apart := false }
def MeterShareSaid : Prop := meterShareRow.holds Try.pinned (OpenSpec.ofChange meterShareSpec)

/-- ITS FALSE NEIGHBOUR: 'it returns false'. Refute it at one input. -/
def meterShareWrong : ChangeSpec := { name := "meterShare", fn := fun _ => fun
  | [d1, d2] => { results := [.lit (.bool false)], args := [d1, d2] }
  | _ => none }
def MeterShareWrongFalsely : Prop := meterShareRow.holds Try.pinned (OpenSpec.ofChange meterShareWrong)

/-- 'lifelinelaw03.MeterMost': WHATEVER THE INPUT: true; the input reads as it did. -/
def meterMostSpec : ChangeSpec := { name := "meterMost", fn := fun _ => fun
  | [d1, d2] => { results := [.lit (.bool true)], args := [d1, d2] }
  | _ => none }
def meterMostRow : OpenClaim := { program := "ytmjcjgnljphabaa", sum := "c054a5180cc75e7e60c23504faf27d4fffae32398cd61e250d5526cb01a2295c", func := "lifeline/lifelinelaw03.MeterMost", spec := "meterMost", apart := false }
def MeterMostSaid : Prop := meterMostRow.holds Try.pinned (OpenSpec.ofChange meterMostSpec)

/-- ITS FALSE NEIGHBOUR: 'it returns false'. Refute it at one input. -/
def meterMostWrong : ChangeSpec := { name := "meterMost", fn := fun _ => fun
  | [d1, d2] => { results := [.lit (.bool false)], args := [d1, d2] }
  | _ => none }
def MeterMostWrongFalsely : Prop := meterMostRow.holds Try.pinned (OpenSpec.ofChange meterMostWrong)

/-- 'lifelinelaw03.MeterWorse': WHATEVER THE INPUT: true; the input reads as it did. -/
def meterWorseSpec : ChangeSpec := { name := "meterWorse", fn := fun _ => fun
  | [d1, d2, d3, d4] => { results := [.lit (.bool true)], args := [d1, d2, d3, d4] }
  | _ => none }
def meterWorseRow : OpenClaim := { program := "ytmjcjgnljphabaa", sum := "c054a5180cc75e7e60c23504faf27d4fffae32398cd61e250d5526cb01a2295c", func := "lifeline/lifelinelaw03.MeterWorse", spec := "meterWorse", apart := false }
def MeterWorseSaid : Prop := meterWorseRow.holds Try.pinned (OpenSpec.ofChange meterWorseSpec)

/-- ITS FALSE NEIGHBOUR: 'it returns false'. Refute it at one input. -/
def meterWorseWrong : ChangeSpec := { name := "meterWorse", fn := fun _ => fun
  | [d1, d2, d3, d4] => { results := [.lit (.bool false)], args := [d1, d2, d3, d4] }
  | _ => none }
def MeterWorseWrongFalsely : Prop := meterWorseRow.holds Try.pinned (OpenSpec.ofChange meterWorseWrong)

/-- 'lifelinelaw03.MeterLine': WHATEVER THE INPUT: true; the input reads as it did. -/
def meterLineSpec : ChangeSpec := { name := "meterLine", fn := fun _ => fun
  | [d1, d2, d3, d4, d5, d6] => { results := [.lit (.bool true)], args := [d1, d2, d3, d4, d5, d6] }
  | _ => none }
def meterLineRow : OpenClaim := { program := "ytmjcjgnljphabaa", sum := "c054a5180cc75e7e60c23504faf27d4fffae32398cd61e250d5526cb01a2295c", func := "lifeline/lifelinelaw03.MeterLine", spec := "meterLine", apart := false }
def MeterLineSaid : Prop := meterLineRow.holds Try.pinned (OpenSpec.ofChange meterLineSpec)

/-- ITS FALSE NEIGHBOUR: 'it returns false'. Refute it at one input. -/
def meterLineWrong : ChangeSpec := { name := "meterLine", fn := fun _ => fun
  | [d1, d2, d3, d4, d5, d6] => { results := [.lit (.bool false)], args := [d1, d2, d3, d4, d5, d6] }
  | _ => none }
def MeterLineWrongFalsely : Prop := meterLineRow.holds Try.pinned (OpenSpec.ofChange meterLineWrong)

/- THE SECOND FORM. 'bulk': how many values and letters a reading holds, each counted each time it is reached (what is shared counts as often as it is met; a slice's spare places count too). A statement '..UptoSaid' is the law's where the arguments, and the package variables that the reading takes, are together of bulk at most 1048576: NARROWER than '..Said'. Prove '..Said' where nothing that the law and all that it calls make is longer than what came in: it says more and counts as full. Else prove '..UptoSaid'. A law counts once. -/
mutual
def uptoBulk {H : Type} : DataW H → Nat
  | .lit (.string bytes) => bytes.length + 1
  | .lit _ => 1
  | .nil => 1
  | .ptr d => uptoBulk d + 1
  | .slice elems spare => uptoBulkAll elems + uptoBulkAll spare + 1
  | .agg parts => uptoBulkAll parts + 1
  | .iface _ d => uptoBulk d + 1
  | .map entries => uptoBulkEntries entries + 1
  | .held _ => 1
def uptoBulkAll {H : Type} : List (DataW H) → Nat
  | [] => 0
  | d :: r => uptoBulk d + uptoBulkAll r
def uptoBulkEntries {H : Type} : List (Lit × DataW H) → Nat
  | [] => 0
  | x :: r => uptoBulkEntry x + uptoBulkEntries r
def uptoBulkEntry {H : Type} : Lit × DataW H → Nat
  | (.string bytes, d) => bytes.length + uptoBulk d + 1
  | (_, d) => uptoBulk d + 1
 end
def uptoSmall : (H : Type) → List (DataW H) → Bool := fun _ ds => decide (uptoBulkAll ds ≤ 1048576)
def OpenSpec.upto (s : _root_.Go.ChangeSpec) : _root_.Go.OpenSpec := { _root_.Go.OpenSpec.ofChange s with cond := some uptoSmall }

/-- 'lifelinelaw03.MeterAdd', WHERE WHAT IT READS IS OF BULK AT MOST 1048576: true; the input reads as it did. -/
def meterAddUptoRow : OpenClaim := { program := "ytmjcjgnljphabaa", sum := "c054a5180cc75e7e60c23504faf27d4fffae32398cd61e250d5526cb01a2295c", func := "lifeline/lifelinelaw03.MeterAdd", spec := "meterAdd", unfollowed := true, recurses := true, apart := false, narrowed := true }
def MeterAddUptoSaid : Prop := meterAddUptoRow.holds Try.pinned (OpenSpec.upto meterAddSpec)

/-- 'lifelinelaw03.MeterShare', WHERE WHAT IT READS IS OF BULK AT MOST 1048576: true; the input reads as it did. -/
def meterShareUptoRow : OpenClaim := { program := "ytmjcjgnljphabaa", sum := "c054a5180cc75e7e60c23504faf27d4fffae32398cd61e250d5526cb01a2295c", func := "lifeline/lifelinelaw03.MeterShare", spec := "meterShare", apart := false, narrowed := true }
def MeterShareUptoSaid : Prop := meterShareUptoRow.holds Try.pinned (OpenSpec.upto meterShareSpec)

/-- 'lifelinelaw03.MeterMost', WHERE WHAT IT READS IS OF BULK AT MOST 1048576: true; the input reads as it did. -/
def meterMostUptoRow : OpenClaim := { program := "ytmjcjgnljphabaa", sum := "c054a5180cc75e7e60c23504faf27d4fffae32398cd61e250d5526cb01a2295c", func := "lifeline/lifelinelaw03.MeterMost", spec := "meterMost", apart := false, narrowed := true }
def MeterMostUptoSaid : Prop := meterMostUptoRow.holds Try.pinned (OpenSpec.upto meterMostSpec)

/-- 'lifelinelaw03.MeterWorse', WHERE WHAT IT READS IS OF BULK AT MOST 1048576: true; the input reads as it did. -/
def meterWorseUptoRow : OpenClaim := { program := "ytmjcjgnljphabaa", sum := "c054a5180cc75e7e60c23504faf27d4fffae32398cd61e250d5526cb01a2295c", func := "lifeline/lifelinelaw03.MeterWorse", spec := "meterWorse", apart := false, narrowed := true }
def MeterWorseUptoSaid : Prop := meterWorseUptoRow.holds Try.pinned (OpenSpec.upto meterWorseSpec)

/-- 'lifelinelaw03.MeterLine', WHERE WHAT IT READS IS OF BULK AT MOST 1048576: true; the input reads as it did. -/
def meterLineUptoRow : OpenClaim := { program := "ytmjcjgnljphabaa", sum := "c054a5180cc75e7e60c23504faf27d4fffae32398cd61e250d5526cb01a2295c", func := "lifeline/lifelinelaw03.MeterLine", spec := "meterLine", apart := false, narrowed := true }
def MeterLineUptoSaid : Prop := meterLineUptoRow.holds Try.pinned (OpenSpec.upto meterLineSpec)

end Rows
end Go.Proofs.Ytmjcjgnljphabaa
