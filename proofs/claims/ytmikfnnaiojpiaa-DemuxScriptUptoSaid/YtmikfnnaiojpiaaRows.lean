/-
  No cell of these rows narrows 'for every input' (looked for: loops, veiled, ifaces, maps, wideKeys, modest, calm, conditions, laid).
  DERIVED. THE GIVEN ROWS OF THIS SEAT. 6 by the template 'for every input the law returns true; each argument reads behind the call as it read before'; 0 by the template 'total and deterministic' (their statements: YtmikfnnaiojpiaaTotals.lean).
  GIVEN WITH THE SEED: the statements are not yours to turn. If you find one false, say at which input.
  Laid BY PROGRAM, IN A SANDBOX (cutbox-rows.mjs): the forced cells as the released guide's own fill.sh prints them over the translation 882c289f2800d264… (all of the seat's roots in one cut). By AI agents, Wed Nov 11 2026. No macro, syntax, notation, axiom, sorry.
-/
import Derived.Test.YtmikfnnaiojpiaaChecked
import GoSem.Claim
import GoSem.ClaimJoined
import GoSem.ClaimMapViews
import Derived.JoinedTies
import Derived.KernelRfl
namespace Go.Proofs.Ytmikfnnaiojpiaa
/- THE CELL 'sum', in the pinned program and in every row, IS THE sha256 OF THE DUMP (.gsa) THAT YtmikfnnaiojpiaaProg.lean LOADS. Nothing in Lean hashes anything: it is a label: what it is worth is what the hold of that sum in a sandbox is worth. -/
noncomputable def Try.pinned : Pinned := { name := "ytmikfnnaiojpiaa", sum := "882c289f2800d264f41ed4209e28cccdc47f1c272b9189dca1cff6f83bb4e295", checked := Try.checked }
namespace Rows
def none {H : Type} : Left H := { results := [], args := [] }

/-- 'lifelinelaw14.DemuxSame': WHATEVER THE INPUT: true; the input reads as it did. -/
def demuxSameSpec : ChangeSpec := { name := "demuxSame", fn := fun _ => fun
  | [d1, d2] => { results := [.lit (.bool true)], args := [d1, d2] }
  | _ => none }
def demuxSameRow : OpenClaim := { program := "ytmikfnnaiojpiaa", sum := "882c289f2800d264f41ed4209e28cccdc47f1c272b9189dca1cff6f83bb4e295", func := "lifeline/lifelinelaw14.DemuxSame", spec := "demuxSame", apart := false }
def DemuxSameSaid : Prop := demuxSameRow.holds Try.pinned (OpenSpec.ofChange demuxSameSpec)

/-- ITS FALSE NEIGHBOUR: 'it returns false'. Refute it at one input. -/
def demuxSameWrong : ChangeSpec := { name := "demuxSame", fn := fun _ => fun
  | [d1, d2] => { results := [.lit (.bool false)], args := [d1, d2] }
  | _ => none }
def DemuxSameWrongFalsely : Prop := demuxSameRow.holds Try.pinned (OpenSpec.ofChange demuxSameWrong)

/-- 'lifelinelaw14.DemuxTurns': WHATEVER THE INPUT: true; the input reads as it did. -/
def demuxTurnsSpec : ChangeSpec := { name := "demuxTurns", fn := fun _ => fun
  | [d] => { results := [.lit (.bool true)], args := [d] }
  | _ => none }
def demuxTurnsRow : OpenClaim := { program := "ytmikfnnaiojpiaa", sum := "882c289f2800d264f41ed4209e28cccdc47f1c272b9189dca1cff6f83bb4e295", func := "lifeline/lifelinelaw14.DemuxTurns", spec := "demuxTurns", apart := false }
def DemuxTurnsSaid : Prop := demuxTurnsRow.holds Try.pinned (OpenSpec.ofChange demuxTurnsSpec)

/-- ITS FALSE NEIGHBOUR: 'it returns false'. Refute it at one input. -/
def demuxTurnsWrong : ChangeSpec := { name := "demuxTurns", fn := fun _ => fun
  | [d] => { results := [.lit (.bool false)], args := [d] }
  | _ => none }
def DemuxTurnsWrongFalsely : Prop := demuxTurnsRow.holds Try.pinned (OpenSpec.ofChange demuxTurnsWrong)

/-- 'lifelinelaw14.DemuxMode': WHATEVER THE INPUT: true; the input reads as it did. -/
def demuxModeSpec : ChangeSpec := { name := "demuxMode", fn := fun _ => fun
  | [d] => { results := [.lit (.bool true)], args := [d] }
  | _ => none }
def demuxModeRow : OpenClaim := { program := "ytmikfnnaiojpiaa", sum := "882c289f2800d264f41ed4209e28cccdc47f1c272b9189dca1cff6f83bb4e295", func := "lifeline/lifelinelaw14.DemuxMode", spec := "demuxMode", apart := false }
def DemuxModeSaid : Prop := demuxModeRow.holds Try.pinned (OpenSpec.ofChange demuxModeSpec)

/-- ITS FALSE NEIGHBOUR: 'it returns false'. Refute it at one input. -/
def demuxModeWrong : ChangeSpec := { name := "demuxMode", fn := fun _ => fun
  | [d] => { results := [.lit (.bool false)], args := [d] }
  | _ => none }
def DemuxModeWrongFalsely : Prop := demuxModeRow.holds Try.pinned (OpenSpec.ofChange demuxModeWrong)

/-- 'lifelinelaw14.DemuxLess': WHATEVER THE INPUT: true; the input reads as it did. -/
def demuxLessSpec : ChangeSpec := { name := "demuxLess", fn := fun _ => fun
  | [d1, d2] => { results := [.lit (.bool true)], args := [d1, d2] }
  | _ => none }
def demuxLessRow : OpenClaim := { program := "ytmikfnnaiojpiaa", sum := "882c289f2800d264f41ed4209e28cccdc47f1c272b9189dca1cff6f83bb4e295", func := "lifeline/lifelinelaw14.DemuxLess", spec := "demuxLess", apart := false }
def DemuxLessSaid : Prop := demuxLessRow.holds Try.pinned (OpenSpec.ofChange demuxLessSpec)

/-- ITS FALSE NEIGHBOUR: 'it returns false'. Refute it at one input. -/
def demuxLessWrong : ChangeSpec := { name := "demuxLess", fn := fun _ => fun
  | [d1, d2] => { results := [.lit (.bool false)], args := [d1, d2] }
  | _ => none }
def DemuxLessWrongFalsely : Prop := demuxLessRow.holds Try.pinned (OpenSpec.ofChange demuxLessWrong)

/-- 'lifelinelaw14.DemuxParts': WHATEVER THE INPUT: true; the input reads as it did. -/
def demuxPartsSpec : ChangeSpec := { name := "demuxParts", fn := fun _ => fun
  | [d1, d2] => { results := [.lit (.bool true)], args := [d1, d2] }
  | _ => none }
def demuxPartsRow : OpenClaim := { program := "ytmikfnnaiojpiaa", sum := "882c289f2800d264f41ed4209e28cccdc47f1c272b9189dca1cff6f83bb4e295", func := "lifeline/lifelinelaw14.DemuxParts", spec := "demuxParts", apart := false }
def DemuxPartsSaid : Prop := demuxPartsRow.holds Try.pinned (OpenSpec.ofChange demuxPartsSpec)

/-- ITS FALSE NEIGHBOUR: 'it returns false'. Refute it at one input. -/
def demuxPartsWrong : ChangeSpec := { name := "demuxParts", fn := fun _ => fun
  | [d1, d2] => { results := [.lit (.bool false)], args := [d1, d2] }
  | _ => none }
def DemuxPartsWrongFalsely : Prop := demuxPartsRow.holds Try.pinned (OpenSpec.ofChange demuxPartsWrong)

/-- 'lifelinelaw14.DemuxScript': WHATEVER THE INPUT: true; the input reads as it did. -/
def demuxScriptSpec : ChangeSpec := { name := "demuxScript", fn := fun _ => fun
  | [d1, d2] => { results := [.lit (.bool true)], args := [d1, d2] }
  | _ => none }
def demuxScriptRow : OpenClaim := { program := "ytmikfnnaiojpiaa", sum := "882c289f2800d264f41ed4209e28cccdc47f1c272b9189dca1cff6f83bb4e295", func := "lifeline/lifelinelaw14.DemuxScript", spec := "demuxScript", unfollowed := true, recurses := true, apart := false }
def DemuxScriptSaid : Prop := demuxScriptRow.holds Try.pinned (OpenSpec.ofChange demuxScriptSpec)

/-- ITS FALSE NEIGHBOUR: 'it returns false'. Refute it at one input. -/
def demuxScriptWrong : ChangeSpec := { name := "demuxScript", fn := fun _ => fun
  | [d1, d2] => { results := [.lit (.bool false)], args := [d1, d2] }
  | _ => none }
def DemuxScriptWrongFalsely : Prop := demuxScriptRow.holds Try.pinned (OpenSpec.ofChange demuxScriptWrong)

/- THE SECOND FORM. 'bulk': how many values and letters a reading holds, each counted each time it is reached (what is shared counts as often as it is met; a slice's spare places count too). A statement '..UptoSaid' is the law's where the arguments, and the package variables that the reading takes, are together of bulk at most 1048576: NARROWER than '..Said'. Prove '..Said' where nothing that the law and all that it calls make is longer than what came in: it says more and counts as full. Else prove '..UptoSaid'. A law counts once. -/
mutual
def uptoBulk {H : Type} : DataW H → Nat
  | .lit (.string bytes) => bytes.length + 1
  | .lit _ => 1
  | .nil => 1
  | .ptr d => uptoBulk d + 1
  | .slice elems spare => uptoBulkAll elems + uptoBulkAll spare + 1
  | .agg parts => uptoBulkAll parts + 1
  | .iface _ d => uptoBulk d + 1
  | .map entries => uptoBulkEntries entries + 1
  | .held _ => 1
def uptoBulkAll {H : Type} : List (DataW H) → Nat
  | [] => 0
  | d :: r => uptoBulk d + uptoBulkAll r
def uptoBulkEntries {H : Type} : List (Lit × DataW H) → Nat
  | [] => 0
  | x :: r => uptoBulkEntry x + uptoBulkEntries r
def uptoBulkEntry {H : Type} : Lit × DataW H → Nat
  | (.string bytes, d) => bytes.length + uptoBulk d + 1
  | (_, d) => uptoBulk d + 1
 end
def uptoSmall : (H : Type) → List (DataW H) → Bool := fun _ ds => decide (uptoBulkAll ds ≤ 1048576)
def OpenSpec.upto (s : _root_.Go.ChangeSpec) : _root_.Go.OpenSpec := { _root_.Go.OpenSpec.ofChange s with cond := some uptoSmall }

/-- 'lifelinelaw14.DemuxSame', WHERE WHAT IT READS IS OF BULK AT MOST 1048576: true; the input reads as it did. -/
def demuxSameUptoRow : OpenClaim := { program := "ytmikfnnaiojpiaa", sum := "882c289f2800d264f41ed4209e28cccdc47f1c272b9189dca1cff6f83bb4e295", func := "lifeline/lifelinelaw14.DemuxSame", spec := "demuxSame", apart := false, narrowed := true }
def DemuxSameUptoSaid : Prop := demuxSameUptoRow.holds Try.pinned (OpenSpec.upto demuxSameSpec)

/-- 'lifelinelaw14.DemuxTurns', WHERE WHAT IT READS IS OF BULK AT MOST 1048576: true; the input reads as it did. -/
def demuxTurnsUptoRow : OpenClaim := { program := "ytmikfnnaiojpiaa", sum := "882c289f2800d264f41ed4209e28cccdc47f1c272b9189dca1cff6f83bb4e295", func := "lifeline/lifelinelaw14.DemuxTurns", spec := "demuxTurns", apart := false, narrowed := true }
def DemuxTurnsUptoSaid : Prop := demuxTurnsUptoRow.holds Try.pinned (OpenSpec.upto demuxTurnsSpec)

/-- 'lifelinelaw14.DemuxMode', WHERE WHAT IT READS IS OF BULK AT MOST 1048576: true; the input reads as it did. -/
def demuxModeUptoRow : OpenClaim := { program := "ytmikfnnaiojpiaa", sum := "882c289f2800d264f41ed4209e28cccdc47f1c272b9189dca1cff6f83bb4e295", func := "lifeline/lifelinelaw14.DemuxMode", spec := "demuxMode", apart := false, narrowed := true }
def DemuxModeUptoSaid : Prop := demuxModeUptoRow.holds Try.pinned (OpenSpec.upto demuxModeSpec)

/-- 'lifelinelaw14.DemuxLess', WHERE WHAT IT READS IS OF BULK AT MOST 1048576: true; the input reads as it did. -/
def demuxLessUptoRow : OpenClaim := { program := "ytmikfnnaiojpiaa", sum := "882c289f2800d264f41ed4209e28cccdc47f1c272b9189dca1cff6f83bb4e295", func := "lifeline/lifelinelaw14.DemuxLess", spec := "demuxLess", apart := false, narrowed := true }
def DemuxLessUptoSaid : Prop := demuxLessUptoRow.holds Try.pinned (OpenSpec.upto demuxLessSpec)

/-- 'lifelinelaw14.DemuxParts', WHERE WHAT IT READS IS OF BULK AT MOST 1048576: true; the input reads as it did. -/
def demuxPartsUptoRow : OpenClaim := { program := "ytmikfnnaiojpiaa", sum := "882c289f2800d264f41ed4209e28cccdc47f1c272b9189dca1cff6f83bb4e295", func := "lifeline/lifelinelaw14.DemuxParts", spec := "demuxParts", apart := false, narrowed := true }
def DemuxPartsUptoSaid : Prop := demuxPartsUptoRow.holds Try.pinned (OpenSpec.upto demuxPartsSpec)

/-- 'lifelinelaw14.DemuxScript', WHERE WHAT IT READS IS OF BULK AT MOST 1048576: true; the input reads as it did. -/
def demuxScriptUptoRow : OpenClaim := { program := "ytmikfnnaiojpiaa", sum := "882c289f2800d264f41ed4209e28cccdc47f1c272b9189dca1cff6f83bb4e295", func := "lifeline/lifelinelaw14.DemuxScript", spec := "demuxScript", unfollowed := true, recurses := true, apart := false, narrowed := true }
def DemuxScriptUptoSaid : Prop := demuxScriptUptoRow.holds Try.pinned (OpenSpec.upto demuxScriptSpec)

end Rows
end Go.Proofs.Ytmikfnnaiojpiaa
