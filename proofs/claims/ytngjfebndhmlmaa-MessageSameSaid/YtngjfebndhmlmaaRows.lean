/-
  No cell of these rows narrows 'for every input' (looked for: loops, veiled, ifaces, maps, wideKeys, modest, calm, conditions, laid).
  DERIVED. THE GIVEN ROWS OF THIS SEAT. 6 by the template 'for every input the law returns true; each argument reads behind the call as it read before'; 0 by the template 'total and deterministic' (their statements: YtngjfebndhmlmaaTotals.lean).
  GIVEN WITH THE SEED: the statements are not yours to turn. If you find one false, say at which input.
  Laid BY PROGRAM, IN A SANDBOX (cutbox-rows.mjs): the forced cells as the released guide's own fill.sh prints them over the translation df81ea298127063b… (all of the seat's roots in one cut). By AI agents, Wed Nov 11 2026. No macro, syntax, notation, axiom, sorry.
-/
import Derived.Test.YtngjfebndhmlmaaChecked
import GoSem.Claim
import GoSem.ClaimJoined
import GoSem.ClaimMapViews
import Derived.JoinedTies
import Derived.KernelRfl
namespace Go.Proofs.Ytngjfebndhmlmaa
/- THE CELL 'sum', in the pinned program and in every row, IS THE sha256 OF THE DUMP (.gsa) THAT YtngjfebndhmlmaaProg.lean LOADS. Nothing in Lean hashes anything: it is a label: what it is worth is what the hold of that sum in a sandbox is worth. -/
noncomputable def Try.pinned : Pinned := { name := "ytngjfebndhmlmaa", sum := "df81ea298127063b144418e46d8aff7ffdb8bdaccb7f03d9c556d4a4cc883acb", checked := Try.checked }
namespace Rows
def none {H : Type} : Left H := { results := [], args := [] }

/-- 'baliselaw07.MessageReads': WHATEVER THE INPUT: true; the input reads as it did. -/
def messageReadsSpec : ChangeSpec := { name := "messageReads", fn := fun _ => fun
  | [d] => { results := [.lit (.bool true)], args := [d] }
  | _ => none }
def messageReadsRow : OpenClaim := { program := "ytngjfebndhmlmaa", sum := "df81ea298127063b144418e46d8aff7ffdb8bdaccb7f03d9c556d4a4cc883acb", func := "balise/baliselaw07.MessageReads", spec := "messageReads", apart := false }
def MessageReadsSaid : Prop := messageReadsRow.holds Try.pinned (OpenSpec.ofChange messageReadsSpec)

/-- ITS FALSE NEIGHBOUR: 'it returns false'. Refute it at one input. -/
def messageReadsWrong : ChangeSpec := { name := "messageReads", fn := fun _ => fun
  | [d] => { results := [.lit (.bool false)], args := [d] }
  | _ => none }
def MessageReadsWrongFalsely : Prop := messageReadsRow.holds Try.pinned (OpenSpec.ofChange messageReadsWrong)

/-- 'baliselaw07.MessageTurned': WHATEVER THE INPUT: true; the input reads as it did. -/
def messageTurnedSpec : ChangeSpec := { name := "messageTurned", fn := fun _ => fun
  | [d1, d2, d3, d4] => { results := [.lit (.bool true)], args := [d1, d2, d3, d4] }
  | _ => none }
def messageTurnedRow : OpenClaim := { program := "ytngjfebndhmlmaa", sum := "df81ea298127063b144418e46d8aff7ffdb8bdaccb7f03d9c556d4a4cc883acb", func := "balise/baliselaw07.MessageTurned", spec := "messageTurned", apart := false }
def MessageTurnedSaid : Prop := messageTurnedRow.holds Try.pinned (OpenSpec.ofChange messageTurnedSpec)

/-- ITS FALSE NEIGHBOUR: 'it returns false'. Refute it at one input. -/
def messageTurnedWrong : ChangeSpec := { name := "messageTurned", fn := fun _ => fun
  | [d1, d2, d3, d4] => { results := [.lit (.bool false)], args := [d1, d2, d3, d4] }
  | _ => none }
def MessageTurnedWrongFalsely : Prop := messageTurnedRow.holds Try.pinned (OpenSpec.ofChange messageTurnedWrong)

/-- 'baliselaw07.MessageNumbers': WHATEVER THE INPUT: true; the input reads as it did. -/
def messageNumbersSpec : ChangeSpec := { name := "messageNumbers", fn := fun _ => fun
  | [d1, d2, d3, d4, d5, d6] => { results := [.lit (.bool true)], args := [d1, d2, d3, d4, d5, d6] }
  | _ => none }
def messageNumbersRow : OpenClaim := { program := "ytngjfebndhmlmaa", sum := "df81ea298127063b144418e46d8aff7ffdb8bdaccb7f03d9c556d4a4cc883acb", func := "balise/baliselaw07.MessageNumbers", spec := "messageNumbers", apart := false }
def MessageNumbersSaid : Prop := messageNumbersRow.holds Try.pinned (OpenSpec.ofChange messageNumbersSpec)

/-- ITS FALSE NEIGHBOUR: 'it returns false'. Refute it at one input. -/
def messageNumbersWrong : ChangeSpec := { name := "messageNumbers", fn := fun _ => fun
  | [d1, d2, d3, d4, d5, d6] => { results := [.lit (.bool false)], args := [d1, d2, d3, d4, d5, d6] }
  | _ => none }
def MessageNumbersWrongFalsely : Prop := messageNumbersRow.holds Try.pinned (OpenSpec.ofChange messageNumbersWrong)

/-- 'baliselaw07.MessageCut': WHATEVER THE INPUT: true; the input reads as it did. -/
def messageCutSpec : ChangeSpec := { name := "messageCut", fn := fun _ => fun
  | [d1, d2] => { results := [.lit (.bool true)], args := [d1, d2] }
  | _ => none }
def messageCutRow : OpenClaim := { program := "ytngjfebndhmlmaa", sum := "df81ea298127063b144418e46d8aff7ffdb8bdaccb7f03d9c556d4a4cc883acb", func := "balise/baliselaw07.MessageCut", spec := "messageCut", apart := false }
def MessageCutSaid : Prop := messageCutRow.holds Try.pinned (OpenSpec.ofChange messageCutSpec)

/-- ITS FALSE NEIGHBOUR: 'it returns false'. Refute it at one input. -/
def messageCutWrong : ChangeSpec := { name := "messageCut", fn := fun _ => fun
  | [d1, d2] => { results := [.lit (.bool false)], args := [d1, d2] }
  | _ => none }
def MessageCutWrongFalsely : Prop := messageCutRow.holds Try.pinned (OpenSpec.ofChange messageCutWrong)

/-- 'baliselaw07.MessageBack': WHATEVER THE INPUT: true; the input reads as it did. -/
def messageBackSpec : ChangeSpec := { name := "messageBack", fn := fun _ => fun
  | [d] => { results := [.lit (.bool true)], args := [d] }
  | _ => none }
def messageBackRow : OpenClaim := { program := "ytngjfebndhmlmaa", sum := "df81ea298127063b144418e46d8aff7ffdb8bdaccb7f03d9c556d4a4cc883acb", func := "balise/baliselaw07.MessageBack", spec := "messageBack", apart := false }
def MessageBackSaid : Prop := messageBackRow.holds Try.pinned (OpenSpec.ofChange messageBackSpec)

/-- ITS FALSE NEIGHBOUR: 'it returns false'. Refute it at one input. -/
def messageBackWrong : ChangeSpec := { name := "messageBack", fn := fun _ => fun
  | [d] => { results := [.lit (.bool false)], args := [d] }
  | _ => none }
def MessageBackWrongFalsely : Prop := messageBackRow.holds Try.pinned (OpenSpec.ofChange messageBackWrong)

/-- 'baliselaw07.MessageSame': WHATEVER THE INPUT: true; the input reads as it did. -/
def messageSameSpec : ChangeSpec := { name := "messageSame", fn := fun _ => fun
  | [d1, d2, d3] => { results := [.lit (.bool true)], args := [d1, d2, d3] }
  | _ => none }
def messageSameRow : OpenClaim := { program := "ytngjfebndhmlmaa", sum := "df81ea298127063b144418e46d8aff7ffdb8bdaccb7f03d9c556d4a4cc883acb", func := "balise/baliselaw07.MessageSame", spec := "messageSame", apart := false }
def MessageSameSaid : Prop := messageSameRow.holds Try.pinned (OpenSpec.ofChange messageSameSpec)

/-- ITS FALSE NEIGHBOUR: 'it returns false'. Refute it at one input. -/
def messageSameWrong : ChangeSpec := { name := "messageSame", fn := fun _ => fun
  | [d1, d2, d3] => { results := [.lit (.bool false)], args := [d1, d2, d3] }
  | _ => none }
def MessageSameWrongFalsely : Prop := messageSameRow.holds Try.pinned (OpenSpec.ofChange messageSameWrong)

/- THE SECOND FORM. 'bulk': how many values and letters a reading holds, each counted each time it is reached (what is shared counts as often as it is met; a slice's spare places count too). A statement '..UptoSaid' is the law's where the arguments, and the package variables that the reading takes, are together of bulk at most 1048576: NARROWER than '..Said'. Prove '..Said' where nothing that the law and all that it calls make is longer than what came in: it says more and counts as full. Else prove '..UptoSaid'. A law counts once. -/
mutual
def uptoBulk {H : Type} : DataW H → Nat
  | .lit (.string bytes) => bytes.length + 1
  | .lit _ => 1
  | .nil => 1
  | .ptr d => uptoBulk d + 1
  | .slice elems spare => uptoBulkAll elems + uptoBulkAll spare + 1
  | .agg parts => uptoBulkAll parts + 1
  | .iface _ d => uptoBulk d + 1
  | .map entries => uptoBulkEntries entries + 1
  | .held _ => 1
def uptoBulkAll {H : Type} : List (DataW H) → Nat
  | [] => 0
  | d :: r => uptoBulk d + uptoBulkAll r
def uptoBulkEntries {H : Type} : List (Lit × DataW H) → Nat
  | [] => 0
  | x :: r => uptoBulkEntry x + uptoBulkEntries r
def uptoBulkEntry {H : Type} : Lit × DataW H → Nat
  | (.string bytes, d) => bytes.length + uptoBulk d + 1
  | (_, d) => uptoBulk d + 1
 end
def uptoSmall : (H : Type) → List (DataW H) → Bool := fun _ ds => decide (uptoBulkAll ds ≤ 1048576)
def OpenSpec.upto (s : _root_.Go.ChangeSpec) : _root_.Go.OpenSpec := { _root_.Go.OpenSpec.ofChange s with cond := some uptoSmall }

/-- 'baliselaw07.MessageReads', WHERE WHAT IT READS IS OF BULK AT MOST 1048576: true; the input reads as it did. -/
def messageReadsUptoRow : OpenClaim := { program := "ytngjfebndhmlmaa", sum := "df81ea298127063b144418e46d8aff7ffdb8bdaccb7f03d9c556d4a4cc883acb", func := "balise/baliselaw07.MessageReads", spec := "messageReads", apart := false, narrowed := true }
def MessageReadsUptoSaid : Prop := messageReadsUptoRow.holds Try.pinned (OpenSpec.upto messageReadsSpec)

/-- 'baliselaw07.MessageTurned', WHERE WHAT IT READS IS OF BULK AT MOST 1048576: true; the input reads as it did. -/
def messageTurnedUptoRow : OpenClaim := { program := "ytngjfebndhmlmaa", sum := "df81ea298127063b144418e46d8aff7ffdb8bdaccb7f03d9c556d4a4cc883acb", func := "balise/baliselaw07.MessageTurned", spec := "messageTurned", apart := false, narrowed := true }
def MessageTurnedUptoSaid : Prop := messageTurnedUptoRow.holds Try.pinned (OpenSpec.upto messageTurnedSpec)

/-- 'baliselaw07.MessageNumbers', WHERE WHAT IT READS IS OF BULK AT MOST 1048576: true; the input reads as it did. -/
def messageNumbersUptoRow : OpenClaim := { program := "ytngjfebndhmlmaa", sum := "df81ea298127063b144418e46d8aff7ffdb8bdaccb7f03d9c556d4a4cc883acb", func := "balise/baliselaw07.MessageNumbers", spec := "messageNumbers", apart := false, narrowed := true }
def MessageNumbersUptoSaid : Prop := messageNumbersUptoRow.holds Try.pinned (OpenSpec.upto messageNumbersSpec)

/-- 'baliselaw07.MessageCut', WHERE WHAT IT READS IS OF BULK AT MOST 1048576: true; the input reads as it did. -/
def messageCutUptoRow : OpenClaim := { program := "ytngjfebndhmlmaa", sum := "df81ea298127063b144418e46d8aff7ffdb8bdaccb7f03d9c556d4a4cc883acb", func := "balise/baliselaw07.MessageCut", spec := "messageCut", apart := false, narrowed := true }
def MessageCutUptoSaid : Prop := messageCutUptoRow.holds Try.pinned (OpenSpec.upto messageCutSpec)

/-- 'baliselaw07.MessageBack', WHERE WHAT IT READS IS OF BULK AT MOST 1048576: true; the input reads as it did. -/
def messageBackUptoRow : OpenClaim := { program := "ytngjfebndhmlmaa", sum := "df81ea298127063b144418e46d8aff7ffdb8bdaccb7f03d9c556d4a4cc883acb", func := "balise/baliselaw07.MessageBack", spec := "messageBack", apart := false, narrowed := true }
def MessageBackUptoSaid : Prop := messageBackUptoRow.holds Try.pinned (OpenSpec.upto messageBackSpec)

/-- 'baliselaw07.MessageSame', WHERE WHAT IT READS IS OF BULK AT MOST 1048576: true; the input reads as it did. -/
def messageSameUptoRow : OpenClaim := { program := "ytngjfebndhmlmaa", sum := "df81ea298127063b144418e46d8aff7ffdb8bdaccb7f03d9c556d4a4cc883acb", func := "balise/baliselaw07.MessageSame", spec := "messageSame", apart := false, narrowed := true }
def MessageSameUptoSaid : Prop := messageSameUptoRow.holds Try.pinned (OpenSpec.upto messageSameSpec)

end Rows
end Go.Proofs.Ytngjfebndhmlmaa
