/-
  No cell of these rows narrows 'for every input' (looked for: loops, veiled, ifaces, maps, wideKeys, modest, calm, conditions, laid).
  DERIVED. THE GIVEN ROWS OF THIS SEAT. 6 by the template 'for every input the law returns true; each argument reads behind the call as it read before'; 0 by the template 'total and deterministic' (their statements: YtfnlimcgoeknjaaTotals.lean).
  GIVEN WITH THE SEED: the statements are not yours to turn. If you find one false, say at which input.
  Laid BY PROGRAM, IN A SANDBOX (cutbox-rows.mjs): the forced cells as the released guide's own fill.sh prints them over the translation ce7d3d520ec1d69d… (all of the seat's roots in one cut). By AI agents, Wed Nov 11 2026. No macro, syntax, notation, axiom, sorry.
-/
import Derived.Test.YtfnlimcgoeknjaaChecked
import GoSem.Claim
import GoSem.ClaimJoined
import GoSem.ClaimMapViews
import Derived.JoinedTies
import Derived.KernelRfl
namespace Go.Proofs.Ytfnlimcgoeknjaa
/- THE CELL 'sum', in the pinned program and in every row, IS THE sha256 OF THE DUMP (.gsa) THAT YtfnlimcgoeknjaaProg.lean LOADS. Nothing in Lean hashes anything: it is a label: what it is worth is what the hold of that sum in a sandbox is worth. -/
noncomputable def Try.pinned : Pinned := { name := "ytfnlimcgoeknjaa", sum := "ce7d3d520ec1d69db2c8a3486e6b0b828d09d2ead453b1c094368f1550b12a62", checked := Try.checked }
namespace Rows
def none {H : Type} : Left H := { results := [], args := [] }

/-- 'baliselaw04.LayoutReads': WHATEVER THE INPUT: true; the input reads as it did. -/
def layoutReadsSpec : ChangeSpec := { name := "layoutReads", fn := fun _ => fun
  | [d] => { results := [.lit (.bool true)], args := [d] }
  | _ => none }
def layoutReadsRow : OpenClaim := { program := "ytfnlimcgoeknjaa", sum := "ce7d3d520ec1d69db2c8a3486e6b0b828d09d2ead453b1c094368f1550b12a62", func := "balise/baliselaw04.LayoutReads", spec := "layoutReads", unfollowed := true, recurses := true, apart := false }
def LayoutReadsSaid : Prop := layoutReadsRow.holds Try.pinned (OpenSpec.ofChange layoutReadsSpec)

/-- ITS FALSE NEIGHBOUR: 'it returns false'. Refute it at one input. -/
def layoutReadsWrong : ChangeSpec := { name := "layoutReads", fn := fun _ => fun
  | [d] => { results := [.lit (.bool false)], args := [d] }
  | _ => none }
def LayoutReadsWrongFalsely : Prop := layoutReadsRow.holds Try.pinned (OpenSpec.ofChange layoutReadsWrong)

/-- 'baliselaw04.LayoutTurned': WHATEVER THE INPUT: true; the input reads as it did. -/
def layoutTurnedSpec : ChangeSpec := { name := "layoutTurned", fn := fun _ => fun
  | [d1, d2, d3, d4, d5, d6] => { results := [.lit (.bool true)], args := [d1, d2, d3, d4, d5, d6] }
  | _ => none }
def layoutTurnedRow : OpenClaim := { program := "ytfnlimcgoeknjaa", sum := "ce7d3d520ec1d69db2c8a3486e6b0b828d09d2ead453b1c094368f1550b12a62", func := "balise/baliselaw04.LayoutTurned", spec := "layoutTurned", unfollowed := true, recurses := true, apart := false }
def LayoutTurnedSaid : Prop := layoutTurnedRow.holds Try.pinned (OpenSpec.ofChange layoutTurnedSpec)

/-- ITS FALSE NEIGHBOUR: 'it returns false'. Refute it at one input. -/
def layoutTurnedWrong : ChangeSpec := { name := "layoutTurned", fn := fun _ => fun
  | [d1, d2, d3, d4, d5, d6] => { results := [.lit (.bool false)], args := [d1, d2, d3, d4, d5, d6] }
  | _ => none }
def LayoutTurnedWrongFalsely : Prop := layoutTurnedRow.holds Try.pinned (OpenSpec.ofChange layoutTurnedWrong)

/-- 'baliselaw04.LayoutNumbers': WHATEVER THE INPUT: true; the input reads as it did. -/
def layoutNumbersSpec : ChangeSpec := { name := "layoutNumbers", fn := fun _ => fun
  | [d1, d2, d3, d4, d5, d6] => { results := [.lit (.bool true)], args := [d1, d2, d3, d4, d5, d6] }
  | _ => none }
def layoutNumbersRow : OpenClaim := { program := "ytfnlimcgoeknjaa", sum := "ce7d3d520ec1d69db2c8a3486e6b0b828d09d2ead453b1c094368f1550b12a62", func := "balise/baliselaw04.LayoutNumbers", spec := "layoutNumbers", unfollowed := true, recurses := true, apart := false }
def LayoutNumbersSaid : Prop := layoutNumbersRow.holds Try.pinned (OpenSpec.ofChange layoutNumbersSpec)

/-- ITS FALSE NEIGHBOUR: 'it returns false'. Refute it at one input. -/
def layoutNumbersWrong : ChangeSpec := { name := "layoutNumbers", fn := fun _ => fun
  | [d1, d2, d3, d4, d5, d6] => { results := [.lit (.bool false)], args := [d1, d2, d3, d4, d5, d6] }
  | _ => none }
def LayoutNumbersWrongFalsely : Prop := layoutNumbersRow.holds Try.pinned (OpenSpec.ofChange layoutNumbersWrong)

/-- 'baliselaw04.LayoutCut': WHATEVER THE INPUT: true; the input reads as it did. -/
def layoutCutSpec : ChangeSpec := { name := "layoutCut", fn := fun _ => fun
  | [d1, d2] => { results := [.lit (.bool true)], args := [d1, d2] }
  | _ => none }
def layoutCutRow : OpenClaim := { program := "ytfnlimcgoeknjaa", sum := "ce7d3d520ec1d69db2c8a3486e6b0b828d09d2ead453b1c094368f1550b12a62", func := "balise/baliselaw04.LayoutCut", spec := "layoutCut", unfollowed := true, recurses := true, apart := false }
def LayoutCutSaid : Prop := layoutCutRow.holds Try.pinned (OpenSpec.ofChange layoutCutSpec)

/-- ITS FALSE NEIGHBOUR: 'it returns false'. Refute it at one input. -/
def layoutCutWrong : ChangeSpec := { name := "layoutCut", fn := fun _ => fun
  | [d1, d2] => { results := [.lit (.bool false)], args := [d1, d2] }
  | _ => none }
def LayoutCutWrongFalsely : Prop := layoutCutRow.holds Try.pinned (OpenSpec.ofChange layoutCutWrong)

/-- 'baliselaw04.LayoutBack': WHATEVER THE INPUT: true; the input reads as it did. -/
def layoutBackSpec : ChangeSpec := { name := "layoutBack", fn := fun _ => fun
  | [d] => { results := [.lit (.bool true)], args := [d] }
  | _ => none }
def layoutBackRow : OpenClaim := { program := "ytfnlimcgoeknjaa", sum := "ce7d3d520ec1d69db2c8a3486e6b0b828d09d2ead453b1c094368f1550b12a62", func := "balise/baliselaw04.LayoutBack", spec := "layoutBack", unfollowed := true, recurses := true, apart := false }
def LayoutBackSaid : Prop := layoutBackRow.holds Try.pinned (OpenSpec.ofChange layoutBackSpec)

/-- ITS FALSE NEIGHBOUR: 'it returns false'. Refute it at one input. -/
def layoutBackWrong : ChangeSpec := { name := "layoutBack", fn := fun _ => fun
  | [d] => { results := [.lit (.bool false)], args := [d] }
  | _ => none }
def LayoutBackWrongFalsely : Prop := layoutBackRow.holds Try.pinned (OpenSpec.ofChange layoutBackWrong)

/-- 'baliselaw04.LayoutSame': WHATEVER THE INPUT: true; the input reads as it did. -/
def layoutSameSpec : ChangeSpec := { name := "layoutSame", fn := fun _ => fun
  | [d1, d2, d3] => { results := [.lit (.bool true)], args := [d1, d2, d3] }
  | _ => none }
def layoutSameRow : OpenClaim := { program := "ytfnlimcgoeknjaa", sum := "ce7d3d520ec1d69db2c8a3486e6b0b828d09d2ead453b1c094368f1550b12a62", func := "balise/baliselaw04.LayoutSame", spec := "layoutSame", unfollowed := true, recurses := true, apart := false }
def LayoutSameSaid : Prop := layoutSameRow.holds Try.pinned (OpenSpec.ofChange layoutSameSpec)

/-- ITS FALSE NEIGHBOUR: 'it returns false'. Refute it at one input. -/
def layoutSameWrong : ChangeSpec := { name := "layoutSame", fn := fun _ => fun
  | [d1, d2, d3] => { results := [.lit (.bool false)], args := [d1, d2, d3] }
  | _ => none }
def LayoutSameWrongFalsely : Prop := layoutSameRow.holds Try.pinned (OpenSpec.ofChange layoutSameWrong)

/- THE SECOND FORM. 'bulk': how many values and letters a reading holds, each counted each time it is reached (what is shared counts as often as it is met; a slice's spare places count too). A statement '..UptoSaid' is the law's where the arguments, and the package variables that the reading takes, are together of bulk at most 1048576: NARROWER than '..Said'. Prove '..Said' where nothing that the law and all that it calls make is longer than what came in: it says more and counts as full. Else prove '..UptoSaid'. A law counts once. -/
mutual
def uptoBulk {H : Type} : DataW H → Nat
  | .lit (.string bytes) => bytes.length + 1
  | .lit _ => 1
  | .nil => 1
  | .ptr d => uptoBulk d + 1
  | .slice elems spare => uptoBulkAll elems + uptoBulkAll spare + 1
  | .agg parts => uptoBulkAll parts + 1
  | .iface _ d => uptoBulk d + 1
  | .map entries => uptoBulkEntries entries + 1
  | .held _ => 1
def uptoBulkAll {H : Type} : List (DataW H) → Nat
  | [] => 0
  | d :: r => uptoBulk d + uptoBulkAll r
def uptoBulkEntries {H : Type} : List (Lit × DataW H) → Nat
  | [] => 0
  | x :: r => uptoBulkEntry x + uptoBulkEntries r
def uptoBulkEntry {H : Type} : Lit × DataW H → Nat
  | (.string bytes, d) => bytes.length + uptoBulk d + 1
  | (_, d) => uptoBulk d + 1
 end
def uptoSmall : (H : Type) → List (DataW H) → Bool := fun _ ds => decide (uptoBulkAll ds ≤ 1048576)
def OpenSpec.upto (s : _root_.Go.ChangeSpec) : _root_.Go.OpenSpec := { _root_.Go.OpenSpec.ofChange s with cond := some uptoSmall }

/-- 'baliselaw04.LayoutReads', WHERE WHAT IT READS IS OF BULK AT MOST 1048576: true; the input reads as it did. -/
def layoutReadsUptoRow : OpenClaim := { program := "ytfnlimcgoeknjaa", sum := "ce7d3d520ec1d69db2c8a3486e6b0b828d09d2ead453b1c094368f1550b12a62", func := "balise/baliselaw04.LayoutReads", spec := "layoutReads", unfollowed := true, recurses := true, apart := false, narrowed := true }
def LayoutReadsUptoSaid : Prop := layoutReadsUptoRow.holds Try.pinned (OpenSpec.upto layoutReadsSpec)

/-- 'baliselaw04.LayoutTurned', WHERE WHAT IT READS IS OF BULK AT MOST 1048576: true; the input reads as it did. -/
def layoutTurnedUptoRow : OpenClaim := { program := "ytfnlimcgoeknjaa", sum := "ce7d3d520ec1d69db2c8a3486e6b0b828d09d2ead453b1c094368f1550b12a62", func := "balise/baliselaw04.LayoutTurned", spec := "layoutTurned", unfollowed := true, recurses := true, apart := false, narrowed := true }
def LayoutTurnedUptoSaid : Prop := layoutTurnedUptoRow.holds Try.pinned (OpenSpec.upto layoutTurnedSpec)

/-- 'baliselaw04.LayoutNumbers', WHERE WHAT IT READS IS OF BULK AT MOST 1048576: true; the input reads as it did. -/
def layoutNumbersUptoRow : OpenClaim := { program := "ytfnlimcgoeknjaa", sum := "ce7d3d520ec1d69db2c8a3486e6b0b828d09d2ead453b1c094368f1550b12a62", func := "balise/baliselaw04.LayoutNumbers", spec := "layoutNumbers", unfollowed := true, recurses := true, apart := false, narrowed := true }
def LayoutNumbersUptoSaid : Prop := layoutNumbersUptoRow.holds Try.pinned (OpenSpec.upto layoutNumbersSpec)

/-- 'baliselaw04.LayoutCut', WHERE WHAT IT READS IS OF BULK AT MOST 1048576: true; the input reads as it did. -/
def layoutCutUptoRow : OpenClaim := { program := "ytfnlimcgoeknjaa", sum := "ce7d3d520ec1d69db2c8a3486e6b0b828d09d2ead453b1c094368f1550b12a62", func := "balise/baliselaw04.LayoutCut", spec := "layoutCut", unfollowed := true, recurses := true, apart := false, narrowed := true }
def LayoutCutUptoSaid : Prop := layoutCutUptoRow.holds Try.pinned (OpenSpec.upto layoutCutSpec)

/-- 'baliselaw04.LayoutBack', WHERE WHAT IT READS IS OF BULK AT MOST 1048576: true; the input reads as it did. -/
def layoutBackUptoRow : OpenClaim := { program := "ytfnlimcgoeknjaa", sum := "ce7d3d520ec1d69db2c8a3486e6b0b828d09d2ead453b1c094368f1550b12a62", func := "balise/baliselaw04.LayoutBack", spec := "layoutBack", unfollowed := true, recurses := true, apart := false, narrowed := true }
def LayoutBackUptoSaid : Prop := layoutBackUptoRow.holds Try.pinned (OpenSpec.upto layoutBackSpec)

/-- 'baliselaw04.LayoutSame', WHERE WHAT IT READS IS OF BULK AT MOST 1048576: true; the input reads as it did. -/
def layoutSameUptoRow : OpenClaim := { program := "ytfnlimcgoeknjaa", sum := "ce7d3d520ec1d69db2c8a3486e6b0b828d09d2ead453b1c094368f1550b12a62", func := "balise/baliselaw04.LayoutSame", spec := "layoutSame", unfollowed := true, recurses := true, apart := false, narrowed := true }
def LayoutSameUptoSaid : Prop := layoutSameUptoRow.holds Try.pinned (OpenSpec.upto layoutSameSpec)

end Rows
end Go.Proofs.Ytfnlimcgoeknjaa
