/-
  No cell of these rows narrows 'for every input' (looked for: loops, veiled, ifaces, maps, wideKeys, modest, calm, conditions, laid).
  DERIVED. THE GIVEN ROWS OF THIS SEAT. 5 by the template 'for every input the law returns true; each argument reads behind the call as it read before'; 0 by the template 'total and deterministic' (their statements: YtpbkbkbifidbpaaTotals.lean).
  GIVEN WITH THE SEED: the statements are not yours to turn. If you find one false, say at which input.
  Laid BY PROGRAM, IN A SANDBOX (cutbox-rows.mjs): the forced cells as the released guide's own fill.sh prints them over the translation c76289da1d19197f… (all of the seat's roots in one cut). By AI agents, Wed Nov 11 2026. No macro, syntax, notation, axiom, sorry.
-/
import Derived.Test.YtpbkbkbifidbpaaChecked
import GoSem.Claim
import GoSem.ClaimJoined
import GoSem.ClaimMapViews
import Derived.JoinedTies
import Derived.KernelRfl
namespace Go.Proofs.Ytpbkbkbifidbpaa
/- THE CELL 'sum', in the pinned program and in every row, IS THE sha256 OF THE DUMP (.gsa) THAT YtpbkbkbifidbpaaProg.lean LOADS. Nothing in Lean hashes anything: it is a label: what it is worth is what the hold of that sum in a sandbox is worth. -/
noncomputable def Try.pinned : Pinned := { name := "ytpbkbkbifidbpaa", sum := "c76289da1d19197ffa7b7a5e1ec67955c1a0d29098111b617a32a908daceb7a4", checked := Try.checked }
namespace Rows
def none {H : Type} : Left H := { results := [], args := [] }

/-- 'baliselaw09.DetectPlays': WHATEVER THE INPUT: true; the input reads as it did. -/
def detectPlaysSpec : ChangeSpec := { name := "detectPlays", fn := fun _ => fun
  | [d1, d2, d3] => { results := [.lit (.bool true)], args := [d1, d2, d3] }
  | _ => none }
def detectPlaysRow : OpenClaim := { program := "ytpbkbkbifidbpaa", sum := "c76289da1d19197ffa7b7a5e1ec67955c1a0d29098111b617a32a908daceb7a4", func := "balise/baliselaw09.DetectPlays", spec := "detectPlays", apart := false }
def DetectPlaysSaid : Prop := detectPlaysRow.holds Try.pinned (OpenSpec.ofChange detectPlaysSpec)

/-- ITS FALSE NEIGHBOUR: 'it returns false'. Refute it at one input. -/
def detectPlaysWrong : ChangeSpec := { name := "detectPlays", fn := fun _ => fun
  | [d1, d2, d3] => { results := [.lit (.bool false)], args := [d1, d2, d3] }
  | _ => none }
def DetectPlaysWrongFalsely : Prop := detectPlaysRow.holds Try.pinned (OpenSpec.ofChange detectPlaysWrong)

/-- 'baliselaw09.DetectLong': WHATEVER THE INPUT: true; the input reads as it did. -/
def detectLongSpec : ChangeSpec := { name := "detectLong", fn := fun _ => fun
  | [d1, d2, d3] => { results := [.lit (.bool true)], args := [d1, d2, d3] }
  | _ => none }
def detectLongRow : OpenClaim := { program := "ytpbkbkbifidbpaa", sum := "c76289da1d19197ffa7b7a5e1ec67955c1a0d29098111b617a32a908daceb7a4", func := "balise/baliselaw09.DetectLong", spec := "detectLong", apart := false }
def DetectLongSaid : Prop := detectLongRow.holds Try.pinned (OpenSpec.ofChange detectLongSpec)

/-- ITS FALSE NEIGHBOUR: 'it returns false'. Refute it at one input. -/
def detectLongWrong : ChangeSpec := { name := "detectLong", fn := fun _ => fun
  | [d1, d2, d3] => { results := [.lit (.bool false)], args := [d1, d2, d3] }
  | _ => none }
def DetectLongWrongFalsely : Prop := detectLongRow.holds Try.pinned (OpenSpec.ofChange detectLongWrong)

/-- 'baliselaw09.DetectSure': WHATEVER THE INPUT: true; the input reads as it did. -/
def detectSureSpec : ChangeSpec := { name := "detectSure", fn := fun _ => fun
  | [d1, d2] => { results := [.lit (.bool true)], args := [d1, d2] }
  | _ => none }
def detectSureRow : OpenClaim := { program := "ytpbkbkbifidbpaa", sum := "c76289da1d19197ffa7b7a5e1ec67955c1a0d29098111b617a32a908daceb7a4", func := "balise/baliselaw09.DetectSure", spec := "detectSure", apart := false }
def DetectSureSaid : Prop := detectSureRow.holds Try.pinned (OpenSpec.ofChange detectSureSpec)

/-- ITS FALSE NEIGHBOUR: 'it returns false'. Refute it at one input. -/
def detectSureWrong : ChangeSpec := { name := "detectSure", fn := fun _ => fun
  | [d1, d2] => { results := [.lit (.bool false)], args := [d1, d2] }
  | _ => none }
def DetectSureWrongFalsely : Prop := detectSureRow.holds Try.pinned (OpenSpec.ofChange detectSureWrong)

/-- 'baliselaw09.DetectNil': WHATEVER THE INPUT: true; the input reads as it did. -/
def detectNilSpec : ChangeSpec := { name := "detectNil", fn := fun _ => fun
  | [d1, d2] => { results := [.lit (.bool true)], args := [d1, d2] }
  | _ => none }
def detectNilRow : OpenClaim := { program := "ytpbkbkbifidbpaa", sum := "c76289da1d19197ffa7b7a5e1ec67955c1a0d29098111b617a32a908daceb7a4", func := "balise/baliselaw09.DetectNil", spec := "detectNil", apart := false }
def DetectNilSaid : Prop := detectNilRow.holds Try.pinned (OpenSpec.ofChange detectNilSpec)

/-- ITS FALSE NEIGHBOUR: 'it returns false'. Refute it at one input. -/
def detectNilWrong : ChangeSpec := { name := "detectNil", fn := fun _ => fun
  | [d1, d2] => { results := [.lit (.bool false)], args := [d1, d2] }
  | _ => none }
def DetectNilWrongFalsely : Prop := detectNilRow.holds Try.pinned (OpenSpec.ofChange detectNilWrong)

/-- 'baliselaw09.DetectApart': WHATEVER THE INPUT: true; the input reads as it did. -/
def detectApartSpec : ChangeSpec := { name := "detectApart", fn := fun _ => fun
  | [d1, d2, d3, d4] => { results := [.lit (.bool true)], args := [d1, d2, d3, d4] }
  | _ => none }
def detectApartRow : OpenClaim := { program := "ytpbkbkbifidbpaa", sum := "c76289da1d19197ffa7b7a5e1ec67955c1a0d29098111b617a32a908daceb7a4", func := "balise/baliselaw09.DetectApart", spec := "detectApart", apart := false }
def DetectApartSaid : Prop := detectApartRow.holds Try.pinned (OpenSpec.ofChange detectApartSpec)

/-- ITS FALSE NEIGHBOUR: 'it returns false'. Refute it at one input. -/
def detectApartWrong : ChangeSpec := { name := "detectApart", fn := fun _ => fun
  | [d1, d2, d3, d4] => { results := [.lit (.bool false)], args := [d1, d2, d3, d4] }
  | _ => none }
def DetectApartWrongFalsely : Prop := detectApartRow.holds Try.pinned (OpenSpec.ofChange detectApartWrong)

/- THE SECOND FORM. 'bulk': how many values and letters a reading holds, each counted each time it is reached (what is shared counts as often as it is met; a slice's spare places count too). A statement '..UptoSaid' is the law's where the arguments, and the package variables that the reading takes, are together of bulk at most 1048576: NARROWER than '..Said'. Prove '..Said' where nothing that the law and all that it calls make is longer than what came in: it says more and counts as full. Else prove '..UptoSaid'. A law counts once. -/
mutual
def uptoBulk {H : Type} : DataW H → Nat
  | .lit (.string bytes) => bytes.length + 1
  | .lit _ => 1
  | .nil => 1
  | .ptr d => uptoBulk d + 1
  | .slice elems spare => uptoBulkAll elems + uptoBulkAll spare + 1
  | .agg parts => uptoBulkAll parts + 1
  | .iface _ d => uptoBulk d + 1
  | .map entries => uptoBulkEntries entries + 1
  | .held _ => 1
def uptoBulkAll {H : Type} : List (DataW H) → Nat
  | [] => 0
  | d :: r => uptoBulk d + uptoBulkAll r
def uptoBulkEntries {H : Type} : List (Lit × DataW H) → Nat
  | [] => 0
  | x :: r => uptoBulkEntry x + uptoBulkEntries r
def uptoBulkEntry {H : Type} : Lit × DataW H → Nat
  | (.string bytes, d) => bytes.length + uptoBulk d + 1
  | (_, d) => uptoBulk d + 1
 end
def uptoSmall : (H : Type) → List (DataW H) → Bool := fun _ ds => decide (uptoBulkAll ds ≤ 1048576)
def OpenSpec.upto (s : _root_.Go.ChangeSpec) : _root_.Go.OpenSpec := { _root_.Go.OpenSpec.ofChange s with cond := some uptoSmall }

/-- 'baliselaw09.DetectPlays', WHERE WHAT IT READS IS OF BULK AT MOST 1048576: true; the input reads as it did. -/
def detectPlaysUptoRow : OpenClaim := { program := "ytpbkbkbifidbpaa", sum := "c76289da1d19197ffa7b7a5e1ec67955c1a0d29098111b617a32a908daceb7a4", func := "balise/baliselaw09.DetectPlays", spec := "detectPlays", apart := false, narrowed := true }
def DetectPlaysUptoSaid : Prop := detectPlaysUptoRow.holds Try.pinned (OpenSpec.upto detectPlaysSpec)

/-- 'baliselaw09.DetectLong', WHERE WHAT IT READS IS OF BULK AT MOST 1048576: true; the input reads as it did. -/
def detectLongUptoRow : OpenClaim := { program := "ytpbkbkbifidbpaa", sum := "c76289da1d19197ffa7b7a5e1ec67955c1a0d29098111b617a32a908daceb7a4", func := "balise/baliselaw09.DetectLong", spec := "detectLong", apart := false, narrowed := true }
def DetectLongUptoSaid : Prop := detectLongUptoRow.holds Try.pinned (OpenSpec.upto detectLongSpec)

/-- 'baliselaw09.DetectSure', WHERE WHAT IT READS IS OF BULK AT MOST 1048576: true; the input reads as it did. -/
def detectSureUptoRow : OpenClaim := { program := "ytpbkbkbifidbpaa", sum := "c76289da1d19197ffa7b7a5e1ec67955c1a0d29098111b617a32a908daceb7a4", func := "balise/baliselaw09.DetectSure", spec := "detectSure", apart := false, narrowed := true }
def DetectSureUptoSaid : Prop := detectSureUptoRow.holds Try.pinned (OpenSpec.upto detectSureSpec)

/-- 'baliselaw09.DetectNil', WHERE WHAT IT READS IS OF BULK AT MOST 1048576: true; the input reads as it did. -/
def detectNilUptoRow : OpenClaim := { program := "ytpbkbkbifidbpaa", sum := "c76289da1d19197ffa7b7a5e1ec67955c1a0d29098111b617a32a908daceb7a4", func := "balise/baliselaw09.DetectNil", spec := "detectNil", apart := false, narrowed := true }
def DetectNilUptoSaid : Prop := detectNilUptoRow.holds Try.pinned (OpenSpec.upto detectNilSpec)

/-- 'baliselaw09.DetectApart', WHERE WHAT IT READS IS OF BULK AT MOST 1048576: true; the input reads as it did. -/
def detectApartUptoRow : OpenClaim := { program := "ytpbkbkbifidbpaa", sum := "c76289da1d19197ffa7b7a5e1ec67955c1a0d29098111b617a32a908daceb7a4", func := "balise/baliselaw09.DetectApart", spec := "detectApart", apart := false, narrowed := true }
def DetectApartUptoSaid : Prop := detectApartUptoRow.holds Try.pinned (OpenSpec.upto detectApartSpec)

end Rows
end Go.Proofs.Ytpbkbkbifidbpaa
