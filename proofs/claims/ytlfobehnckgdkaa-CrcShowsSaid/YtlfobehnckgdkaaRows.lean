/-
  No cell of these rows narrows 'for every input' (looked for: loops, veiled, ifaces, maps, wideKeys, modest, calm, conditions, laid).
  DERIVED. THE GIVEN ROWS OF THIS SEAT. 4 by the template 'for every input the law returns true; each argument reads behind the call as it read before'; 0 by the template 'total and deterministic' (their statements: YtlfobehnckgdkaaTotals.lean).
  GIVEN WITH THE SEED: the statements are not yours to turn. If you find one false, say at which input.
  Laid BY PROGRAM, IN A SANDBOX (cutbox-rows.mjs): the forced cells as the released guide's own fill.sh prints them over the translation 988944254424d2f1… (all of the seat's roots in one cut). By AI agents, Wed Nov 11 2026. No macro, syntax, notation, axiom, sorry.
-/
import Derived.Test.YtlfobehnckgdkaaChecked
import GoSem.Claim
import GoSem.ClaimJoined
import GoSem.ClaimMapViews
import Derived.JoinedTies
import Derived.KernelRfl
namespace Go.Proofs.Ytlfobehnckgdkaa
/- THE CELL 'sum', in the pinned program and in every row, IS THE sha256 OF THE DUMP (.gsa) THAT YtlfobehnckgdkaaProg.lean LOADS. Nothing in Lean hashes anything: it is a label: what it is worth is what the hold of that sum in a sandbox is worth. -/
noncomputable def Try.pinned : Pinned := { name := "ytlfobehnckgdkaa", sum := "988944254424d2f11b450185201e22797610b70d561264f4982d8d17e8236ad9", checked := Try.checked }
namespace Rows
def none {H : Type} : Left H := { results := [], args := [] }

/-- 'baliselaw03.CrcOf': WHATEVER THE INPUT: true; the input reads as it did. -/
def crcOfSpec : ChangeSpec := { name := "crcOf", fn := fun _ => fun
  | [d] => { results := [.lit (.bool true)], args := [d] }
  | _ => none }
def crcOfRow : OpenClaim := { program := "ytlfobehnckgdkaa", sum := "988944254424d2f11b450185201e22797610b70d561264f4982d8d17e8236ad9", func := "balise/baliselaw03.CrcOf", spec := "crcOf", apart := false }
def CrcOfSaid : Prop := crcOfRow.holds Try.pinned (OpenSpec.ofChange crcOfSpec)

/-- ITS FALSE NEIGHBOUR: 'it returns false'. Refute it at one input. -/
def crcOfWrong : ChangeSpec := { name := "crcOf", fn := fun _ => fun
  | [d] => { results := [.lit (.bool false)], args := [d] }
  | _ => none }
def CrcOfWrongFalsely : Prop := crcOfRow.holds Try.pinned (OpenSpec.ofChange crcOfWrong)

/-- 'baliselaw03.CrcOpens': WHATEVER THE INPUT: true; the input reads as it did. -/
def crcOpensSpec : ChangeSpec := { name := "crcOpens", fn := fun _ => fun
  | [d] => { results := [.lit (.bool true)], args := [d] }
  | _ => none }
def crcOpensRow : OpenClaim := { program := "ytlfobehnckgdkaa", sum := "988944254424d2f11b450185201e22797610b70d561264f4982d8d17e8236ad9", func := "balise/baliselaw03.CrcOpens", spec := "crcOpens", apart := false }
def CrcOpensSaid : Prop := crcOpensRow.holds Try.pinned (OpenSpec.ofChange crcOpensSpec)

/-- ITS FALSE NEIGHBOUR: 'it returns false'. Refute it at one input. -/
def crcOpensWrong : ChangeSpec := { name := "crcOpens", fn := fun _ => fun
  | [d] => { results := [.lit (.bool false)], args := [d] }
  | _ => none }
def CrcOpensWrongFalsely : Prop := crcOpensRow.holds Try.pinned (OpenSpec.ofChange crcOpensWrong)

/-- 'baliselaw03.CrcShows': WHATEVER THE INPUT: true; the input reads as it did. -/
def crcShowsSpec : ChangeSpec := { name := "crcShows", fn := fun _ => fun
  | [d1, d2, d3] => { results := [.lit (.bool true)], args := [d1, d2, d3] }
  | _ => none }
def crcShowsRow : OpenClaim := { program := "ytlfobehnckgdkaa", sum := "988944254424d2f11b450185201e22797610b70d561264f4982d8d17e8236ad9", func := "balise/baliselaw03.CrcShows", spec := "crcShows", apart := false }
def CrcShowsSaid : Prop := crcShowsRow.holds Try.pinned (OpenSpec.ofChange crcShowsSpec)

/-- ITS FALSE NEIGHBOUR: 'it returns false'. Refute it at one input. -/
def crcShowsWrong : ChangeSpec := { name := "crcShows", fn := fun _ => fun
  | [d1, d2, d3] => { results := [.lit (.bool false)], args := [d1, d2, d3] }
  | _ => none }
def CrcShowsWrongFalsely : Prop := crcShowsRow.holds Try.pinned (OpenSpec.ofChange crcShowsWrong)

/-- 'baliselaw03.CrcNoughts': WHATEVER THE INPUT: true; the input reads as it did. -/
def crcNoughtsSpec : ChangeSpec := { name := "crcNoughts", fn := fun _ => fun
  | [d1, d2, d3] => { results := [.lit (.bool true)], args := [d1, d2, d3] }
  | _ => none }
def crcNoughtsRow : OpenClaim := { program := "ytlfobehnckgdkaa", sum := "988944254424d2f11b450185201e22797610b70d561264f4982d8d17e8236ad9", func := "balise/baliselaw03.CrcNoughts", spec := "crcNoughts", apart := false }
def CrcNoughtsSaid : Prop := crcNoughtsRow.holds Try.pinned (OpenSpec.ofChange crcNoughtsSpec)

/-- ITS FALSE NEIGHBOUR: 'it returns false'. Refute it at one input. -/
def crcNoughtsWrong : ChangeSpec := { name := "crcNoughts", fn := fun _ => fun
  | [d1, d2, d3] => { results := [.lit (.bool false)], args := [d1, d2, d3] }
  | _ => none }
def CrcNoughtsWrongFalsely : Prop := crcNoughtsRow.holds Try.pinned (OpenSpec.ofChange crcNoughtsWrong)

/- THE SECOND FORM. 'bulk': how many values and letters a reading holds, each counted each time it is reached (what is shared counts as often as it is met; a slice's spare places count too). A statement '..UptoSaid' is the law's where the arguments, and the package variables that the reading takes, are together of bulk at most 1048576: NARROWER than '..Said'. Prove '..Said' where nothing that the law and all that it calls make is longer than what came in: it says more and counts as full. Else prove '..UptoSaid'. A law counts once. -/
mutual
def uptoBulk {H : Type} : DataW H → Nat
  | .lit (.string bytes) => bytes.length + 1
  | .lit _ => 1
  | .nil => 1
  | .ptr d => uptoBulk d + 1
  | .slice elems spare => uptoBulkAll elems + uptoBulkAll spare + 1
  | .agg parts => uptoBulkAll parts + 1
  | .iface _ d => uptoBulk d + 1
  | .map entries => uptoBulkEntries entries + 1
  | .held _ => 1
def uptoBulkAll {H : Type} : List (DataW H) → Nat
  | [] => 0
  | d :: r => uptoBulk d + uptoBulkAll r
def uptoBulkEntries {H : Type} : List (Lit × DataW H) → Nat
  | [] => 0
  | x :: r => uptoBulkEntry x + uptoBulkEntries r
def uptoBulkEntry {H : Type} : Lit × DataW H → Nat
  | (.string bytes, d) => bytes.length + uptoBulk d + 1
  | (_, d) => uptoBulk d + 1
 end
def uptoSmall : (H : Type) → List (DataW H) → Bool := fun _ ds => decide (uptoBulkAll ds ≤ 1048576)
def OpenSpec.upto (s : _root_.Go.ChangeSpec) : _root_.Go.OpenSpec := { _root_.Go.OpenSpec.ofChange s with cond := some uptoSmall }

/-- 'baliselaw03.CrcOf', WHERE WHAT IT READS IS OF BULK AT MOST 1048576: true; the input reads as it did. -/
def crcOfUptoRow : OpenClaim := { program := "ytlfobehnckgdkaa", sum := "988944254424d2f11b450185201e22797610b70d561264f4982d8d17e8236ad9", func := "balise/baliselaw03.CrcOf", spec := "crcOf", apart := false, narrowed := true }
def CrcOfUptoSaid : Prop := crcOfUptoRow.holds Try.pinned (OpenSpec.upto crcOfSpec)

/-- 'baliselaw03.CrcOpens', WHERE WHAT IT READS IS OF BULK AT MOST 1048576: true; the input reads as it did. -/
def crcOpensUptoRow : OpenClaim := { program := "ytlfobehnckgdkaa", sum := "988944254424d2f11b450185201e22797610b70d561264f4982d8d17e8236ad9", func := "balise/baliselaw03.CrcOpens", spec := "crcOpens", apart := false, narrowed := true }
def CrcOpensUptoSaid : Prop := crcOpensUptoRow.holds Try.pinned (OpenSpec.upto crcOpensSpec)

/-- 'baliselaw03.CrcShows', WHERE WHAT IT READS IS OF BULK AT MOST 1048576: true; the input reads as it did. -/
def crcShowsUptoRow : OpenClaim := { program := "ytlfobehnckgdkaa", sum := "988944254424d2f11b450185201e22797610b70d561264f4982d8d17e8236ad9", func := "balise/baliselaw03.CrcShows", spec := "crcShows", apart := false, narrowed := true }
def CrcShowsUptoSaid : Prop := crcShowsUptoRow.holds Try.pinned (OpenSpec.upto crcShowsSpec)

/-- 'baliselaw03.CrcNoughts', WHERE WHAT IT READS IS OF BULK AT MOST 1048576: true; the input reads as it did. -/
def crcNoughtsUptoRow : OpenClaim := { program := "ytlfobehnckgdkaa", sum := "988944254424d2f11b450185201e22797610b70d561264f4982d8d17e8236ad9", func := "balise/baliselaw03.CrcNoughts", spec := "crcNoughts", apart := false, narrowed := true }
def CrcNoughtsUptoSaid : Prop := crcNoughtsUptoRow.holds Try.pinned (OpenSpec.upto crcNoughtsSpec)

end Rows
end Go.Proofs.Ytlfobehnckgdkaa
