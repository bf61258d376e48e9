/-
  No cell of these rows narrows 'for every input' (looked for: loops, veiled, ifaces, maps, wideKeys, modest, calm, conditions, laid).
  DERIVED. THE GIVEN ROWS OF THIS SEAT. 5 by the template 'for every input the law returns true; each argument reads behind the call as it read before'; 0 by the template 'total and deterministic' (their statements: YtmfdehbbkeplaaaTotals.lean).
  GIVEN WITH THE SEED: the statements are not yours to turn. If you find one false, say at which input.
  Laid BY PROGRAM, IN A SANDBOX (cutbox-rows.mjs): the forced cells as the released guide's own fill.sh prints them over the translation 58eb2eb362a9e4a2… (all of the seat's roots in one cut). By AI agents, Wed Nov 11 2026. No macro, syntax, notation, axiom, sorry.
-/
import Derived.Test.YtmfdehbbkeplaaaChecked
import GoSem.Claim
import GoSem.ClaimJoined
import GoSem.ClaimMapViews
import Derived.JoinedTies
import Derived.KernelRfl
namespace Go.Proofs.Ytmfdehbbkeplaaa
/- THE CELL 'sum', in the pinned program and in every row, IS THE sha256 OF THE DUMP (.gsa) THAT YtmfdehbbkeplaaaProg.lean LOADS. Nothing in Lean hashes anything: it is a label: what it is worth is what the hold of that sum in a sandbox is worth. -/
noncomputable def Try.pinned : Pinned := { name := "ytmfdehbbkeplaaa", sum := "58eb2eb362a9e4a28895de200e4f16156e400f4a8cf6353f303de42f9b9b4508", checked := Try.checked }
namespace Rows
def none {H : Type} : Left H := { results := [], args := [] }

/-- 'baliselaw01.PlaneProducts': WHATEVER THE INPUT: true; the input reads as it did. -/
def planeProductsSpec : ChangeSpec := { name := "planeProducts", fn := fun _ => fun
  | [d1, d2, d3, d4] => { results := [.lit (.bool true)], args := [d1, d2, d3, d4] }
  | _ => none }
def planeProductsRow : OpenClaim := { program := "ytmfdehbbkeplaaa", sum := "58eb2eb362a9e4a28895de200e4f16156e400f4a8cf6353f303de42f9b9b4508", func := "balise/baliselaw01.PlaneProducts", spec := "planeProducts", inPlace := ["math.Float64bits"], apart := false }
def PlaneProductsSaid : Prop := planeProductsRow.holds Try.pinned (OpenSpec.ofChange planeProductsSpec)

/-- ITS FALSE NEIGHBOUR: 'it returns false'. Refute it at one input. -/
def planeProductsWrong : ChangeSpec := { name := "planeProducts", fn := fun _ => fun
  | [d1, d2, d3, d4] => { results := [.lit (.bool false)], args := [d1, d2, d3, d4] }
  | _ => none }
def PlaneProductsWrongFalsely : Prop := planeProductsRow.holds Try.pinned (OpenSpec.ofChange planeProductsWrong)

/-- 'baliselaw01.PlaneTurns': WHATEVER THE INPUT: true; the input reads as it did. -/
def planeTurnsSpec : ChangeSpec := { name := "planeTurns", fn := fun _ => fun
  | [d1, d2, d3, d4, d5, d6] => { results := [.lit (.bool true)], args := [d1, d2, d3, d4, d5, d6] }
  | _ => none }
def planeTurnsRow : OpenClaim := { program := "ytmfdehbbkeplaaa", sum := "58eb2eb362a9e4a28895de200e4f16156e400f4a8cf6353f303de42f9b9b4508", func := "balise/baliselaw01.PlaneTurns", spec := "planeTurns", apart := false }
def PlaneTurnsSaid : Prop := planeTurnsRow.holds Try.pinned (OpenSpec.ofChange planeTurnsSpec)

/-- ITS FALSE NEIGHBOUR: 'it returns false'. Refute it at one input. -/
def planeTurnsWrong : ChangeSpec := { name := "planeTurns", fn := fun _ => fun
  | [d1, d2, d3, d4, d5, d6] => { results := [.lit (.bool false)], args := [d1, d2, d3, d4, d5, d6] }
  | _ => none }
def PlaneTurnsWrongFalsely : Prop := planeTurnsRow.holds Try.pinned (OpenSpec.ofChange planeTurnsWrong)

/-- 'baliselaw01.PlaneQuarter': WHATEVER THE INPUT: true; the input reads as it did. -/
def planeQuarterSpec : ChangeSpec := { name := "planeQuarter", fn := fun _ => fun
  | [d1, d2, d3, d4, d5, d6] => { results := [.lit (.bool true)], args := [d1, d2, d3, d4, d5, d6] }
  | _ => none }
def planeQuarterRow : OpenClaim := { program := "ytmfdehbbkeplaaa", sum := "58eb2eb362a9e4a28895de200e4f16156e400f4a8cf6353f303de42f9b9b4508", func := "balise/baliselaw01.PlaneQuarter", spec := "planeQuarter", apart := false }
def PlaneQuarterSaid : Prop := planeQuarterRow.holds Try.pinned (OpenSpec.ofChange planeQuarterSpec)

/-- ITS FALSE NEIGHBOUR: 'it returns false'. Refute it at one input. -/
def planeQuarterWrong : ChangeSpec := { name := "planeQuarter", fn := fun _ => fun
  | [d1, d2, d3, d4, d5, d6] => { results := [.lit (.bool false)], args := [d1, d2, d3, d4, d5, d6] }
  | _ => none }
def PlaneQuarterWrongFalsely : Prop := planeQuarterRow.holds Try.pinned (OpenSpec.ofChange planeQuarterWrong)

/-- 'baliselaw01.PlanePlaces': WHATEVER THE INPUT: true; the input reads as it did. -/
def planePlacesSpec : ChangeSpec := { name := "planePlaces", fn := fun _ => fun
  | [d1, d2, d3, d4] => { results := [.lit (.bool true)], args := [d1, d2, d3, d4] }
  | _ => none }
def planePlacesRow : OpenClaim := { program := "ytmfdehbbkeplaaa", sum := "58eb2eb362a9e4a28895de200e4f16156e400f4a8cf6353f303de42f9b9b4508", func := "balise/baliselaw01.PlanePlaces", spec := "planePlaces", inPlace := ["math.Float64frombits", "math.archTrunc", "math.Float64bits"], apart := false }
def PlanePlacesSaid : Prop := planePlacesRow.holds Try.pinned (OpenSpec.ofChange planePlacesSpec)

/-- ITS FALSE NEIGHBOUR: 'it returns false'. Refute it at one input. -/
def planePlacesWrong : ChangeSpec := { name := "planePlaces", fn := fun _ => fun
  | [d1, d2, d3, d4] => { results := [.lit (.bool false)], args := [d1, d2, d3, d4] }
  | _ => none }
def PlanePlacesWrongFalsely : Prop := planePlacesRow.holds Try.pinned (OpenSpec.ofChange planePlacesWrong)

/-- 'baliselaw01.PlaneFits': WHATEVER THE INPUT: true; the input reads as it did. -/
def planeFitsSpec : ChangeSpec := { name := "planeFits", fn := fun _ => fun
  | [d1, d2, d3, d4, d5] => { results := [.lit (.bool true)], args := [d1, d2, d3, d4, d5] }
  | _ => none }
def planeFitsRow : OpenClaim := { program := "ytmfdehbbkeplaaa", sum := "58eb2eb362a9e4a28895de200e4f16156e400f4a8cf6353f303de42f9b9b4508", func := "balise/baliselaw01.PlaneFits", spec := "planeFits", inPlace := ["math.archTrunc", "math.Float64bits", "math.Float64frombits"], apart := false }
def PlaneFitsSaid : Prop := planeFitsRow.holds Try.pinned (OpenSpec.ofChange planeFitsSpec)

/-- ITS FALSE NEIGHBOUR: 'it returns false'. Refute it at one input. -/
def planeFitsWrong : ChangeSpec := { name := "planeFits", fn := fun _ => fun
  | [d1, d2, d3, d4, d5] => { results := [.lit (.bool false)], args := [d1, d2, d3, d4, d5] }
  | _ => none }
def PlaneFitsWrongFalsely : Prop := planeFitsRow.holds Try.pinned (OpenSpec.ofChange planeFitsWrong)

/- THE SECOND FORM. 'bulk': how many values and letters a reading holds, each counted each time it is reached (what is shared counts as often as it is met; a slice's spare places count too). A statement '..UptoSaid' is the law's where the arguments, and the package variables that the reading takes, are together of bulk at most 1048576: NARROWER than '..Said'. Prove '..Said' where nothing that the law and all that it calls make is longer than what came in: it says more and counts as full. Else prove '..UptoSaid'. A law counts once. -/
mutual
def uptoBulk {H : Type} : DataW H → Nat
  | .lit (.string bytes) => bytes.length + 1
  | .lit _ => 1
  | .nil => 1
  | .ptr d => uptoBulk d + 1
  | .slice elems spare => uptoBulkAll elems + uptoBulkAll spare + 1
  | .agg parts => uptoBulkAll parts + 1
  | .iface _ d => uptoBulk d + 1
  | .map entries => uptoBulkEntries entries + 1
  | .held _ => 1
def uptoBulkAll {H : Type} : List (DataW H) → Nat
  | [] => 0
  | d :: r => uptoBulk d + uptoBulkAll r
def uptoBulkEntries {H : Type} : List (Lit × DataW H) → Nat
  | [] => 0
  | x :: r => uptoBulkEntry x + uptoBulkEntries r
def uptoBulkEntry {H : Type} : Lit × DataW H → Nat
  | (.string bytes, d) => bytes.length + uptoBulk d + 1
  | (_, d) => uptoBulk d + 1
 end
def uptoSmall : (H : Type) → List (DataW H) → Bool := fun _ ds => decide (uptoBulkAll ds ≤ 1048576)
def OpenSpec.upto (s : _root_.Go.ChangeSpec) : _root_.Go.OpenSpec := { _root_.Go.OpenSpec.ofChange s with cond := some uptoSmall }

/-- 'baliselaw01.PlaneProducts', WHERE WHAT IT READS IS OF BULK AT MOST 1048576: true; the input reads as it did. -/
def planeProductsUptoRow : OpenClaim := { program := "ytmfdehbbkeplaaa", sum := "58eb2eb362a9e4a28895de200e4f16156e400f4a8cf6353f303de42f9b9b4508", func := "balise/baliselaw01.PlaneProducts", spec := "planeProducts", inPlace := ["math.Float64bits"], apart := false, narrowed := true }
def PlaneProductsUptoSaid : Prop := planeProductsUptoRow.holds Try.pinned (OpenSpec.upto planeProductsSpec)

/-- 'baliselaw01.PlaneTurns', WHERE WHAT IT READS IS OF BULK AT MOST 1048576: true; the input reads as it did. -/
def planeTurnsUptoRow : OpenClaim := { program := "ytmfdehbbkeplaaa", sum := "58eb2eb362a9e4a28895de200e4f16156e400f4a8cf6353f303de42f9b9b4508", func := "balise/baliselaw01.PlaneTurns", spec := "planeTurns", apart := false, narrowed := true }
def PlaneTurnsUptoSaid : Prop := planeTurnsUptoRow.holds Try.pinned (OpenSpec.upto planeTurnsSpec)

/-- 'baliselaw01.PlaneQuarter', WHERE WHAT IT READS IS OF BULK AT MOST 1048576: true; the input reads as it did. -/
def planeQuarterUptoRow : OpenClaim := { program := "ytmfdehbbkeplaaa", sum := "58eb2eb362a9e4a28895de200e4f16156e400f4a8cf6353f303de42f9b9b4508", func := "balise/baliselaw01.PlaneQuarter", spec := "planeQuarter", apart := false, narrowed := true }
def PlaneQuarterUptoSaid : Prop := planeQuarterUptoRow.holds Try.pinned (OpenSpec.upto planeQuarterSpec)

/-- 'baliselaw01.PlanePlaces', WHERE WHAT IT READS IS OF BULK AT MOST 1048576: true; the input reads as it did. -/
def planePlacesUptoRow : OpenClaim := { program := "ytmfdehbbkeplaaa", sum := "58eb2eb362a9e4a28895de200e4f16156e400f4a8cf6353f303de42f9b9b4508", func := "balise/baliselaw01.PlanePlaces", spec := "planePlaces", inPlace := ["math.Float64frombits", "math.archTrunc", "math.Float64bits"], apart := false, narrowed := true }
def PlanePlacesUptoSaid : Prop := planePlacesUptoRow.holds Try.pinned (OpenSpec.upto planePlacesSpec)

/-- 'baliselaw01.PlaneFits', WHERE WHAT IT READS IS OF BULK AT MOST 1048576: true; the input reads as it did. -/
def planeFitsUptoRow : OpenClaim := { program := "ytmfdehbbkeplaaa", sum := "58eb2eb362a9e4a28895de200e4f16156e400f4a8cf6353f303de42f9b9b4508", func := "balise/baliselaw01.PlaneFits", spec := "planeFits", inPlace := ["math.archTrunc", "math.Float64bits", "math.Float64frombits"], apart := false, narrowed := true }
def PlaneFitsUptoSaid : Prop := planeFitsUptoRow.holds Try.pinned (OpenSpec.upto planeFitsSpec)

end Rows
end Go.Proofs.Ytmfdehbbkeplaaa
