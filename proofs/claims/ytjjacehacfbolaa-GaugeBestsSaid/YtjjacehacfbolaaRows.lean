/-
  No cell of these rows narrows 'for every input' (looked for: loops, veiled, ifaces, maps, wideKeys, modest, calm, conditions, laid).
  DERIVED. THE GIVEN ROWS OF THIS SEAT. 3 by the template 'for every input the law returns true; each argument reads behind the call as it read before'; 0 by the template 'total and deterministic' (their statements: YtjjacehacfbolaaTotals.lean).
  GIVEN WITH THE SEED: the statements are not yours to turn. If you find one false, say at which input.
  Laid BY PROGRAM, IN A SANDBOX (cutbox-rows.mjs): the forced cells as the released guide's own fill.sh prints them over the translation 378ab5bfbcf2464d… (all of the seat's roots in one cut). By AI agents, Wed Nov 11 2026. No macro, syntax, notation, axiom, sorry.
-/
import Derived.Test.YtjjacehacfbolaaChecked
import GoSem.Claim
import GoSem.ClaimJoined
import GoSem.ClaimMapViews
import Derived.JoinedTies
import Derived.KernelRfl
namespace Go.Proofs.Ytjjacehacfbolaa
/- THE CELL 'sum', in the pinned program and in every row, IS THE sha256 OF THE DUMP (.gsa) THAT YtjjacehacfbolaaProg.lean LOADS. Nothing in Lean hashes anything: it is a label: what it is worth is what the hold of that sum in a sandbox is worth. -/
noncomputable def Try.pinned : Pinned := { name := "ytjjacehacfbolaa", sum := "378ab5bfbcf2464d6e9f8f859d97e87c3182c28a2fa953c0791cf24f7b3d3b48", checked := Try.checked }
namespace Rows
def none {H : Type} : Left H := { results := [], args := [] }

/-- 'remitlaw23.GaugeOrder': WHATEVER THE INPUT: true; the input reads as it did. -/
def gaugeOrderSpec : ChangeSpec := { name := "gaugeOrder", fn := fun _ => fun
  | [d1, d2, d3, d4] => { results := [.lit (.bool true)], args := [d1, d2, d3, d4] }
  | _ => none }
def gaugeOrderRow : OpenClaim := { program := "ytjjacehacfbolaa", sum := "378ab5bfbcf2464d6e9f8f859d97e87c3182c28a2fa953c0791cf24f7b3d3b48", func := "remit/remitlaw23.GaugeOrder", spec := "gaugeOrder", inPlace := ["math.Float32frombits"], apart := false }
def GaugeOrderSaid : Prop := gaugeOrderRow.holds Try.pinned (OpenSpec.ofChange gaugeOrderSpec)

/-- ITS FALSE NEIGHBOUR: 'it returns false'. Refute it at one input. -/
def gaugeOrderWrong : ChangeSpec := { name := "gaugeOrder", fn := fun _ => fun
  | [d1, d2, d3, d4] => { results := [.lit (.bool false)], args := [d1, d2, d3, d4] }
  | _ => none }
def GaugeOrderWrongFalsely : Prop := gaugeOrderRow.holds Try.pinned (OpenSpec.ofChange gaugeOrderWrong)

/-- 'remitlaw23.GaugeChoice': WHATEVER THE INPUT: true; the input reads as it did. -/
def gaugeChoiceSpec : ChangeSpec := { name := "gaugeChoice", fn := fun _ => fun
  | [d1, d2, d3] => { results := [.lit (.bool true)], args := [d1, d2, d3] }
  | _ => none }
def gaugeChoiceRow : OpenClaim := { program := "ytjjacehacfbolaa", sum := "378ab5bfbcf2464d6e9f8f859d97e87c3182c28a2fa953c0791cf24f7b3d3b48", func := "remit/remitlaw23.GaugeChoice", spec := "gaugeChoice", inPlace := ["math.Float32frombits"], apart := false }
def GaugeChoiceSaid : Prop := gaugeChoiceRow.holds Try.pinned (OpenSpec.ofChange gaugeChoiceSpec)

/-- ITS FALSE NEIGHBOUR: 'it returns false'. Refute it at one input. -/
def gaugeChoiceWrong : ChangeSpec := { name := "gaugeChoice", fn := fun _ => fun
  | [d1, d2, d3] => { results := [.lit (.bool false)], args := [d1, d2, d3] }
  | _ => none }
def GaugeChoiceWrongFalsely : Prop := gaugeChoiceRow.holds Try.pinned (OpenSpec.ofChange gaugeChoiceWrong)

/-- 'remitlaw23.GaugeBests': WHATEVER THE INPUT: true; the input reads as it did. -/
def gaugeBestsSpec : ChangeSpec := { name := "gaugeBests", fn := fun _ => fun
  | [d1, d2] => { results := [.lit (.bool true)], args := [d1, d2] }
  | _ => none }
def gaugeBestsRow : OpenClaim := { program := "ytjjacehacfbolaa", sum := "378ab5bfbcf2464d6e9f8f859d97e87c3182c28a2fa953c0791cf24f7b3d3b48", func := "remit/remitlaw23.GaugeBests", spec := "gaugeBests", inPlace := ["math.Float32frombits", "math.Float32bits"], apart := false }
def GaugeBestsSaid : Prop := gaugeBestsRow.holds Try.pinned (OpenSpec.ofChange gaugeBestsSpec)

/-- ITS FALSE NEIGHBOUR: 'it returns false'. Refute it at one input. -/
def gaugeBestsWrong : ChangeSpec := { name := "gaugeBests", fn := fun _ => fun
  | [d1, d2] => { results := [.lit (.bool false)], args := [d1, d2] }
  | _ => none }
def GaugeBestsWrongFalsely : Prop := gaugeBestsRow.holds Try.pinned (OpenSpec.ofChange gaugeBestsWrong)

/- THE SECOND FORM. 'bulk': how many values and letters a reading holds, each counted each time it is reached (what is shared counts as often as it is met; a slice's spare places count too). A statement '..UptoSaid' is the law's where the arguments, and the package variables that the reading takes, are together of bulk at most 1048576: NARROWER than '..Said'. Prove '..Said' where nothing that the law and all that it calls make is longer than what came in: it says more and counts as full. Else prove '..UptoSaid'. A law counts once. -/
mutual
def uptoBulk {H : Type} : DataW H → Nat
  | .lit (.string bytes) => bytes.length + 1
  | .lit _ => 1
  | .nil => 1
  | .ptr d => uptoBulk d + 1
  | .slice elems spare => uptoBulkAll elems + uptoBulkAll spare + 1
  | .agg parts => uptoBulkAll parts + 1
  | .iface _ d => uptoBulk d + 1
  | .map entries => uptoBulkEntries entries + 1
  | .held _ => 1
def uptoBulkAll {H : Type} : List (DataW H) → Nat
  | [] => 0
  | d :: r => uptoBulk d + uptoBulkAll r
def uptoBulkEntries {H : Type} : List (Lit × DataW H) → Nat
  | [] => 0
  | x :: r => uptoBulkEntry x + uptoBulkEntries r
def uptoBulkEntry {H : Type} : Lit × DataW H → Nat
  | (.string bytes, d) => bytes.length + uptoBulk d + 1
  | (_, d) => uptoBulk d + 1
 end
def uptoSmall : (H : Type) → List (DataW H) → Bool := fun _ ds => decide (uptoBulkAll ds ≤ 1048576)
def OpenSpec.upto (s : _root_.Go.ChangeSpec) : _root_.Go.OpenSpec := { _root_.Go.OpenSpec.ofChange s with cond := some uptoSmall }

/-- 'remitlaw23.GaugeOrder', WHERE WHAT IT READS IS OF BULK AT MOST 1048576: true; the input reads as it did. -/
def gaugeOrderUptoRow : OpenClaim := { program := "ytjjacehacfbolaa", sum := "378ab5bfbcf2464d6e9f8f859d97e87c3182c28a2fa953c0791cf24f7b3d3b48", func := "remit/remitlaw23.GaugeOrder", spec := "gaugeOrder", inPlace := ["math.Float32frombits"], apart := false, narrowed := true }
def GaugeOrderUptoSaid : Prop := gaugeOrderUptoRow.holds Try.pinned (OpenSpec.upto gaugeOrderSpec)

/-- 'remitlaw23.GaugeChoice', WHERE WHAT IT READS IS OF BULK AT MOST 1048576: true; the input reads as it did. -/
def gaugeChoiceUptoRow : OpenClaim := { program := "ytjjacehacfbolaa", sum := "378ab5bfbcf2464d6e9f8f859d97e87c3182c28a2fa953c0791cf24f7b3d3b48", func := "remit/remitlaw23.GaugeChoice", spec := "gaugeChoice", inPlace := ["math.Float32frombits"], apart := false, narrowed := true }
def GaugeChoiceUptoSaid : Prop := gaugeChoiceUptoRow.holds Try.pinned (OpenSpec.upto gaugeChoiceSpec)

/-- 'remitlaw23.GaugeBests', WHERE WHAT IT READS IS OF BULK AT MOST 1048576: true; the input reads as it did. -/
def gaugeBestsUptoRow : OpenClaim := { program := "ytjjacehacfbolaa", sum := "378ab5bfbcf2464d6e9f8f859d97e87c3182c28a2fa953c0791cf24f7b3d3b48", func := "remit/remitlaw23.GaugeBests", spec := "gaugeBests", inPlace := ["math.Float32frombits", "math.Float32bits"], apart := false, narrowed := true }
def GaugeBestsUptoSaid : Prop := gaugeBestsUptoRow.holds Try.pinned (OpenSpec.upto gaugeBestsSpec)

end Rows
end Go.Proofs.Ytjjacehacfbolaa
