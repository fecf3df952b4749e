/-
  No cell of these rows narrows 'for every input' (looked for: loops, veiled, ifaces, maps, wideKeys, modest, calm, conditions, laid).
  DERIVED. THE GIVEN ROWS OF THIS SEAT. 5 by the template 'for every input the law returns true; each argument reads behind the call as it read before'; 0 by the template 'total and deterministic' (their statements: YtgmfilpbabkjeaaTotals.lean).
  GIVEN WITH THE SEED: the statements are not yours to turn. If you find one false, say at which input.
  Laid BY PROGRAM, IN A SANDBOX (cutbox-rows.mjs): the forced cells as the released guide's own fill.sh prints them over the translation 222b03f8ff1547ab… (all of the seat's roots in one cut). By AI agents, Wed Nov 11 2026. No macro, syntax, notation, axiom, sorry.
-/
import Derived.Test.YtgmfilpbabkjeaaChecked
import GoSem.Claim
import GoSem.ClaimJoined
import GoSem.ClaimMapViews
import Derived.JoinedTies
import Derived.KernelRfl
namespace Go.Proofs.Ytgmfilpbabkjeaa
/- THE CELL 'sum', in the pinned program and in every row, IS THE sha256 OF THE DUMP (.gsa) THAT YtgmfilpbabkjeaaProg.lean LOADS. Nothing in Lean hashes anything: it is a label: what it is worth is what the hold of that sum in a sandbox is worth. -/
noncomputable def Try.pinned : Pinned := { name := "ytgmfilpbabkjeaa", sum := "222b03f8ff1547abd0bdf69b58287275e2a2472bfb40fe1e9cf42e01f7bbda48", checked := Try.checked }
namespace Rows
def none {H : Type} : Left H := { results := [], args := [] }

/-- 'doormanlaw14.SpansPlay': WHATEVER THE INPUT: true; the input reads as it did. -/
def spansPlaySpec : ChangeSpec := { name := "spansPlay", fn := fun _ => fun
  | [d1, d2, d3, d4, d5] => { results := [.lit (.bool true)], args := [d1, d2, d3, d4, d5] }
  | _ => none }
def spansPlayRow : OpenClaim := { program := "ytgmfilpbabkjeaa", sum := "222b03f8ff1547abd0bdf69b58287275e2a2472bfb40fe1e9cf42e01f7bbda48", func := "doorman/doormanlaw14.SpansPlay", spec := "spansPlay", inPlace := ["slices.overlaps[string]", "internal/bytealg.abigen_runtime_cmpstring"], unfollowed := true, recurses := true, apart := false }
def SpansPlaySaid : Prop := spansPlayRow.holds Try.pinned (OpenSpec.ofChange spansPlaySpec)

/-- ITS FALSE NEIGHBOUR: 'it returns false'. Refute it at one input. -/
def spansPlayWrong : ChangeSpec := { name := "spansPlay", fn := fun _ => fun
  | [d1, d2, d3, d4, d5] => { results := [.lit (.bool false)], args := [d1, d2, d3, d4, d5] }
  | _ => none }
def SpansPlayWrongFalsely : Prop := spansPlayRow.holds Try.pinned (OpenSpec.ofChange spansPlayWrong)

/-- 'doormanlaw14.SpansLead': WHATEVER THE INPUT: true; the input reads as it did. -/
def spansLeadSpec : ChangeSpec := { name := "spansLead", fn := fun _ => fun
  | [d1, d2, d3] => { results := [.lit (.bool true)], args := [d1, d2, d3] }
  | _ => none }
def spansLeadRow : OpenClaim := { program := "ytgmfilpbabkjeaa", sum := "222b03f8ff1547abd0bdf69b58287275e2a2472bfb40fe1e9cf42e01f7bbda48", func := "doorman/doormanlaw14.SpansLead", spec := "spansLead", inPlace := ["slices.overlaps[string]", "internal/bytealg.abigen_runtime_cmpstring"], unfollowed := true, recurses := true, apart := false }
def SpansLeadSaid : Prop := spansLeadRow.holds Try.pinned (OpenSpec.ofChange spansLeadSpec)

/-- ITS FALSE NEIGHBOUR: 'it returns false'. Refute it at one input. -/
def spansLeadWrong : ChangeSpec := { name := "spansLead", fn := fun _ => fun
  | [d1, d2, d3] => { results := [.lit (.bool false)], args := [d1, d2, d3] }
  | _ => none }
def SpansLeadWrongFalsely : Prop := spansLeadRow.holds Try.pinned (OpenSpec.ofChange spansLeadWrong)

/-- 'doormanlaw14.SpansTrim': WHATEVER THE INPUT: true; the input reads as it did. -/
def spansTrimSpec : ChangeSpec := { name := "spansTrim", fn := fun _ => fun
  | [d1, d2, d3] => { results := [.lit (.bool true)], args := [d1, d2, d3] }
  | _ => none }
def spansTrimRow : OpenClaim := { program := "ytgmfilpbabkjeaa", sum := "222b03f8ff1547abd0bdf69b58287275e2a2472bfb40fe1e9cf42e01f7bbda48", func := "doorman/doormanlaw14.SpansTrim", spec := "spansTrim", inPlace := ["slices.overlaps[string]", "internal/bytealg.abigen_runtime_cmpstring"], unfollowed := true, recurses := true, apart := false }
def SpansTrimSaid : Prop := spansTrimRow.holds Try.pinned (OpenSpec.ofChange spansTrimSpec)

/-- ITS FALSE NEIGHBOUR: 'it returns false'. Refute it at one input. -/
def spansTrimWrong : ChangeSpec := { name := "spansTrim", fn := fun _ => fun
  | [d1, d2, d3] => { results := [.lit (.bool false)], args := [d1, d2, d3] }
  | _ => none }
def SpansTrimWrongFalsely : Prop := spansTrimRow.holds Try.pinned (OpenSpec.ofChange spansTrimWrong)

/-- 'doormanlaw14.SpansOnce': WHATEVER THE INPUT: true; the input reads as it did. -/
def spansOnceSpec : ChangeSpec := { name := "spansOnce", fn := fun _ => fun
  | [d1, d2, d3, d4] => { results := [.lit (.bool true)], args := [d1, d2, d3, d4] }
  | _ => none }
def spansOnceRow : OpenClaim := { program := "ytgmfilpbabkjeaa", sum := "222b03f8ff1547abd0bdf69b58287275e2a2472bfb40fe1e9cf42e01f7bbda48", func := "doorman/doormanlaw14.SpansOnce", spec := "spansOnce", inPlace := ["slices.overlaps[string]", "internal/bytealg.abigen_runtime_cmpstring"], unfollowed := true, recurses := true, apart := false }
def SpansOnceSaid : Prop := spansOnceRow.holds Try.pinned (OpenSpec.ofChange spansOnceSpec)

/-- ITS FALSE NEIGHBOUR: 'it returns false'. Refute it at one input. -/
def spansOnceWrong : ChangeSpec := { name := "spansOnce", fn := fun _ => fun
  | [d1, d2, d3, d4] => { results := [.lit (.bool false)], args := [d1, d2, d3, d4] }
  | _ => none }
def SpansOnceWrongFalsely : Prop := spansOnceRow.holds Try.pinned (OpenSpec.ofChange spansOnceWrong)

/-- 'doormanlaw14.SpansEvents': WHATEVER THE INPUT: true; the input reads as it did. -/
def spansEventsSpec : ChangeSpec := { name := "spansEvents", fn := fun _ => fun
  | [d1, d2, d3, d4] => { results := [.lit (.bool true)], args := [d1, d2, d3, d4] }
  | _ => none }
def spansEventsRow : OpenClaim := { program := "ytgmfilpbabkjeaa", sum := "222b03f8ff1547abd0bdf69b58287275e2a2472bfb40fe1e9cf42e01f7bbda48", func := "doorman/doormanlaw14.SpansEvents", spec := "spansEvents", inPlace := ["slices.overlaps[string]", "internal/bytealg.abigen_runtime_cmpstring"], unfollowed := true, recurses := true, apart := false }
def SpansEventsSaid : Prop := spansEventsRow.holds Try.pinned (OpenSpec.ofChange spansEventsSpec)

/-- ITS FALSE NEIGHBOUR: 'it returns false'. Refute it at one input. -/
def spansEventsWrong : ChangeSpec := { name := "spansEvents", fn := fun _ => fun
  | [d1, d2, d3, d4] => { results := [.lit (.bool false)], args := [d1, d2, d3, d4] }
  | _ => none }
def SpansEventsWrongFalsely : Prop := spansEventsRow.holds Try.pinned (OpenSpec.ofChange spansEventsWrong)

/- THE SECOND FORM. 'bulk': how many values and letters a reading holds, each counted each time it is reached (what is shared counts as often as it is met; a slice's spare places count too). A statement '..UptoSaid' is the law's where the arguments, and the package variables that the reading takes, are together of bulk at most 1048576: NARROWER than '..Said'. Prove '..Said' where nothing that the law and all that it calls make is longer than what came in: it says more and counts as full. Else prove '..UptoSaid'. A law counts once. -/
mutual
def uptoBulk {H : Type} : DataW H → Nat
  | .lit (.string bytes) => bytes.length + 1
  | .lit _ => 1
  | .nil => 1
  | .ptr d => uptoBulk d + 1
  | .slice elems spare => uptoBulkAll elems + uptoBulkAll spare + 1
  | .agg parts => uptoBulkAll parts + 1
  | .iface _ d => uptoBulk d + 1
  | .map entries => uptoBulkEntries entries + 1
  | .held _ => 1
def uptoBulkAll {H : Type} : List (DataW H) → Nat
  | [] => 0
  | d :: r => uptoBulk d + uptoBulkAll r
def uptoBulkEntries {H : Type} : List (Lit × DataW H) → Nat
  | [] => 0
  | x :: r => uptoBulkEntry x + uptoBulkEntries r
def uptoBulkEntry {H : Type} : Lit × DataW H → Nat
  | (.string bytes, d) => bytes.length + uptoBulk d + 1
  | (_, d) => uptoBulk d + 1
 end
def uptoSmall : (H : Type) → List (DataW H) → Bool := fun _ ds => decide (uptoBulkAll ds ≤ 1048576)
def OpenSpec.upto (s : _root_.Go.ChangeSpec) : _root_.Go.OpenSpec := { _root_.Go.OpenSpec.ofChange s with cond := some uptoSmall }

/-- 'doormanlaw14.SpansPlay', WHERE WHAT IT READS IS OF BULK AT MOST 1048576: true; the input reads as it did. -/
def spansPlayUptoRow : OpenClaim := { program := "ytgmfilpbabkjeaa", sum := "222b03f8ff1547abd0bdf69b58287275e2a2472bfb40fe1e9cf42e01f7bbda48", func := "doorman/doormanlaw14.SpansPlay", spec := "spansPlay", inPlace := ["slices.overlaps[string]", "internal/bytealg.abigen_runtime_cmpstring"], unfollowed := true, recurses := true, apart := false, narrowed := true }
def SpansPlayUptoSaid : Prop := spansPlayUptoRow.holds Try.pinned (OpenSpec.upto spansPlaySpec)

/-- 'doormanlaw14.SpansLead', WHERE WHAT IT READS IS OF BULK AT MOST 1048576: true; the input reads as it did. -/
def spansLeadUptoRow : OpenClaim := { program := "ytgmfilpbabkjeaa", sum := "222b03f8ff1547abd0bdf69b58287275e2a2472bfb40fe1e9cf42e01f7bbda48", func := "doorman/doormanlaw14.SpansLead", spec := "spansLead", inPlace := ["slices.overlaps[string]", "internal/bytealg.abigen_runtime_cmpstring"], unfollowed := true, recurses := true, apart := false, narrowed := true }
def SpansLeadUptoSaid : Prop := spansLeadUptoRow.holds Try.pinned (OpenSpec.upto spansLeadSpec)

/-- 'doormanlaw14.SpansTrim', WHERE WHAT IT READS IS OF BULK AT MOST 1048576: true; the input reads as it did. -/
def spansTrimUptoRow : OpenClaim := { program := "ytgmfilpbabkjeaa", sum := "222b03f8ff1547abd0bdf69b58287275e2a2472bfb40fe1e9cf42e01f7bbda48", func := "doorman/doormanlaw14.SpansTrim", spec := "spansTrim", inPlace := ["slices.overlaps[string]", "internal/bytealg.abigen_runtime_cmpstring"], unfollowed := true, recurses := true, apart := false, narrowed := true }
def SpansTrimUptoSaid : Prop := spansTrimUptoRow.holds Try.pinned (OpenSpec.upto spansTrimSpec)

/-- 'doormanlaw14.SpansOnce', WHERE WHAT IT READS IS OF BULK AT MOST 1048576: true; the input reads as it did. -/
def spansOnceUptoRow : OpenClaim := { program := "ytgmfilpbabkjeaa", sum := "222b03f8ff1547abd0bdf69b58287275e2a2472bfb40fe1e9cf42e01f7bbda48", func := "doorman/doormanlaw14.SpansOnce", spec := "spansOnce", inPlace := ["slices.overlaps[string]", "internal/bytealg.abigen_runtime_cmpstring"], unfollowed := true, recurses := true, apart := false, narrowed := true }
def SpansOnceUptoSaid : Prop := spansOnceUptoRow.holds Try.pinned (OpenSpec.upto spansOnceSpec)

/-- 'doormanlaw14.SpansEvents', WHERE WHAT IT READS IS OF BULK AT MOST 1048576: true; the input reads as it did. -/
def spansEventsUptoRow : OpenClaim := { program := "ytgmfilpbabkjeaa", sum := "222b03f8ff1547abd0bdf69b58287275e2a2472bfb40fe1e9cf42e01f7bbda48", func := "doorman/doormanlaw14.SpansEvents", spec := "spansEvents", inPlace := ["slices.overlaps[string]", "internal/bytealg.abigen_runtime_cmpstring"], unfollowed := true, recurses := true, apart := false, narrowed := true }
def SpansEventsUptoSaid : Prop := spansEventsUptoRow.holds Try.pinned (OpenSpec.upto spansEventsSpec)

end Rows
end Go.Proofs.Ytgmfilpbabkjeaa
