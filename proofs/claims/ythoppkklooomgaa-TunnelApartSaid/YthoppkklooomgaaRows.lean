/-
  No cell of these rows narrows 'for every input' (looked for: loops, veiled, ifaces, maps, wideKeys, modest, calm, conditions, laid).
  DERIVED. THE GIVEN ROWS OF THIS SEAT. 6 by the template 'for every input the law returns true; each argument reads behind the call as it read before'; 0 by the template 'total and deterministic' (their statements: YthoppkklooomgaaTotals.lean).
  GIVEN WITH THE SEED: the statements are not yours to turn. If you find one false, say at which input.
  Laid BY PROGRAM, IN A SANDBOX (cutbox-rows.mjs): the forced cells as the released guide's own fill.sh prints them over the translation f25698a33f9fdfe3… (all of the seat's roots in one cut). By AI agents, Wed Nov 11 2026. No macro, syntax, notation, axiom, sorry.
-/
import Derived.Test.YthoppkklooomgaaChecked
import GoSem.Claim
import GoSem.ClaimJoined
import GoSem.ClaimMapViews
import Derived.JoinedTies
import Derived.KernelRfl
namespace Go.Proofs.Ythoppkklooomgaa
/- THE CELL 'sum', in the pinned program and in every row, IS THE sha256 OF THE DUMP (.gsa) THAT YthoppkklooomgaaProg.lean LOADS. Nothing in Lean hashes anything: it is a label: what it is worth is what the hold of that sum in a sandbox is worth. -/
noncomputable def Try.pinned : Pinned := { name := "ythoppkklooomgaa", sum := "f25698a33f9fdfe3bf63245c5017adb9f35ede413fde557ee82ce1ae03112ef1", checked := Try.checked }
namespace Rows
def none {H : Type} : Left H := { results := [], args := [] }

/-- 'underpasslaw14.TunnelBack': WHATEVER THE INPUT: true; the input reads as it did. -/
def tunnelBackSpec : ChangeSpec := { name := "tunnelBack", fn := fun _ => fun
  | [d1, d2] => { results := [.lit (.bool true)], args := [d1, d2] }
  | _ => none }
def tunnelBackRow : OpenClaim := { program := "ythoppkklooomgaa", sum := "f25698a33f9fdfe3bf63245c5017adb9f35ede413fde557ee82ce1ae03112ef1", func := "underpass/underpasslaw14.TunnelBack", spec := "tunnelBack", inPlace := ["internal/reflectlite.TypeOf"], unfollowed := true, recurses := true, apart := false }
def TunnelBackSaid : Prop := tunnelBackRow.holds Try.pinned (OpenSpec.ofChange tunnelBackSpec)

/-- ITS FALSE NEIGHBOUR: 'it returns false'. Refute it at one input. -/
def tunnelBackWrong : ChangeSpec := { name := "tunnelBack", fn := fun _ => fun
  | [d1, d2] => { results := [.lit (.bool false)], args := [d1, d2] }
  | _ => none }
def TunnelBackWrongFalsely : Prop := tunnelBackRow.holds Try.pinned (OpenSpec.ofChange tunnelBackWrong)

/-- 'underpasslaw14.TunnelFlows': WHATEVER THE INPUT: true; the input reads as it did. -/
def tunnelFlowsSpec : ChangeSpec := { name := "tunnelFlows", fn := fun _ => fun
  | [d1, d2] => { results := [.lit (.bool true)], args := [d1, d2] }
  | _ => none }
def tunnelFlowsRow : OpenClaim := { program := "ythoppkklooomgaa", sum := "f25698a33f9fdfe3bf63245c5017adb9f35ede413fde557ee82ce1ae03112ef1", func := "underpass/underpasslaw14.TunnelFlows", spec := "tunnelFlows", inPlace := ["internal/reflectlite.TypeOf"], unfollowed := true, recurses := true, apart := false }
def TunnelFlowsSaid : Prop := tunnelFlowsRow.holds Try.pinned (OpenSpec.ofChange tunnelFlowsSpec)

/-- ITS FALSE NEIGHBOUR: 'it returns false'. Refute it at one input. -/
def tunnelFlowsWrong : ChangeSpec := { name := "tunnelFlows", fn := fun _ => fun
  | [d1, d2] => { results := [.lit (.bool false)], args := [d1, d2] }
  | _ => none }
def TunnelFlowsWrongFalsely : Prop := tunnelFlowsRow.holds Try.pinned (OpenSpec.ofChange tunnelFlowsWrong)

/-- 'underpasslaw14.TunnelOptions': WHATEVER THE INPUT: true; the input reads as it did. -/
def tunnelOptionsSpec : ChangeSpec := { name := "tunnelOptions", fn := fun _ => fun
  | [d1, d2, d3] => { results := [.lit (.bool true)], args := [d1, d2, d3] }
  | _ => none }
def tunnelOptionsRow : OpenClaim := { program := "ythoppkklooomgaa", sum := "f25698a33f9fdfe3bf63245c5017adb9f35ede413fde557ee82ce1ae03112ef1", func := "underpass/underpasslaw14.TunnelOptions", spec := "tunnelOptions", inPlace := ["internal/reflectlite.TypeOf"], unfollowed := true, recurses := true, apart := false }
def TunnelOptionsSaid : Prop := tunnelOptionsRow.holds Try.pinned (OpenSpec.ofChange tunnelOptionsSpec)

/-- ITS FALSE NEIGHBOUR: 'it returns false'. Refute it at one input. -/
def tunnelOptionsWrong : ChangeSpec := { name := "tunnelOptions", fn := fun _ => fun
  | [d1, d2, d3] => { results := [.lit (.bool false)], args := [d1, d2, d3] }
  | _ => none }
def TunnelOptionsWrongFalsely : Prop := tunnelOptionsRow.holds Try.pinned (OpenSpec.ofChange tunnelOptionsWrong)

/-- 'underpasslaw14.TunnelSeq': WHATEVER THE INPUT: true; the input reads as it did. -/
def tunnelSeqSpec : ChangeSpec := { name := "tunnelSeq", fn := fun _ => fun
  | [d1, d2] => { results := [.lit (.bool true)], args := [d1, d2] }
  | _ => none }
def tunnelSeqRow : OpenClaim := { program := "ythoppkklooomgaa", sum := "f25698a33f9fdfe3bf63245c5017adb9f35ede413fde557ee82ce1ae03112ef1", func := "underpass/underpasslaw14.TunnelSeq", spec := "tunnelSeq", inPlace := ["internal/reflectlite.TypeOf"], unfollowed := true, recurses := true, apart := false }
def TunnelSeqSaid : Prop := tunnelSeqRow.holds Try.pinned (OpenSpec.ofChange tunnelSeqSpec)

/-- ITS FALSE NEIGHBOUR: 'it returns false'. Refute it at one input. -/
def tunnelSeqWrong : ChangeSpec := { name := "tunnelSeq", fn := fun _ => fun
  | [d1, d2] => { results := [.lit (.bool false)], args := [d1, d2] }
  | _ => none }
def TunnelSeqWrongFalsely : Prop := tunnelSeqRow.holds Try.pinned (OpenSpec.ofChange tunnelSeqWrong)

/-- 'underpasslaw14.TunnelApart': WHATEVER THE INPUT: true; the input reads as it did. -/
def tunnelApartSpec : ChangeSpec := { name := "tunnelApart", fn := fun _ => fun
  | [d1, d2] => { results := [.lit (.bool true)], args := [d1, d2] }
  | _ => none }
def tunnelApartRow : OpenClaim := { program := "ythoppkklooomgaa", sum := "f25698a33f9fdfe3bf63245c5017adb9f35ede413fde557ee82ce1ae03112ef1", func := "underpass/underpasslaw14.TunnelApart", spec := "tunnelApart", inPlace := ["internal/reflectlite.TypeOf"], unfollowed := true, recurses := true, apart := false }
def TunnelApartSaid : Prop := tunnelApartRow.holds Try.pinned (OpenSpec.ofChange tunnelApartSpec)

/-- ITS FALSE NEIGHBOUR: 'it returns false'. Refute it at one input. -/
def tunnelApartWrong : ChangeSpec := { name := "tunnelApart", fn := fun _ => fun
  | [d1, d2] => { results := [.lit (.bool false)], args := [d1, d2] }
  | _ => none }
def TunnelApartWrongFalsely : Prop := tunnelApartRow.holds Try.pinned (OpenSpec.ofChange tunnelApartWrong)

/-- 'underpasslaw14.TunnelOwn': WHATEVER THE INPUT: true; the input reads as it did. -/
def tunnelOwnSpec : ChangeSpec := { name := "tunnelOwn", fn := fun _ => fun
  | [d] => { results := [.lit (.bool true)], args := [d] }
  | _ => none }
def tunnelOwnRow : OpenClaim := { program := "ythoppkklooomgaa", sum := "f25698a33f9fdfe3bf63245c5017adb9f35ede413fde557ee82ce1ae03112ef1", func := "underpass/underpasslaw14.TunnelOwn", spec := "tunnelOwn", inPlace := ["internal/reflectlite.TypeOf"], unfollowed := true, recurses := true, apart := false }
def TunnelOwnSaid : Prop := tunnelOwnRow.holds Try.pinned (OpenSpec.ofChange tunnelOwnSpec)

/-- ITS FALSE NEIGHBOUR: 'it returns false'. Refute it at one input. -/
def tunnelOwnWrong : ChangeSpec := { name := "tunnelOwn", fn := fun _ => fun
  | [d] => { results := [.lit (.bool false)], args := [d] }
  | _ => none }
def TunnelOwnWrongFalsely : Prop := tunnelOwnRow.holds Try.pinned (OpenSpec.ofChange tunnelOwnWrong)

/- THE SECOND FORM. 'bulk': how many values and letters a reading holds, each counted each time it is reached (what is shared counts as often as it is met; a slice's spare places count too). A statement '..UptoSaid' is the law's where the arguments, and the package variables that the reading takes, are together of bulk at most 1048576: NARROWER than '..Said'. Prove '..Said' where nothing that the law and all that it calls make is longer than what came in: it says more and counts as full. Else prove '..UptoSaid'. A law counts once. -/
mutual
def uptoBulk {H : Type} : DataW H → Nat
  | .lit (.string bytes) => bytes.length + 1
  | .lit _ => 1
  | .nil => 1
  | .ptr d => uptoBulk d + 1
  | .slice elems spare => uptoBulkAll elems + uptoBulkAll spare + 1
  | .agg parts => uptoBulkAll parts + 1
  | .iface _ d => uptoBulk d + 1
  | .map entries => uptoBulkEntries entries + 1
  | .held _ => 1
def uptoBulkAll {H : Type} : List (DataW H) → Nat
  | [] => 0
  | d :: r => uptoBulk d + uptoBulkAll r
def uptoBulkEntries {H : Type} : List (Lit × DataW H) → Nat
  | [] => 0
  | x :: r => uptoBulkEntry x + uptoBulkEntries r
def uptoBulkEntry {H : Type} : Lit × DataW H → Nat
  | (.string bytes, d) => bytes.length + uptoBulk d + 1
  | (_, d) => uptoBulk d + 1
 end
def uptoSmall : (H : Type) → List (DataW H) → Bool := fun _ ds => decide (uptoBulkAll ds ≤ 1048576)
def OpenSpec.upto (s : _root_.Go.ChangeSpec) : _root_.Go.OpenSpec := { _root_.Go.OpenSpec.ofChange s with cond := some uptoSmall }

/-- 'underpasslaw14.TunnelBack', WHERE WHAT IT READS IS OF BULK AT MOST 1048576: true; the input reads as it did. -/
def tunnelBackUptoRow : OpenClaim := { program := "ythoppkklooomgaa", sum := "f25698a33f9fdfe3bf63245c5017adb9f35ede413fde557ee82ce1ae03112ef1", func := "underpass/underpasslaw14.TunnelBack", spec := "tunnelBack", inPlace := ["internal/reflectlite.TypeOf"], unfollowed := true, recurses := true, apart := false, narrowed := true }
def TunnelBackUptoSaid : Prop := tunnelBackUptoRow.holds Try.pinned (OpenSpec.upto tunnelBackSpec)

/-- 'underpasslaw14.TunnelFlows', WHERE WHAT IT READS IS OF BULK AT MOST 1048576: true; the input reads as it did. -/
def tunnelFlowsUptoRow : OpenClaim := { program := "ythoppkklooomgaa", sum := "f25698a33f9fdfe3bf63245c5017adb9f35ede413fde557ee82ce1ae03112ef1", func := "underpass/underpasslaw14.TunnelFlows", spec := "tunnelFlows", inPlace := ["internal/reflectlite.TypeOf"], unfollowed := true, recurses := true, apart := false, narrowed := true }
def TunnelFlowsUptoSaid : Prop := tunnelFlowsUptoRow.holds Try.pinned (OpenSpec.upto tunnelFlowsSpec)

/-- 'underpasslaw14.TunnelOptions', WHERE WHAT IT READS IS OF BULK AT MOST 1048576: true; the input reads as it did. -/
def tunnelOptionsUptoRow : OpenClaim := { program := "ythoppkklooomgaa", sum := "f25698a33f9fdfe3bf63245c5017adb9f35ede413fde557ee82ce1ae03112ef1", func := "underpass/underpasslaw14.TunnelOptions", spec := "tunnelOptions", inPlace := ["internal/reflectlite.TypeOf"], unfollowed := true, recurses := true, apart := false, narrowed := true }
def TunnelOptionsUptoSaid : Prop := tunnelOptionsUptoRow.holds Try.pinned (OpenSpec.upto tunnelOptionsSpec)

/-- 'underpasslaw14.TunnelSeq', WHERE WHAT IT READS IS OF BULK AT MOST 1048576: true; the input reads as it did. -/
def tunnelSeqUptoRow : OpenClaim := { program := "ythoppkklooomgaa", sum := "f25698a33f9fdfe3bf63245c5017adb9f35ede413fde557ee82ce1ae03112ef1", func := "underpass/underpasslaw14.TunnelSeq", spec := "tunnelSeq", inPlace := ["internal/reflectlite.TypeOf"], unfollowed := true, recurses := true, apart := false, narrowed := true }
def TunnelSeqUptoSaid : Prop := tunnelSeqUptoRow.holds Try.pinned (OpenSpec.upto tunnelSeqSpec)

/-- 'underpasslaw14.TunnelApart', WHERE WHAT IT READS IS OF BULK AT MOST 1048576: true; the input reads as it did. -/
def tunnelApartUptoRow : OpenClaim := { program := "ythoppkklooomgaa", sum := "f25698a33f9fdfe3bf63245c5017adb9f35ede413fde557ee82ce1ae03112ef1", func := "underpass/underpasslaw14.TunnelApart", spec := "tunnelApart", inPlace := ["internal/reflectlite.TypeOf"], unfollowed := true, recurses := true, apart := false, narrowed := true }
def TunnelApartUptoSaid : Prop := tunnelApartUptoRow.holds Try.pinned (OpenSpec.upto tunnelApartSpec)

/-- 'underpasslaw14.TunnelOwn', WHERE WHAT IT READS IS OF BULK AT MOST 1048576: true; the input reads as it did. -/
def tunnelOwnUptoRow : OpenClaim := { program := "ythoppkklooomgaa", sum := "f25698a33f9fdfe3bf63245c5017adb9f35ede413fde557ee82ce1ae03112ef1", func := "underpass/underpasslaw14.TunnelOwn", spec := "tunnelOwn", inPlace := ["internal/reflectlite.TypeOf"], unfollowed := true, recurses := true, apart := false, narrowed := true }
def TunnelOwnUptoSaid : Prop := tunnelOwnUptoRow.holds Try.pinned (OpenSpec.upto tunnelOwnSpec)

end Rows
end Go.Proofs.Ythoppkklooomgaa
