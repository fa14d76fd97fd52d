/-
  NARROWER THAN 'FOR EVERY INPUT', by the rows' own cells (each row's printed sentence says how): FdbRoom: laid · FdbAges: laid · FdbTells: laid · FdbStatic: laid · FdbForgets: laid.
  DERIVED. THE GIVEN ROWS OF THIS SEAT. 5 by the template 'for every input the law returns true; each argument reads behind the call as it read before'; 0 by the template 'total and deterministic' (their statements: YtgmaelndhmnjiaaDoorTotals.lean).
  GIVEN WITH THE SEED: the statements are not yours to turn. If you find one false, say at which input.
  Laid BY PROGRAM, IN A SANDBOX (cutbox-rows.mjs): the forced cells as the released guide's own fill.sh prints them over the translation 0d820e2a403f4a38… (all of the seat's roots in one cut). By AI agents, Wed Nov 11 2026. No macro, syntax, notation, axiom, sorry.
-/
import Derived.Test.YtgmaelndhmnjiaaDoorChecked
import GoSem.Claim
import GoSem.ClaimJoined
import GoSem.ClaimMapViews
import Derived.JoinedTies
import Derived.KernelRfl
namespace Go.Proofs.YtgmaelndhmnjiaaDoor
/- THE CELL 'sum', in the pinned program and in every row, IS THE sha256 OF THE DUMP (.gsa) THAT YtgmaelndhmnjiaaDoorProg.lean LOADS. Nothing in Lean hashes anything: it is a label: what it is worth is what the hold of that sum in a sandbox is worth. -/
noncomputable def Tryd.pinned : Pinned := { name := "ytgmaelndhmnjiaadoor", sum := "0d820e2a403f4a380a45ea25ca3b5b30a56ad15845f2d2c73e62f7324cd0ef5e", checked := Tryd.checked }
namespace Rows
def none {H : Type} : Left H := { results := [], args := [] }

/- WHAT THE LISTED PACKAGE-LEVEL VARIABLES READ AS WHEN THE CALL BEGINS. Each datum BY PROGRAM (the guide's laid-datum.mjs) off the statement by which the dump's own 'gosem.cut.vars' lays the variable. In a bare row this is a premise. The card (YtgmaelndhmnjiaaDoorCards.lean) ties it to the program's text. -/
def laid_underpass_api_All {H : Type} : DataW H := .agg [.lit (.int .u8 255), .lit (.int .u8 255), .lit (.int .u8 255), .lit (.int .u8 255), .lit (.int .u8 255), .lit (.int .u8 255)]

/-- 'underpasslaw15.FdbRoom': WHATEVER THE INPUT: true; the input reads as it did. -/
def fdbRoomSpec : ChangeSpec := { name := "fdbRoom", fn := fun _ => fun
  | [d1, d2] => { results := [.lit (.bool true)], args := [d1, d2] }
  | _ => none }
def fdbRoomRow : OpenClaim := { program := "ytgmaelndhmnjiaadoor", sum := "0d820e2a403f4a380a45ea25ca3b5b30a56ad15845f2d2c73e62f7324cd0ef5e", func := "underpass/underpasslaw15.FdbRoom", spec := "fdbRoom", inPlace := ["internal/bytealg.Compare"], unfollowed := true, recurses := true, named := ["underpass/api.All"], plainKeys := false, apart := false, laid := [("underpass/api.All", laid_underpass_api_All)] }
def FdbRoomSaid : Prop := fdbRoomRow.holds Tryd.pinned (OpenSpec.ofChange fdbRoomSpec)

/-- ITS FALSE NEIGHBOUR: 'it returns false'. Refute it at one input. -/
def fdbRoomWrong : ChangeSpec := { name := "fdbRoom", fn := fun _ => fun
  | [d1, d2] => { results := [.lit (.bool false)], args := [d1, d2] }
  | _ => none }
def FdbRoomWrongFalsely : Prop := fdbRoomRow.holds Tryd.pinned (OpenSpec.ofChange fdbRoomWrong)

/-- 'underpasslaw15.FdbAges': WHATEVER THE INPUT: true; the input reads as it did. -/
def fdbAgesSpec : ChangeSpec := { name := "fdbAges", fn := fun _ => fun
  | [d1, d2, d3, d4] => { results := [.lit (.bool true)], args := [d1, d2, d3, d4] }
  | _ => none }
def fdbAgesRow : OpenClaim := { program := "ytgmaelndhmnjiaadoor", sum := "0d820e2a403f4a380a45ea25ca3b5b30a56ad15845f2d2c73e62f7324cd0ef5e", func := "underpass/underpasslaw15.FdbAges", spec := "fdbAges", inPlace := ["internal/bytealg.Compare"], unfollowed := true, recurses := true, named := ["underpass/api.All"], plainKeys := false, apart := false, laid := [("underpass/api.All", laid_underpass_api_All)] }
def FdbAgesSaid : Prop := fdbAgesRow.holds Tryd.pinned (OpenSpec.ofChange fdbAgesSpec)

/-- ITS FALSE NEIGHBOUR: 'it returns false'. Refute it at one input. -/
def fdbAgesWrong : ChangeSpec := { name := "fdbAges", fn := fun _ => fun
  | [d1, d2, d3, d4] => { results := [.lit (.bool false)], args := [d1, d2, d3, d4] }
  | _ => none }
def FdbAgesWrongFalsely : Prop := fdbAgesRow.holds Tryd.pinned (OpenSpec.ofChange fdbAgesWrong)

/-- 'underpasslaw15.FdbTells': WHATEVER THE INPUT: true; the input reads as it did. -/
def fdbTellsSpec : ChangeSpec := { name := "fdbTells", fn := fun _ => fun
  | [d1, d2, d3, d4] => { results := [.lit (.bool true)], args := [d1, d2, d3, d4] }
  | _ => none }
def fdbTellsRow : OpenClaim := { program := "ytgmaelndhmnjiaadoor", sum := "0d820e2a403f4a380a45ea25ca3b5b30a56ad15845f2d2c73e62f7324cd0ef5e", func := "underpass/underpasslaw15.FdbTells", spec := "fdbTells", inPlace := ["internal/bytealg.Compare"], unfollowed := true, recurses := true, named := ["underpass/api.All"], plainKeys := false, apart := false, laid := [("underpass/api.All", laid_underpass_api_All)] }
def FdbTellsSaid : Prop := fdbTellsRow.holds Tryd.pinned (OpenSpec.ofChange fdbTellsSpec)

/-- ITS FALSE NEIGHBOUR: 'it returns false'. Refute it at one input. -/
def fdbTellsWrong : ChangeSpec := { name := "fdbTells", fn := fun _ => fun
  | [d1, d2, d3, d4] => { results := [.lit (.bool false)], args := [d1, d2, d3, d4] }
  | _ => none }
def FdbTellsWrongFalsely : Prop := fdbTellsRow.holds Tryd.pinned (OpenSpec.ofChange fdbTellsWrong)

/-- 'underpasslaw15.FdbStatic': WHATEVER THE INPUT: true; the input reads as it did. -/
def fdbStaticSpec : ChangeSpec := { name := "fdbStatic", fn := fun _ => fun
  | [d1, d2, d3, d4, d5] => { results := [.lit (.bool true)], args := [d1, d2, d3, d4, d5] }
  | _ => none }
def fdbStaticRow : OpenClaim := { program := "ytgmaelndhmnjiaadoor", sum := "0d820e2a403f4a380a45ea25ca3b5b30a56ad15845f2d2c73e62f7324cd0ef5e", func := "underpass/underpasslaw15.FdbStatic", spec := "fdbStatic", inPlace := ["internal/bytealg.Compare"], unfollowed := true, recurses := true, named := ["underpass/api.All"], plainKeys := false, apart := false, laid := [("underpass/api.All", laid_underpass_api_All)] }
def FdbStaticSaid : Prop := fdbStaticRow.holds Tryd.pinned (OpenSpec.ofChange fdbStaticSpec)

/-- ITS FALSE NEIGHBOUR: 'it returns false'. Refute it at one input. -/
def fdbStaticWrong : ChangeSpec := { name := "fdbStatic", fn := fun _ => fun
  | [d1, d2, d3, d4, d5] => { results := [.lit (.bool false)], args := [d1, d2, d3, d4, d5] }
  | _ => none }
def FdbStaticWrongFalsely : Prop := fdbStaticRow.holds Tryd.pinned (OpenSpec.ofChange fdbStaticWrong)

/-- 'underpasslaw15.FdbForgets': WHATEVER THE INPUT: true; the input reads as it did. -/
def fdbForgetsSpec : ChangeSpec := { name := "fdbForgets", fn := fun _ => fun
  | [d1, d2, d3, d4] => { results := [.lit (.bool true)], args := [d1, d2, d3, d4] }
  | _ => none }
def fdbForgetsRow : OpenClaim := { program := "ytgmaelndhmnjiaadoor", sum := "0d820e2a403f4a380a45ea25ca3b5b30a56ad15845f2d2c73e62f7324cd0ef5e", func := "underpass/underpasslaw15.FdbForgets", spec := "fdbForgets", inPlace := ["internal/bytealg.Compare"], unfollowed := true, recurses := true, named := ["underpass/api.All"], plainKeys := false, apart := false, laid := [("underpass/api.All", laid_underpass_api_All)] }
def FdbForgetsSaid : Prop := fdbForgetsRow.holds Tryd.pinned (OpenSpec.ofChange fdbForgetsSpec)

/-- ITS FALSE NEIGHBOUR: 'it returns false'. Refute it at one input. -/
def fdbForgetsWrong : ChangeSpec := { name := "fdbForgets", fn := fun _ => fun
  | [d1, d2, d3, d4] => { results := [.lit (.bool false)], args := [d1, d2, d3, d4] }
  | _ => none }
def FdbForgetsWrongFalsely : Prop := fdbForgetsRow.holds Tryd.pinned (OpenSpec.ofChange fdbForgetsWrong)

/- THE SECOND FORM. 'bulk': how many values and letters a reading holds, each counted each time it is reached (what is shared counts as often as it is met; a slice's spare places count too). A statement '..UptoSaid' is the law's where the arguments, and the package variables that the reading takes, are together of bulk at most 1048576: NARROWER than '..Said'. Prove '..Said' where nothing that the law and all that it calls make is longer than what came in: it says more and counts as full. Else prove '..UptoSaid'. A law counts once. -/
mutual
def uptoBulk {H : Type} : DataW H → Nat
  | .lit (.string bytes) => bytes.length + 1
  | .lit _ => 1
  | .nil => 1
  | .ptr d => uptoBulk d + 1
  | .slice elems spare => uptoBulkAll elems + uptoBulkAll spare + 1
  | .agg parts => uptoBulkAll parts + 1
  | .iface _ d => uptoBulk d + 1
  | .map entries => uptoBulkEntries entries + 1
  | .held _ => 1
def uptoBulkAll {H : Type} : List (DataW H) → Nat
  | [] => 0
  | d :: r => uptoBulk d + uptoBulkAll r
def uptoBulkEntries {H : Type} : List (Lit × DataW H) → Nat
  | [] => 0
  | x :: r => uptoBulkEntry x + uptoBulkEntries r
def uptoBulkEntry {H : Type} : Lit × DataW H → Nat
  | (.string bytes, d) => bytes.length + uptoBulk d + 1
  | (_, d) => uptoBulk d + 1
 end
def uptoSmall : (H : Type) → List (DataW H) → Bool := fun _ ds => decide (uptoBulkAll ds ≤ 1048576)
def OpenSpec.upto (s : _root_.Go.ChangeSpec) : _root_.Go.OpenSpec := { _root_.Go.OpenSpec.ofChange s with cond := some uptoSmall }

/-- 'underpasslaw15.FdbRoom', WHERE WHAT IT READS IS OF BULK AT MOST 1048576: true; the input reads as it did. -/
def fdbRoomUptoRow : OpenClaim := { program := "ytgmaelndhmnjiaadoor", sum := "0d820e2a403f4a380a45ea25ca3b5b30a56ad15845f2d2c73e62f7324cd0ef5e", func := "underpass/underpasslaw15.FdbRoom", spec := "fdbRoom", inPlace := ["internal/bytealg.Compare"], unfollowed := true, recurses := true, named := ["underpass/api.All"], plainKeys := false, apart := false, laid := [("underpass/api.All", laid_underpass_api_All)], narrowed := true }
def FdbRoomUptoSaid : Prop := fdbRoomUptoRow.holds Tryd.pinned (OpenSpec.upto fdbRoomSpec)

/-- 'underpasslaw15.FdbAges', WHERE WHAT IT READS IS OF BULK AT MOST 1048576: true; the input reads as it did. -/
def fdbAgesUptoRow : OpenClaim := { program := "ytgmaelndhmnjiaadoor", sum := "0d820e2a403f4a380a45ea25ca3b5b30a56ad15845f2d2c73e62f7324cd0ef5e", func := "underpass/underpasslaw15.FdbAges", spec := "fdbAges", inPlace := ["internal/bytealg.Compare"], unfollowed := true, recurses := true, named := ["underpass/api.All"], plainKeys := false, apart := false, laid := [("underpass/api.All", laid_underpass_api_All)], narrowed := true }
def FdbAgesUptoSaid : Prop := fdbAgesUptoRow.holds Tryd.pinned (OpenSpec.upto fdbAgesSpec)

/-- 'underpasslaw15.FdbTells', WHERE WHAT IT READS IS OF BULK AT MOST 1048576: true; the input reads as it did. -/
def fdbTellsUptoRow : OpenClaim := { program := "ytgmaelndhmnjiaadoor", sum := "0d820e2a403f4a380a45ea25ca3b5b30a56ad15845f2d2c73e62f7324cd0ef5e", func := "underpass/underpasslaw15.FdbTells", spec := "fdbTells", inPlace := ["internal/bytealg.Compare"], unfollowed := true, recurses := true, named := ["underpass/api.All"], plainKeys := false, apart := false, laid := [("underpass/api.All", laid_underpass_api_All)], narrowed := true }
def FdbTellsUptoSaid : Prop := fdbTellsUptoRow.holds Tryd.pinned (OpenSpec.upto fdbTellsSpec)

/-- 'underpasslaw15.FdbStatic', WHERE WHAT IT READS IS OF BULK AT MOST 1048576: true; the input reads as it did. -/
def fdbStaticUptoRow : OpenClaim := { program := "ytgmaelndhmnjiaadoor", sum := "0d820e2a403f4a380a45ea25ca3b5b30a56ad15845f2d2c73e62f7324cd0ef5e", func := "underpass/underpasslaw15.FdbStatic", spec := "fdbStatic", inPlace := ["internal/bytealg.Compare"], unfollowed := true, recurses := true, named := ["underpass/api.All"], plainKeys := false, apart := false, laid := [("underpass/api.All", laid_underpass_api_All)], narrowed := true }
def FdbStaticUptoSaid : Prop := fdbStaticUptoRow.holds Tryd.pinned (OpenSpec.upto fdbStaticSpec)

/-- 'underpasslaw15.FdbForgets', WHERE WHAT IT READS IS OF BULK AT MOST 1048576: true; the input reads as it did. -/
def fdbForgetsUptoRow : OpenClaim := { program := "ytgmaelndhmnjiaadoor", sum := "0d820e2a403f4a380a45ea25ca3b5b30a56ad15845f2d2c73e62f7324cd0ef5e", func := "underpass/underpasslaw15.FdbForgets", spec := "fdbForgets", inPlace := ["internal/bytealg.Compare"], unfollowed := true, recurses := true, named := ["underpass/api.All"], plainKeys := false, apart := false, laid := [("underpass/api.All", laid_underpass_api_All)], narrowed := true }
def FdbForgetsUptoSaid : Prop := fdbForgetsUptoRow.holds Tryd.pinned (OpenSpec.upto fdbForgetsSpec)

end Rows
end Go.Proofs.YtgmaelndhmnjiaaDoor
