/-
  No cell of these rows narrows 'for every input' (looked for: loops, veiled, ifaces, maps, wideKeys, modest, calm, conditions, laid).
  DERIVED. THE GIVEN ROWS OF THIS SEAT. 8 by the template 'for every input the law returns true; each argument reads behind the call as it read before'; 0 by the template 'total and deterministic' (their statements: YtflgecobobgpcaaGreatTotals.lean).
  GIVEN WITH THE SEED: the statements are not yours to turn. If you find one false, say at which input.
  Laid BY PROGRAM, IN A SANDBOX (cutbox-rows.mjs): the forced cells as the released guide's own fill.sh prints them over the translation 75236ff2ad029173… (all of the seat's roots in one cut). By AI agents, Wed Nov 11 2026. No macro, syntax, notation, axiom, sorry.
-/
import Derived.Test.YtflgecobobgpcaaGreatChecked
import GoSem.Claim
import GoSem.ClaimJoined
import GoSem.ClaimMapViews
import Derived.JoinedTies
import Derived.KernelRfl
namespace Go.Proofs.YtflgecobobgpcaaGreat
/- THE CELL 'sum', in the pinned program and in every row, IS THE sha256 OF THE DUMP (.gsa) THAT YtflgecobobgpcaaGreatProg.lean LOADS. Nothing in Lean hashes anything: it is a label: what it is worth is what the hold of that sum in a sandbox is worth. -/
noncomputable def Tryz.pinned : Pinned := { name := "ytflgecobobgpcaagreat", sum := "75236ff2ad029173f01925f60894f618f9b863eb47883ddc3826232c1e499d41", checked := Tryz.checked }
namespace Rows
def none {H : Type} : Left H := { results := [], args := [] }

/-- 'roundtablelaw54.MachineChecks': WHATEVER THE INPUT: true; the input reads as it did. -/
def machineChecksSpec : ChangeSpec := { name := "machineChecks", fn := fun _ => fun
  | [d1, d2] => { results := [.lit (.bool true)], args := [d1, d2] }
  | _ => none }
def machineChecksRow : OpenClaim := { program := "ytflgecobobgpcaagreat", sum := "75236ff2ad029173f01925f60894f618f9b863eb47883ddc3826232c1e499d41", func := "roundtable/roundtablelaw54.MachineChecks", spec := "machineChecks", unfollowed := true, recurses := true, plainKeys := false, apart := false }
def MachineChecksSaid : Prop := machineChecksRow.holds Tryz.pinned (OpenSpec.ofChange machineChecksSpec)

/-- ITS FALSE NEIGHBOUR: 'it returns false'. Refute it at one input. -/
def machineChecksWrong : ChangeSpec := { name := "machineChecks", fn := fun _ => fun
  | [d1, d2] => { results := [.lit (.bool false)], args := [d1, d2] }
  | _ => none }
def MachineChecksWrongFalsely : Prop := machineChecksRow.holds Tryz.pinned (OpenSpec.ofChange machineChecksWrong)

/-- 'roundtablelaw54.MachineNexts': WHATEVER THE INPUT: true; the input reads as it did. -/
def machineNextsSpec : ChangeSpec := { name := "machineNexts", fn := fun _ => fun
  | [d1, d2] => { results := [.lit (.bool true)], args := [d1, d2] }
  | _ => none }
def machineNextsRow : OpenClaim := { program := "ytflgecobobgpcaagreat", sum := "75236ff2ad029173f01925f60894f618f9b863eb47883ddc3826232c1e499d41", func := "roundtable/roundtablelaw54.MachineNexts", spec := "machineNexts", unfollowed := true, recurses := true, plainKeys := false, apart := false }
def MachineNextsSaid : Prop := machineNextsRow.holds Tryz.pinned (OpenSpec.ofChange machineNextsSpec)

/-- ITS FALSE NEIGHBOUR: 'it returns false'. Refute it at one input. -/
def machineNextsWrong : ChangeSpec := { name := "machineNexts", fn := fun _ => fun
  | [d1, d2] => { results := [.lit (.bool false)], args := [d1, d2] }
  | _ => none }
def MachineNextsWrongFalsely : Prop := machineNextsRow.holds Tryz.pinned (OpenSpec.ofChange machineNextsWrong)

/-- 'roundtablelaw54.MachinePlays': WHATEVER THE INPUT: true; the input reads as it did. -/
def machinePlaysSpec : ChangeSpec := { name := "machinePlays", fn := fun _ => fun
  | [d1, d2, d3] => { results := [.lit (.bool true)], args := [d1, d2, d3] }
  | _ => none }
def machinePlaysRow : OpenClaim := { program := "ytflgecobobgpcaagreat", sum := "75236ff2ad029173f01925f60894f618f9b863eb47883ddc3826232c1e499d41", func := "roundtable/roundtablelaw54.MachinePlays", spec := "machinePlays", unfollowed := true, recurses := true, plainKeys := false, apart := false }
def MachinePlaysSaid : Prop := machinePlaysRow.holds Tryz.pinned (OpenSpec.ofChange machinePlaysSpec)

/-- ITS FALSE NEIGHBOUR: 'it returns false'. Refute it at one input. -/
def machinePlaysWrong : ChangeSpec := { name := "machinePlays", fn := fun _ => fun
  | [d1, d2, d3] => { results := [.lit (.bool false)], args := [d1, d2, d3] }
  | _ => none }
def MachinePlaysWrongFalsely : Prop := machinePlaysRow.holds Tryz.pinned (OpenSpec.ofChange machinePlaysWrong)

/-- 'roundtablelaw54.MachineSynthesizes': WHATEVER THE INPUT: true; the input reads as it did. -/
def machineSynthesizesSpec : ChangeSpec := { name := "machineSynthesizes", fn := fun _ => fun
  | [d1, d2] => { results := [.lit (.bool true)], args := [d1, d2] }
  | _ => none }
def machineSynthesizesRow : OpenClaim := { program := "ytflgecobobgpcaagreat", sum := "75236ff2ad029173f01925f60894f618f9b863eb47883ddc3826232c1e499d41", func := "roundtable/roundtablelaw54.MachineSynthesizes", spec := "machineSynthesizes", unfollowed := true, recurses := true, plainKeys := false, apart := false }
def MachineSynthesizesSaid : Prop := machineSynthesizesRow.holds Tryz.pinned (OpenSpec.ofChange machineSynthesizesSpec)

/-- ITS FALSE NEIGHBOUR: 'it returns false'. Refute it at one input. -/
def machineSynthesizesWrong : ChangeSpec := { name := "machineSynthesizes", fn := fun _ => fun
  | [d1, d2] => { results := [.lit (.bool false)], args := [d1, d2] }
  | _ => none }
def MachineSynthesizesWrongFalsely : Prop := machineSynthesizesRow.holds Tryz.pinned (OpenSpec.ofChange machineSynthesizesWrong)

/-- 'roundtablelaw54.MachineVerifies': WHATEVER THE INPUT: true; the input reads as it did. -/
def machineVerifiesSpec : ChangeSpec := { name := "machineVerifies", fn := fun _ => fun
  | [d1, d2, d3] => { results := [.lit (.bool true)], args := [d1, d2, d3] }
  | _ => none }
def machineVerifiesRow : OpenClaim := { program := "ytflgecobobgpcaagreat", sum := "75236ff2ad029173f01925f60894f618f9b863eb47883ddc3826232c1e499d41", func := "roundtable/roundtablelaw54.MachineVerifies", spec := "machineVerifies", unfollowed := true, recurses := true, plainKeys := false, apart := false }
def MachineVerifiesSaid : Prop := machineVerifiesRow.holds Tryz.pinned (OpenSpec.ofChange machineVerifiesSpec)

/-- ITS FALSE NEIGHBOUR: 'it returns false'. Refute it at one input. -/
def machineVerifiesWrong : ChangeSpec := { name := "machineVerifies", fn := fun _ => fun
  | [d1, d2, d3] => { results := [.lit (.bool false)], args := [d1, d2, d3] }
  | _ => none }
def MachineVerifiesWrongFalsely : Prop := machineVerifiesRow.holds Tryz.pinned (OpenSpec.ofChange machineVerifiesWrong)

/-- 'roundtablelaw54.MachineDecides': WHATEVER THE INPUT: true; the input reads as it did. -/
def machineDecidesSpec : ChangeSpec := { name := "machineDecides", fn := fun _ => fun
  | [d1, d2] => { results := [.lit (.bool true)], args := [d1, d2] }
  | _ => none }
def machineDecidesRow : OpenClaim := { program := "ytflgecobobgpcaagreat", sum := "75236ff2ad029173f01925f60894f618f9b863eb47883ddc3826232c1e499d41", func := "roundtable/roundtablelaw54.MachineDecides", spec := "machineDecides", unfollowed := true, recurses := true, plainKeys := false, apart := false }
def MachineDecidesSaid : Prop := machineDecidesRow.holds Tryz.pinned (OpenSpec.ofChange machineDecidesSpec)

/-- ITS FALSE NEIGHBOUR: 'it returns false'. Refute it at one input. -/
def machineDecidesWrong : ChangeSpec := { name := "machineDecides", fn := fun _ => fun
  | [d1, d2] => { results := [.lit (.bool false)], args := [d1, d2] }
  | _ => none }
def MachineDecidesWrongFalsely : Prop := machineDecidesRow.holds Tryz.pinned (OpenSpec.ofChange machineDecidesWrong)

/-- 'roundtablelaw54.MachineRenumbers': WHATEVER THE INPUT: true; the input reads as it did. -/
def machineRenumbersSpec : ChangeSpec := { name := "machineRenumbers", fn := fun _ => fun
  | [d1, d2, d3] => { results := [.lit (.bool true)], args := [d1, d2, d3] }
  | _ => none }
def machineRenumbersRow : OpenClaim := { program := "ytflgecobobgpcaagreat", sum := "75236ff2ad029173f01925f60894f618f9b863eb47883ddc3826232c1e499d41", func := "roundtable/roundtablelaw54.MachineRenumbers", spec := "machineRenumbers", unfollowed := true, recurses := true, plainKeys := false, apart := false }
def MachineRenumbersSaid : Prop := machineRenumbersRow.holds Tryz.pinned (OpenSpec.ofChange machineRenumbersSpec)

/-- ITS FALSE NEIGHBOUR: 'it returns false'. Refute it at one input. -/
def machineRenumbersWrong : ChangeSpec := { name := "machineRenumbers", fn := fun _ => fun
  | [d1, d2, d3] => { results := [.lit (.bool false)], args := [d1, d2, d3] }
  | _ => none }
def MachineRenumbersWrongFalsely : Prop := machineRenumbersRow.holds Tryz.pinned (OpenSpec.ofChange machineRenumbersWrong)

/-- 'roundtablelaw54.MachineNeeds': WHATEVER THE INPUT: true; the input reads as it did. -/
def machineNeedsSpec : ChangeSpec := { name := "machineNeeds", fn := fun _ => fun
  | [d1, d2, d3] => { results := [.lit (.bool true)], args := [d1, d2, d3] }
  | _ => none }
def machineNeedsRow : OpenClaim := { program := "ytflgecobobgpcaagreat", sum := "75236ff2ad029173f01925f60894f618f9b863eb47883ddc3826232c1e499d41", func := "roundtable/roundtablelaw54.MachineNeeds", spec := "machineNeeds", unfollowed := true, recurses := true, plainKeys := false, apart := false }
def MachineNeedsSaid : Prop := machineNeedsRow.holds Tryz.pinned (OpenSpec.ofChange machineNeedsSpec)

/-- ITS FALSE NEIGHBOUR: 'it returns false'. Refute it at one input. -/
def machineNeedsWrong : ChangeSpec := { name := "machineNeeds", fn := fun _ => fun
  | [d1, d2, d3] => { results := [.lit (.bool false)], args := [d1, d2, d3] }
  | _ => none }
def MachineNeedsWrongFalsely : Prop := machineNeedsRow.holds Tryz.pinned (OpenSpec.ofChange machineNeedsWrong)

/- THE SECOND FORM. 'bulk': how many values and letters a reading holds, each counted each time it is reached (what is shared counts as often as it is met; a slice's spare places count too). A statement '..UptoSaid' is the law's where the arguments, and the package variables that the reading takes, are together of bulk at most 1048576: NARROWER than '..Said'. Prove '..Said' where nothing that the law and all that it calls make is longer than what came in: it says more and counts as full. Else prove '..UptoSaid'. A law counts once. -/
mutual
def uptoBulk {H : Type} : DataW H → Nat
  | .lit (.string bytes) => bytes.length + 1
  | .lit _ => 1
  | .nil => 1
  | .ptr d => uptoBulk d + 1
  | .slice elems spare => uptoBulkAll elems + uptoBulkAll spare + 1
  | .agg parts => uptoBulkAll parts + 1
  | .iface _ d => uptoBulk d + 1
  | .map entries => uptoBulkEntries entries + 1
  | .held _ => 1
def uptoBulkAll {H : Type} : List (DataW H) → Nat
  | [] => 0
  | d :: r => uptoBulk d + uptoBulkAll r
def uptoBulkEntries {H : Type} : List (Lit × DataW H) → Nat
  | [] => 0
  | x :: r => uptoBulkEntry x + uptoBulkEntries r
def uptoBulkEntry {H : Type} : Lit × DataW H → Nat
  | (.string bytes, d) => bytes.length + uptoBulk d + 1
  | (_, d) => uptoBulk d + 1
 end
def uptoSmall : (H : Type) → List (DataW H) → Bool := fun _ ds => decide (uptoBulkAll ds ≤ 1048576)
def OpenSpec.upto (s : _root_.Go.ChangeSpec) : _root_.Go.OpenSpec := { _root_.Go.OpenSpec.ofChange s with cond := some uptoSmall }

/-- 'roundtablelaw54.MachineChecks', WHERE WHAT IT READS IS OF BULK AT MOST 1048576: true; the input reads as it did. -/
def machineChecksUptoRow : OpenClaim := { program := "ytflgecobobgpcaagreat", sum := "75236ff2ad029173f01925f60894f618f9b863eb47883ddc3826232c1e499d41", func := "roundtable/roundtablelaw54.MachineChecks", spec := "machineChecks", unfollowed := true, recurses := true, plainKeys := false, apart := false, narrowed := true }
def MachineChecksUptoSaid : Prop := machineChecksUptoRow.holds Tryz.pinned (OpenSpec.upto machineChecksSpec)

/-- 'roundtablelaw54.MachineNexts', WHERE WHAT IT READS IS OF BULK AT MOST 1048576: true; the input reads as it did. -/
def machineNextsUptoRow : OpenClaim := { program := "ytflgecobobgpcaagreat", sum := "75236ff2ad029173f01925f60894f618f9b863eb47883ddc3826232c1e499d41", func := "roundtable/roundtablelaw54.MachineNexts", spec := "machineNexts", unfollowed := true, recurses := true, plainKeys := false, apart := false, narrowed := true }
def MachineNextsUptoSaid : Prop := machineNextsUptoRow.holds Tryz.pinned (OpenSpec.upto machineNextsSpec)

/-- 'roundtablelaw54.MachinePlays', WHERE WHAT IT READS IS OF BULK AT MOST 1048576: true; the input reads as it did. -/
def machinePlaysUptoRow : OpenClaim := { program := "ytflgecobobgpcaagreat", sum := "75236ff2ad029173f01925f60894f618f9b863eb47883ddc3826232c1e499d41", func := "roundtable/roundtablelaw54.MachinePlays", spec := "machinePlays", unfollowed := true, recurses := true, plainKeys := false, apart := false, narrowed := true }
def MachinePlaysUptoSaid : Prop := machinePlaysUptoRow.holds Tryz.pinned (OpenSpec.upto machinePlaysSpec)

/-- 'roundtablelaw54.MachineSynthesizes', WHERE WHAT IT READS IS OF BULK AT MOST 1048576: true; the input reads as it did. -/
def machineSynthesizesUptoRow : OpenClaim := { program := "ytflgecobobgpcaagreat", sum := "75236ff2ad029173f01925f60894f618f9b863eb47883ddc3826232c1e499d41", func := "roundtable/roundtablelaw54.MachineSynthesizes", spec := "machineSynthesizes", unfollowed := true, recurses := true, plainKeys := false, apart := false, narrowed := true }
def MachineSynthesizesUptoSaid : Prop := machineSynthesizesUptoRow.holds Tryz.pinned (OpenSpec.upto machineSynthesizesSpec)

/-- 'roundtablelaw54.MachineVerifies', WHERE WHAT IT READS IS OF BULK AT MOST 1048576: true; the input reads as it did. -/
def machineVerifiesUptoRow : OpenClaim := { program := "ytflgecobobgpcaagreat", sum := "75236ff2ad029173f01925f60894f618f9b863eb47883ddc3826232c1e499d41", func := "roundtable/roundtablelaw54.MachineVerifies", spec := "machineVerifies", unfollowed := true, recurses := true, plainKeys := false, apart := false, narrowed := true }
def MachineVerifiesUptoSaid : Prop := machineVerifiesUptoRow.holds Tryz.pinned (OpenSpec.upto machineVerifiesSpec)

/-- 'roundtablelaw54.MachineDecides', WHERE WHAT IT READS IS OF BULK AT MOST 1048576: true; the input reads as it did. -/
def machineDecidesUptoRow : OpenClaim := { program := "ytflgecobobgpcaagreat", sum := "75236ff2ad029173f01925f60894f618f9b863eb47883ddc3826232c1e499d41", func := "roundtable/roundtablelaw54.MachineDecides", spec := "machineDecides", unfollowed := true, recurses := true, plainKeys := false, apart := false, narrowed := true }
def MachineDecidesUptoSaid : Prop := machineDecidesUptoRow.holds Tryz.pinned (OpenSpec.upto machineDecidesSpec)

/-- 'roundtablelaw54.MachineRenumbers', WHERE WHAT IT READS IS OF BULK AT MOST 1048576: true; the input reads as it did. -/
def machineRenumbersUptoRow : OpenClaim := { program := "ytflgecobobgpcaagreat", sum := "75236ff2ad029173f01925f60894f618f9b863eb47883ddc3826232c1e499d41", func := "roundtable/roundtablelaw54.MachineRenumbers", spec := "machineRenumbers", unfollowed := true, recurses := true, plainKeys := false, apart := false, narrowed := true }
def MachineRenumbersUptoSaid : Prop := machineRenumbersUptoRow.holds Tryz.pinned (OpenSpec.upto machineRenumbersSpec)

/-- 'roundtablelaw54.MachineNeeds', WHERE WHAT IT READS IS OF BULK AT MOST 1048576: true; the input reads as it did. -/
def machineNeedsUptoRow : OpenClaim := { program := "ytflgecobobgpcaagreat", sum := "75236ff2ad029173f01925f60894f618f9b863eb47883ddc3826232c1e499d41", func := "roundtable/roundtablelaw54.MachineNeeds", spec := "machineNeeds", unfollowed := true, recurses := true, plainKeys := false, apart := false, narrowed := true }
def MachineNeedsUptoSaid : Prop := machineNeedsUptoRow.holds Tryz.pinned (OpenSpec.upto machineNeedsSpec)

end Rows
end Go.Proofs.YtflgecobobgpcaaGreat
