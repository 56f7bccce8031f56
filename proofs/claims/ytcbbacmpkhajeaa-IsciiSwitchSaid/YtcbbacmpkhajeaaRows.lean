/-
  No cell of these rows narrows 'for every input' (looked for: loops, veiled, ifaces, maps, wideKeys, modest, calm, conditions, laid).
  DERIVED. THE GIVEN ROWS OF THIS SEAT. 12 by the template 'for every input the law returns true; each argument reads behind the call as it read before'; 0 by the template 'total and deterministic' (their statements: YtcbbacmpkhajeaaTotals.lean).
  GIVEN WITH THE SEED: the statements are not yours to turn. If you find one false, say at which input.
  Laid BY PROGRAM, IN A SANDBOX (cutbox-rows.mjs): the forced cells as the released guide's own fill.sh prints them over the translation ee5d8149ee0e2a83… (all of the seat's roots in one cut). By AI agents, Wed Nov 11 2026. No macro, syntax, notation, axiom, sorry.
-/
import Derived.Test.YtcbbacmpkhajeaaChecked
import GoSem.Claim
import GoSem.ClaimJoined
import GoSem.ClaimMapViews
import Derived.JoinedTies
import Derived.KernelRfl
namespace Go.Proofs.Ytcbbacmpkhajeaa
/- THE CELL 'sum', in the pinned program and in every row, IS THE sha256 OF THE DUMP (.gsa) THAT YtcbbacmpkhajeaaProg.lean LOADS. Nothing in Lean hashes anything: it is a label: what it is worth is what the hold of that sum in a sandbox is worth. -/
noncomputable def Try.pinned : Pinned := { name := "ytcbbacmpkhajeaa", sum := "ee5d8149ee0e2a8365bde9bf4598d7ff10b398cc032c7926fd424e6923d4cf3c", checked := Try.checked }
namespace Rows
def none {H : Type} : Left H := { results := [], args := [] }

/-- 'lontarlaw16.MachineSoon': WHATEVER THE INPUT: true; the input reads as it did. -/
def machineSoonSpec : ChangeSpec := { name := "machineSoon", fn := fun _ => fun
  | [d1, d2] => { results := [.lit (.bool true)], args := [d1, d2] }
  | _ => none }
def machineSoonRow : OpenClaim := { program := "ytcbbacmpkhajeaa", sum := "ee5d8149ee0e2a8365bde9bf4598d7ff10b398cc032c7926fd424e6923d4cf3c", func := "lontar/lontarlaw16.MachineSoon", spec := "machineSoon", unfollowed := true, recurses := true, apart := false }
def MachineSoonSaid : Prop := machineSoonRow.holds Try.pinned (OpenSpec.ofChange machineSoonSpec)

/-- ITS FALSE NEIGHBOUR: 'it returns false'. Refute it at one input. -/
def machineSoonWrong : ChangeSpec := { name := "machineSoon", fn := fun _ => fun
  | [d1, d2] => { results := [.lit (.bool false)], args := [d1, d2] }
  | _ => none }
def MachineSoonWrongFalsely : Prop := machineSoonRow.holds Try.pinned (OpenSpec.ofChange machineSoonWrong)

/-- 'lontarlaw16.MachineHeld': WHATEVER THE INPUT: true; the input reads as it did. -/
def machineHeldSpec : ChangeSpec := { name := "machineHeld", fn := fun _ => fun
  | [d1, d2] => { results := [.lit (.bool true)], args := [d1, d2] }
  | _ => none }
def machineHeldRow : OpenClaim := { program := "ytcbbacmpkhajeaa", sum := "ee5d8149ee0e2a8365bde9bf4598d7ff10b398cc032c7926fd424e6923d4cf3c", func := "lontar/lontarlaw16.MachineHeld", spec := "machineHeld", unfollowed := true, recurses := true, apart := false }
def MachineHeldSaid : Prop := machineHeldRow.holds Try.pinned (OpenSpec.ofChange machineHeldSpec)

/-- ITS FALSE NEIGHBOUR: 'it returns false'. Refute it at one input. -/
def machineHeldWrong : ChangeSpec := { name := "machineHeld", fn := fun _ => fun
  | [d1, d2] => { results := [.lit (.bool false)], args := [d1, d2] }
  | _ => none }
def MachineHeldWrongFalsely : Prop := machineHeldRow.holds Try.pinned (OpenSpec.ofChange machineHeldWrong)

/-- 'lontarlaw16.MachineDecode': WHATEVER THE INPUT: true; the input reads as it did. -/
def machineDecodeSpec : ChangeSpec := { name := "machineDecode", fn := fun _ => fun
  | [d1, d2] => { results := [.lit (.bool true)], args := [d1, d2] }
  | _ => none }
def machineDecodeRow : OpenClaim := { program := "ytcbbacmpkhajeaa", sum := "ee5d8149ee0e2a8365bde9bf4598d7ff10b398cc032c7926fd424e6923d4cf3c", func := "lontar/lontarlaw16.MachineDecode", spec := "machineDecode", unfollowed := true, recurses := true, apart := false }
def MachineDecodeSaid : Prop := machineDecodeRow.holds Try.pinned (OpenSpec.ofChange machineDecodeSpec)

/-- ITS FALSE NEIGHBOUR: 'it returns false'. Refute it at one input. -/
def machineDecodeWrong : ChangeSpec := { name := "machineDecode", fn := fun _ => fun
  | [d1, d2] => { results := [.lit (.bool false)], args := [d1, d2] }
  | _ => none }
def MachineDecodeWrongFalsely : Prop := machineDecodeRow.holds Try.pinned (OpenSpec.ofChange machineDecodeWrong)

/-- 'lontarlaw16.MachineEncode': WHATEVER THE INPUT: true; the input reads as it did. -/
def machineEncodeSpec : ChangeSpec := { name := "machineEncode", fn := fun _ => fun
  | [d1, d2] => { results := [.lit (.bool true)], args := [d1, d2] }
  | _ => none }
def machineEncodeRow : OpenClaim := { program := "ytcbbacmpkhajeaa", sum := "ee5d8149ee0e2a8365bde9bf4598d7ff10b398cc032c7926fd424e6923d4cf3c", func := "lontar/lontarlaw16.MachineEncode", spec := "machineEncode", unfollowed := true, recurses := true, apart := false }
def MachineEncodeSaid : Prop := machineEncodeRow.holds Try.pinned (OpenSpec.ofChange machineEncodeSpec)

/-- ITS FALSE NEIGHBOUR: 'it returns false'. Refute it at one input. -/
def machineEncodeWrong : ChangeSpec := { name := "machineEncode", fn := fun _ => fun
  | [d1, d2] => { results := [.lit (.bool false)], args := [d1, d2] }
  | _ => none }
def MachineEncodeWrongFalsely : Prop := machineEncodeRow.holds Try.pinned (OpenSpec.ofChange machineEncodeWrong)

/-- 'lontarlaw16.MachineApart': WHATEVER THE INPUT: true; the input reads as it did. -/
def machineApartSpec : ChangeSpec := { name := "machineApart", fn := fun _ => fun
  | [d1, d2, d3] => { results := [.lit (.bool true)], args := [d1, d2, d3] }
  | _ => none }
def machineApartRow : OpenClaim := { program := "ytcbbacmpkhajeaa", sum := "ee5d8149ee0e2a8365bde9bf4598d7ff10b398cc032c7926fd424e6923d4cf3c", func := "lontar/lontarlaw16.MachineApart", spec := "machineApart", unfollowed := true, recurses := true, apart := false }
def MachineApartSaid : Prop := machineApartRow.holds Try.pinned (OpenSpec.ofChange machineApartSpec)

/-- ITS FALSE NEIGHBOUR: 'it returns false'. Refute it at one input. -/
def machineApartWrong : ChangeSpec := { name := "machineApart", fn := fun _ => fun
  | [d1, d2, d3] => { results := [.lit (.bool false)], args := [d1, d2, d3] }
  | _ => none }
def MachineApartWrongFalsely : Prop := machineApartRow.holds Try.pinned (OpenSpec.ofChange machineApartWrong)

/-- 'lontarlaw16.MachineBoth': WHATEVER THE INPUT: true; the input reads as it did. -/
def machineBothSpec : ChangeSpec := { name := "machineBoth", fn := fun _ => fun
  | [d1, d2] => { results := [.lit (.bool true)], args := [d1, d2] }
  | _ => none }
def machineBothRow : OpenClaim := { program := "ytcbbacmpkhajeaa", sum := "ee5d8149ee0e2a8365bde9bf4598d7ff10b398cc032c7926fd424e6923d4cf3c", func := "lontar/lontarlaw16.MachineBoth", spec := "machineBoth", unfollowed := true, recurses := true, apart := false }
def MachineBothSaid : Prop := machineBothRow.holds Try.pinned (OpenSpec.ofChange machineBothSpec)

/-- ITS FALSE NEIGHBOUR: 'it returns false'. Refute it at one input. -/
def machineBothWrong : ChangeSpec := { name := "machineBoth", fn := fun _ => fun
  | [d1, d2] => { results := [.lit (.bool false)], args := [d1, d2] }
  | _ => none }
def MachineBothWrongFalsely : Prop := machineBothRow.holds Try.pinned (OpenSpec.ofChange machineBothWrong)

/-- 'lontarlaw18.IsciiScripts': WHATEVER THE INPUT: true; the input reads as it did. -/
def isciiScriptsSpec : ChangeSpec := { name := "isciiScripts", fn := fun _ => fun
  | [d1, d2] => { results := [.lit (.bool true)], args := [d1, d2] }
  | _ => none }
def isciiScriptsRow : OpenClaim := { program := "ytcbbacmpkhajeaa", sum := "ee5d8149ee0e2a8365bde9bf4598d7ff10b398cc032c7926fd424e6923d4cf3c", func := "lontar/lontarlaw18.IsciiScripts", spec := "isciiScripts", unfollowed := true, recurses := true, apart := false }
def IsciiScriptsSaid : Prop := isciiScriptsRow.holds Try.pinned (OpenSpec.ofChange isciiScriptsSpec)

/-- ITS FALSE NEIGHBOUR: 'it returns false'. Refute it at one input. -/
def isciiScriptsWrong : ChangeSpec := { name := "isciiScripts", fn := fun _ => fun
  | [d1, d2] => { results := [.lit (.bool false)], args := [d1, d2] }
  | _ => none }
def IsciiScriptsWrongFalsely : Prop := isciiScriptsRow.holds Try.pinned (OpenSpec.ofChange isciiScriptsWrong)

/-- 'lontarlaw18.IsciiBack': WHATEVER THE INPUT: true; the input reads as it did. -/
def isciiBackSpec : ChangeSpec := { name := "isciiBack", fn := fun _ => fun
  | [d] => { results := [.lit (.bool true)], args := [d] }
  | _ => none }
def isciiBackRow : OpenClaim := { program := "ytcbbacmpkhajeaa", sum := "ee5d8149ee0e2a8365bde9bf4598d7ff10b398cc032c7926fd424e6923d4cf3c", func := "lontar/lontarlaw18.IsciiBack", spec := "isciiBack", unfollowed := true, recurses := true, apart := false }
def IsciiBackSaid : Prop := isciiBackRow.holds Try.pinned (OpenSpec.ofChange isciiBackSpec)

/-- ITS FALSE NEIGHBOUR: 'it returns false'. Refute it at one input. -/
def isciiBackWrong : ChangeSpec := { name := "isciiBack", fn := fun _ => fun
  | [d] => { results := [.lit (.bool false)], args := [d] }
  | _ => none }
def IsciiBackWrongFalsely : Prop := isciiBackRow.holds Try.pinned (OpenSpec.ofChange isciiBackWrong)

/-- 'lontarlaw18.IsciiSwitch': WHATEVER THE INPUT: true; the input reads as it did. -/
def isciiSwitchSpec : ChangeSpec := { name := "isciiSwitch", fn := fun _ => fun
  | [d] => { results := [.lit (.bool true)], args := [d] }
  | _ => none }
def isciiSwitchRow : OpenClaim := { program := "ytcbbacmpkhajeaa", sum := "ee5d8149ee0e2a8365bde9bf4598d7ff10b398cc032c7926fd424e6923d4cf3c", func := "lontar/lontarlaw18.IsciiSwitch", spec := "isciiSwitch", unfollowed := true, recurses := true, apart := false }
def IsciiSwitchSaid : Prop := isciiSwitchRow.holds Try.pinned (OpenSpec.ofChange isciiSwitchSpec)

/-- ITS FALSE NEIGHBOUR: 'it returns false'. Refute it at one input. -/
def isciiSwitchWrong : ChangeSpec := { name := "isciiSwitch", fn := fun _ => fun
  | [d] => { results := [.lit (.bool false)], args := [d] }
  | _ => none }
def IsciiSwitchWrongFalsely : Prop := isciiSwitchRow.holds Try.pinned (OpenSpec.ofChange isciiSwitchWrong)

/-- 'lontarlaw18.IsciiEncode': WHATEVER THE INPUT: true; the input reads as it did. -/
def isciiEncodeSpec : ChangeSpec := { name := "isciiEncode", fn := fun _ => fun
  | [d1, d2] => { results := [.lit (.bool true)], args := [d1, d2] }
  | _ => none }
def isciiEncodeRow : OpenClaim := { program := "ytcbbacmpkhajeaa", sum := "ee5d8149ee0e2a8365bde9bf4598d7ff10b398cc032c7926fd424e6923d4cf3c", func := "lontar/lontarlaw18.IsciiEncode", spec := "isciiEncode", unfollowed := true, recurses := true, apart := false }
def IsciiEncodeSaid : Prop := isciiEncodeRow.holds Try.pinned (OpenSpec.ofChange isciiEncodeSpec)

/-- ITS FALSE NEIGHBOUR: 'it returns false'. Refute it at one input. -/
def isciiEncodeWrong : ChangeSpec := { name := "isciiEncode", fn := fun _ => fun
  | [d1, d2] => { results := [.lit (.bool false)], args := [d1, d2] }
  | _ => none }
def IsciiEncodeWrongFalsely : Prop := isciiEncodeRow.holds Try.pinned (OpenSpec.ofChange isciiEncodeWrong)

/-- 'lontarlaw18.IsciiDecode': WHATEVER THE INPUT: true; the input reads as it did. -/
def isciiDecodeSpec : ChangeSpec := { name := "isciiDecode", fn := fun _ => fun
  | [d1, d2] => { results := [.lit (.bool true)], args := [d1, d2] }
  | _ => none }
def isciiDecodeRow : OpenClaim := { program := "ytcbbacmpkhajeaa", sum := "ee5d8149ee0e2a8365bde9bf4598d7ff10b398cc032c7926fd424e6923d4cf3c", func := "lontar/lontarlaw18.IsciiDecode", spec := "isciiDecode", unfollowed := true, recurses := true, apart := false }
def IsciiDecodeSaid : Prop := isciiDecodeRow.holds Try.pinned (OpenSpec.ofChange isciiDecodeSpec)

/-- ITS FALSE NEIGHBOUR: 'it returns false'. Refute it at one input. -/
def isciiDecodeWrong : ChangeSpec := { name := "isciiDecode", fn := fun _ => fun
  | [d1, d2] => { results := [.lit (.bool false)], args := [d1, d2] }
  | _ => none }
def IsciiDecodeWrongFalsely : Prop := isciiDecodeRow.holds Try.pinned (OpenSpec.ofChange isciiDecodeWrong)

/-- 'lontarlaw18.IsciiHeld': WHATEVER THE INPUT: true; the input reads as it did. -/
def isciiHeldSpec : ChangeSpec := { name := "isciiHeld", fn := fun _ => fun
  | [d] => { results := [.lit (.bool true)], args := [d] }
  | _ => none }
def isciiHeldRow : OpenClaim := { program := "ytcbbacmpkhajeaa", sum := "ee5d8149ee0e2a8365bde9bf4598d7ff10b398cc032c7926fd424e6923d4cf3c", func := "lontar/lontarlaw18.IsciiHeld", spec := "isciiHeld", unfollowed := true, recurses := true, apart := false }
def IsciiHeldSaid : Prop := isciiHeldRow.holds Try.pinned (OpenSpec.ofChange isciiHeldSpec)

/-- ITS FALSE NEIGHBOUR: 'it returns false'. Refute it at one input. -/
def isciiHeldWrong : ChangeSpec := { name := "isciiHeld", fn := fun _ => fun
  | [d] => { results := [.lit (.bool false)], args := [d] }
  | _ => none }
def IsciiHeldWrongFalsely : Prop := isciiHeldRow.holds Try.pinned (OpenSpec.ofChange isciiHeldWrong)

/- THE SECOND FORM. 'bulk': how many values and letters a reading holds, each counted each time it is reached (what is shared counts as often as it is met; a slice's spare places count too). A statement '..UptoSaid' is the law's where the arguments, and the package variables that the reading takes, are together of bulk at most 1048576: NARROWER than '..Said'. Prove '..Said' where nothing that the law and all that it calls make is longer than what came in: it says more and counts as full. Else prove '..UptoSaid'. A law counts once. -/
mutual
def uptoBulk {H : Type} : DataW H → Nat
  | .lit (.string bytes) => bytes.length + 1
  | .lit _ => 1
  | .nil => 1
  | .ptr d => uptoBulk d + 1
  | .slice elems spare => uptoBulkAll elems + uptoBulkAll spare + 1
  | .agg parts => uptoBulkAll parts + 1
  | .iface _ d => uptoBulk d + 1
  | .map entries => uptoBulkEntries entries + 1
  | .held _ => 1
def uptoBulkAll {H : Type} : List (DataW H) → Nat
  | [] => 0
  | d :: r => uptoBulk d + uptoBulkAll r
def uptoBulkEntries {H : Type} : List (Lit × DataW H) → Nat
  | [] => 0
  | x :: r => uptoBulkEntry x + uptoBulkEntries r
def uptoBulkEntry {H : Type} : Lit × DataW H → Nat
  | (.string bytes, d) => bytes.length + uptoBulk d + 1
  | (_, d) => uptoBulk d + 1
 end
def uptoSmall : (H : Type) → List (DataW H) → Bool := fun _ ds => decide (uptoBulkAll ds ≤ 1048576)
def OpenSpec.upto (s : _root_.Go.ChangeSpec) : _root_.Go.OpenSpec := { _root_.Go.OpenSpec.ofChange s with cond := some uptoSmall }

/-- 'lontarlaw16.MachineSoon', WHERE WHAT IT READS IS OF BULK AT MOST 1048576: true; the input reads as it did. -/
def machineSoonUptoRow : OpenClaim := { program := "ytcbbacmpkhajeaa", sum := "ee5d8149ee0e2a8365bde9bf4598d7ff10b398cc032c7926fd424e6923d4cf3c", func := "lontar/lontarlaw16.MachineSoon", spec := "machineSoon", unfollowed := true, recurses := true, apart := false, narrowed := true }
def MachineSoonUptoSaid : Prop := machineSoonUptoRow.holds Try.pinned (OpenSpec.upto machineSoonSpec)

/-- 'lontarlaw16.MachineHeld', WHERE WHAT IT READS IS OF BULK AT MOST 1048576: true; the input reads as it did. -/
def machineHeldUptoRow : OpenClaim := { program := "ytcbbacmpkhajeaa", sum := "ee5d8149ee0e2a8365bde9bf4598d7ff10b398cc032c7926fd424e6923d4cf3c", func := "lontar/lontarlaw16.MachineHeld", spec := "machineHeld", unfollowed := true, recurses := true, apart := false, narrowed := true }
def MachineHeldUptoSaid : Prop := machineHeldUptoRow.holds Try.pinned (OpenSpec.upto machineHeldSpec)

/-- 'lontarlaw16.MachineDecode', WHERE WHAT IT READS IS OF BULK AT MOST 1048576: true; the input reads as it did. -/
def machineDecodeUptoRow : OpenClaim := { program := "ytcbbacmpkhajeaa", sum := "ee5d8149ee0e2a8365bde9bf4598d7ff10b398cc032c7926fd424e6923d4cf3c", func := "lontar/lontarlaw16.MachineDecode", spec := "machineDecode", unfollowed := true, recurses := true, apart := false, narrowed := true }
def MachineDecodeUptoSaid : Prop := machineDecodeUptoRow.holds Try.pinned (OpenSpec.upto machineDecodeSpec)

/-- 'lontarlaw16.MachineEncode', WHERE WHAT IT READS IS OF BULK AT MOST 1048576: true; the input reads as it did. -/
def machineEncodeUptoRow : OpenClaim := { program := "ytcbbacmpkhajeaa", sum := "ee5d8149ee0e2a8365bde9bf4598d7ff10b398cc032c7926fd424e6923d4cf3c", func := "lontar/lontarlaw16.MachineEncode", spec := "machineEncode", unfollowed := true, recurses := true, apart := false, narrowed := true }
def MachineEncodeUptoSaid : Prop := machineEncodeUptoRow.holds Try.pinned (OpenSpec.upto machineEncodeSpec)

/-- 'lontarlaw16.MachineApart', WHERE WHAT IT READS IS OF BULK AT MOST 1048576: true; the input reads as it did. -/
def machineApartUptoRow : OpenClaim := { program := "ytcbbacmpkhajeaa", sum := "ee5d8149ee0e2a8365bde9bf4598d7ff10b398cc032c7926fd424e6923d4cf3c", func := "lontar/lontarlaw16.MachineApart", spec := "machineApart", unfollowed := true, recurses := true, apart := false, narrowed := true }
def MachineApartUptoSaid : Prop := machineApartUptoRow.holds Try.pinned (OpenSpec.upto machineApartSpec)

/-- 'lontarlaw16.MachineBoth', WHERE WHAT IT READS IS OF BULK AT MOST 1048576: true; the input reads as it did. -/
def machineBothUptoRow : OpenClaim := { program := "ytcbbacmpkhajeaa", sum := "ee5d8149ee0e2a8365bde9bf4598d7ff10b398cc032c7926fd424e6923d4cf3c", func := "lontar/lontarlaw16.MachineBoth", spec := "machineBoth", unfollowed := true, recurses := true, apart := false, narrowed := true }
def MachineBothUptoSaid : Prop := machineBothUptoRow.holds Try.pinned (OpenSpec.upto machineBothSpec)

/-- 'lontarlaw18.IsciiScripts', WHERE WHAT IT READS IS OF BULK AT MOST 1048576: true; the input reads as it did. -/
def isciiScriptsUptoRow : OpenClaim := { program := "ytcbbacmpkhajeaa", sum := "ee5d8149ee0e2a8365bde9bf4598d7ff10b398cc032c7926fd424e6923d4cf3c", func := "lontar/lontarlaw18.IsciiScripts", spec := "isciiScripts", unfollowed := true, recurses := true, apart := false, narrowed := true }
def IsciiScriptsUptoSaid : Prop := isciiScriptsUptoRow.holds Try.pinned (OpenSpec.upto isciiScriptsSpec)

/-- 'lontarlaw18.IsciiBack', WHERE WHAT IT READS IS OF BULK AT MOST 1048576: true; the input reads as it did. -/
def isciiBackUptoRow : OpenClaim := { program := "ytcbbacmpkhajeaa", sum := "ee5d8149ee0e2a8365bde9bf4598d7ff10b398cc032c7926fd424e6923d4cf3c", func := "lontar/lontarlaw18.IsciiBack", spec := "isciiBack", unfollowed := true, recurses := true, apart := false, narrowed := true }
def IsciiBackUptoSaid : Prop := isciiBackUptoRow.holds Try.pinned (OpenSpec.upto isciiBackSpec)

/-- 'lontarlaw18.IsciiSwitch', WHERE WHAT IT READS IS OF BULK AT MOST 1048576: true; the input reads as it did. -/
def isciiSwitchUptoRow : OpenClaim := { program := "ytcbbacmpkhajeaa", sum := "ee5d8149ee0e2a8365bde9bf4598d7ff10b398cc032c7926fd424e6923d4cf3c", func := "lontar/lontarlaw18.IsciiSwitch", spec := "isciiSwitch", unfollowed := true, recurses := true, apart := false, narrowed := true }
def IsciiSwitchUptoSaid : Prop := isciiSwitchUptoRow.holds Try.pinned (OpenSpec.upto isciiSwitchSpec)

/-- 'lontarlaw18.IsciiEncode', WHERE WHAT IT READS IS OF BULK AT MOST 1048576: true; the input reads as it did. -/
def isciiEncodeUptoRow : OpenClaim := { program := "ytcbbacmpkhajeaa", sum := "ee5d8149ee0e2a8365bde9bf4598d7ff10b398cc032c7926fd424e6923d4cf3c", func := "lontar/lontarlaw18.IsciiEncode", spec := "isciiEncode", unfollowed := true, recurses := true, apart := false, narrowed := true }
def IsciiEncodeUptoSaid : Prop := isciiEncodeUptoRow.holds Try.pinned (OpenSpec.upto isciiEncodeSpec)

/-- 'lontarlaw18.IsciiDecode', WHERE WHAT IT READS IS OF BULK AT MOST 1048576: true; the input reads as it did. -/
def isciiDecodeUptoRow : OpenClaim := { program := "ytcbbacmpkhajeaa", sum := "ee5d8149ee0e2a8365bde9bf4598d7ff10b398cc032c7926fd424e6923d4cf3c", func := "lontar/lontarlaw18.IsciiDecode", spec := "isciiDecode", unfollowed := true, recurses := true, apart := false, narrowed := true }
def IsciiDecodeUptoSaid : Prop := isciiDecodeUptoRow.holds Try.pinned (OpenSpec.upto isciiDecodeSpec)

/-- 'lontarlaw18.IsciiHeld', WHERE WHAT IT READS IS OF BULK AT MOST 1048576: true; the input reads as it did. -/
def isciiHeldUptoRow : OpenClaim := { program := "ytcbbacmpkhajeaa", sum := "ee5d8149ee0e2a8365bde9bf4598d7ff10b398cc032c7926fd424e6923d4cf3c", func := "lontar/lontarlaw18.IsciiHeld", spec := "isciiHeld", unfollowed := true, recurses := true, apart := false, narrowed := true }
def IsciiHeldUptoSaid : Prop := isciiHeldUptoRow.holds Try.pinned (OpenSpec.upto isciiHeldSpec)

end Rows
end Go.Proofs.Ytcbbacmpkhajeaa
