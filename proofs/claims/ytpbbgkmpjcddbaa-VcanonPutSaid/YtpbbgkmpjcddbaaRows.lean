/-
  No cell of these rows narrows 'for every input' (looked for: loops, veiled, ifaces, maps, wideKeys, modest, calm, conditions, laid).
  DERIVED. THE GIVEN ROWS OF THIS SEAT. 20 by the template 'for every input the law returns true; each argument reads behind the call as it read before'; 0 by the template 'total and deterministic' (their statements: YtpbbgkmpjcddbaaTotals.lean).
  GIVEN WITH THE SEED: the statements are not yours to turn. If you find one false, say at which input.
  Laid BY PROGRAM, IN A SANDBOX (cutbox-rows.mjs): the forced cells as the released guide's own fill.sh prints them over the translation 8ebdeb1fe4b6025d… (all of the seat's roots in one cut). By AI agents, Wed Nov 11 2026. No macro, syntax, notation, axiom, sorry.
-/
import Derived.Test.YtpbbgkmpjcddbaaChecked
import GoSem.Claim
import GoSem.ClaimJoined
import GoSem.ClaimMapViews
import Derived.JoinedTies
import Derived.KernelRfl
namespace Go.Proofs.Ytpbbgkmpjcddbaa
/- THE CELL 'sum', in the pinned program and in every row, IS THE sha256 OF THE DUMP (.gsa) THAT YtpbbgkmpjcddbaaProg.lean LOADS. Nothing in Lean hashes anything: it is a label: what it is worth is what the hold of that sum in a sandbox is worth. -/
noncomputable def Try.pinned : Pinned := { name := "ytpbbgkmpjcddbaa", sum := "8ebdeb1fe4b6025df98f3b5484d2a96497fedc07475c0c86cb5f9d374e1d656a", checked := Try.checked }
namespace Rows
def none {H : Type} : Left H := { results := [], args := [] }

/-- 'lontarlaw11.VisciiDecode': WHATEVER THE INPUT: true; the input reads as it did. -/
def visciiDecodeSpec : ChangeSpec := { name := "visciiDecode", fn := fun _ => fun
  | [d] => { results := [.lit (.bool true)], args := [d] }
  | _ => none }
def visciiDecodeRow : OpenClaim := { program := "ytpbbgkmpjcddbaa", sum := "8ebdeb1fe4b6025df98f3b5484d2a96497fedc07475c0c86cb5f9d374e1d656a", func := "lontar/lontarlaw11.VisciiDecode", spec := "visciiDecode", apart := false }
def VisciiDecodeSaid : Prop := visciiDecodeRow.holds Try.pinned (OpenSpec.ofChange visciiDecodeSpec)

/-- ITS FALSE NEIGHBOUR: 'it returns false'. Refute it at one input. -/
def visciiDecodeWrong : ChangeSpec := { name := "visciiDecode", fn := fun _ => fun
  | [d] => { results := [.lit (.bool false)], args := [d] }
  | _ => none }
def VisciiDecodeWrongFalsely : Prop := visciiDecodeRow.holds Try.pinned (OpenSpec.ofChange visciiDecodeWrong)

/-- 'lontarlaw11.VisciiEncode': WHATEVER THE INPUT: true; the input reads as it did. -/
def visciiEncodeSpec : ChangeSpec := { name := "visciiEncode", fn := fun _ => fun
  | [d1, d2] => { results := [.lit (.bool true)], args := [d1, d2] }
  | _ => none }
def visciiEncodeRow : OpenClaim := { program := "ytpbbgkmpjcddbaa", sum := "8ebdeb1fe4b6025df98f3b5484d2a96497fedc07475c0c86cb5f9d374e1d656a", func := "lontar/lontarlaw11.VisciiEncode", spec := "visciiEncode", apart := false }
def VisciiEncodeSaid : Prop := visciiEncodeRow.holds Try.pinned (OpenSpec.ofChange visciiEncodeSpec)

/-- ITS FALSE NEIGHBOUR: 'it returns false'. Refute it at one input. -/
def visciiEncodeWrong : ChangeSpec := { name := "visciiEncode", fn := fun _ => fun
  | [d1, d2] => { results := [.lit (.bool false)], args := [d1, d2] }
  | _ => none }
def VisciiEncodeWrongFalsely : Prop := visciiEncodeRow.holds Try.pinned (OpenSpec.ofChange visciiEncodeWrong)

/-- 'lontarlaw11.VisciiRules': WHATEVER THE INPUT: true; the input reads as it did. -/
def visciiRulesSpec : ChangeSpec := { name := "visciiRules", fn := fun _ => fun
  | [d] => { results := [.lit (.bool true)], args := [d] }
  | _ => none }
def visciiRulesRow : OpenClaim := { program := "ytpbbgkmpjcddbaa", sum := "8ebdeb1fe4b6025df98f3b5484d2a96497fedc07475c0c86cb5f9d374e1d656a", func := "lontar/lontarlaw11.VisciiRules", spec := "visciiRules", apart := false }
def VisciiRulesSaid : Prop := visciiRulesRow.holds Try.pinned (OpenSpec.ofChange visciiRulesSpec)

/-- ITS FALSE NEIGHBOUR: 'it returns false'. Refute it at one input. -/
def visciiRulesWrong : ChangeSpec := { name := "visciiRules", fn := fun _ => fun
  | [d] => { results := [.lit (.bool false)], args := [d] }
  | _ => none }
def VisciiRulesWrongFalsely : Prop := visciiRulesRow.holds Try.pinned (OpenSpec.ofChange visciiRulesWrong)

/-- 'lontarlaw11.VisciiAll': WHATEVER THE INPUT: true; the input reads as it did. -/
def visciiAllSpec : ChangeSpec := { name := "visciiAll", fn := fun _ => fun
  | [d] => { results := [.lit (.bool true)], args := [d] }
  | _ => none }
def visciiAllRow : OpenClaim := { program := "ytpbbgkmpjcddbaa", sum := "8ebdeb1fe4b6025df98f3b5484d2a96497fedc07475c0c86cb5f9d374e1d656a", func := "lontar/lontarlaw11.VisciiAll", spec := "visciiAll", apart := false }
def VisciiAllSaid : Prop := visciiAllRow.holds Try.pinned (OpenSpec.ofChange visciiAllSpec)

/-- ITS FALSE NEIGHBOUR: 'it returns false'. Refute it at one input. -/
def visciiAllWrong : ChangeSpec := { name := "visciiAll", fn := fun _ => fun
  | [d] => { results := [.lit (.bool false)], args := [d] }
  | _ => none }
def VisciiAllWrongFalsely : Prop := visciiAllRow.holds Try.pinned (OpenSpec.ofChange visciiAllWrong)

/-- 'lontarlaw11.VisciiRound': WHATEVER THE INPUT: true; the input reads as it did. -/
def visciiRoundSpec : ChangeSpec := { name := "visciiRound", fn := fun _ => fun
  | [d1, d2] => { results := [.lit (.bool true)], args := [d1, d2] }
  | _ => none }
def visciiRoundRow : OpenClaim := { program := "ytpbbgkmpjcddbaa", sum := "8ebdeb1fe4b6025df98f3b5484d2a96497fedc07475c0c86cb5f9d374e1d656a", func := "lontar/lontarlaw11.VisciiRound", spec := "visciiRound", apart := false }
def VisciiRoundSaid : Prop := visciiRoundRow.holds Try.pinned (OpenSpec.ofChange visciiRoundSpec)

/-- ITS FALSE NEIGHBOUR: 'it returns false'. Refute it at one input. -/
def visciiRoundWrong : ChangeSpec := { name := "visciiRound", fn := fun _ => fun
  | [d1, d2] => { results := [.lit (.bool false)], args := [d1, d2] }
  | _ => none }
def VisciiRoundWrongFalsely : Prop := visciiRoundRow.holds Try.pinned (OpenSpec.ofChange visciiRoundWrong)

/-- 'lontarlaw11.VisciiAscii': WHATEVER THE INPUT: true; the input reads as it did. -/
def visciiAsciiSpec : ChangeSpec := { name := "visciiAscii", fn := fun _ => fun
  | [d] => { results := [.lit (.bool true)], args := [d] }
  | _ => none }
def visciiAsciiRow : OpenClaim := { program := "ytpbbgkmpjcddbaa", sum := "8ebdeb1fe4b6025df98f3b5484d2a96497fedc07475c0c86cb5f9d374e1d656a", func := "lontar/lontarlaw11.VisciiAscii", spec := "visciiAscii", apart := false }
def VisciiAsciiSaid : Prop := visciiAsciiRow.holds Try.pinned (OpenSpec.ofChange visciiAsciiSpec)

/-- ITS FALSE NEIGHBOUR: 'it returns false'. Refute it at one input. -/
def visciiAsciiWrong : ChangeSpec := { name := "visciiAscii", fn := fun _ => fun
  | [d] => { results := [.lit (.bool false)], args := [d] }
  | _ => none }
def VisciiAsciiWrongFalsely : Prop := visciiAsciiRow.holds Try.pinned (OpenSpec.ofChange visciiAsciiWrong)

/-- 'lontarlaw09.VietAll': WHATEVER THE INPUT: true; the input reads as it did. -/
def vietAllSpec : ChangeSpec := { name := "vietAll", fn := fun _ => fun
  | [d] => { results := [.lit (.bool true)], args := [d] }
  | _ => none }
def vietAllRow : OpenClaim := { program := "ytpbbgkmpjcddbaa", sum := "8ebdeb1fe4b6025df98f3b5484d2a96497fedc07475c0c86cb5f9d374e1d656a", func := "lontar/lontarlaw09.VietAll", spec := "vietAll", apart := false }
def VietAllSaid : Prop := vietAllRow.holds Try.pinned (OpenSpec.ofChange vietAllSpec)

/-- ITS FALSE NEIGHBOUR: 'it returns false'. Refute it at one input. -/
def vietAllWrong : ChangeSpec := { name := "vietAll", fn := fun _ => fun
  | [d] => { results := [.lit (.bool false)], args := [d] }
  | _ => none }
def VietAllWrongFalsely : Prop := vietAllRow.holds Try.pinned (OpenSpec.ofChange vietAllWrong)

/-- 'lontarlaw09.VietSplit': WHATEVER THE INPUT: true; the input reads as it did. -/
def vietSplitSpec : ChangeSpec := { name := "vietSplit", fn := fun _ => fun
  | [d1, d2] => { results := [.lit (.bool true)], args := [d1, d2] }
  | _ => none }
def vietSplitRow : OpenClaim := { program := "ytpbbgkmpjcddbaa", sum := "8ebdeb1fe4b6025df98f3b5484d2a96497fedc07475c0c86cb5f9d374e1d656a", func := "lontar/lontarlaw09.VietSplit", spec := "vietSplit", apart := false }
def VietSplitSaid : Prop := vietSplitRow.holds Try.pinned (OpenSpec.ofChange vietSplitSpec)

/-- ITS FALSE NEIGHBOUR: 'it returns false'. Refute it at one input. -/
def vietSplitWrong : ChangeSpec := { name := "vietSplit", fn := fun _ => fun
  | [d1, d2] => { results := [.lit (.bool false)], args := [d1, d2] }
  | _ => none }
def VietSplitWrongFalsely : Prop := vietSplitRow.holds Try.pinned (OpenSpec.ofChange vietSplitWrong)

/-- 'lontarlaw09.VietJoin': WHATEVER THE INPUT: true; the input reads as it did. -/
def vietJoinSpec : ChangeSpec := { name := "vietJoin", fn := fun _ => fun
  | [d1, d2, d3, d4, d5] => { results := [.lit (.bool true)], args := [d1, d2, d3, d4, d5] }
  | _ => none }
def vietJoinRow : OpenClaim := { program := "ytpbbgkmpjcddbaa", sum := "8ebdeb1fe4b6025df98f3b5484d2a96497fedc07475c0c86cb5f9d374e1d656a", func := "lontar/lontarlaw09.VietJoin", spec := "vietJoin", apart := false }
def VietJoinSaid : Prop := vietJoinRow.holds Try.pinned (OpenSpec.ofChange vietJoinSpec)

/-- ITS FALSE NEIGHBOUR: 'it returns false'. Refute it at one input. -/
def vietJoinWrong : ChangeSpec := { name := "vietJoin", fn := fun _ => fun
  | [d1, d2, d3, d4, d5] => { results := [.lit (.bool false)], args := [d1, d2, d3, d4, d5] }
  | _ => none }
def VietJoinWrongFalsely : Prop := vietJoinRow.holds Try.pinned (OpenSpec.ofChange vietJoinWrong)

/-- 'lontarlaw09.VietAdd': WHATEVER THE INPUT: true; the input reads as it did. -/
def vietAddSpec : ChangeSpec := { name := "vietAdd", fn := fun _ => fun
  | [d1, d2, d3, d4] => { results := [.lit (.bool true)], args := [d1, d2, d3, d4] }
  | _ => none }
def vietAddRow : OpenClaim := { program := "ytpbbgkmpjcddbaa", sum := "8ebdeb1fe4b6025df98f3b5484d2a96497fedc07475c0c86cb5f9d374e1d656a", func := "lontar/lontarlaw09.VietAdd", spec := "vietAdd", apart := false }
def VietAddSaid : Prop := vietAddRow.holds Try.pinned (OpenSpec.ofChange vietAddSpec)

/-- ITS FALSE NEIGHBOUR: 'it returns false'. Refute it at one input. -/
def vietAddWrong : ChangeSpec := { name := "vietAdd", fn := fun _ => fun
  | [d1, d2, d3, d4] => { results := [.lit (.bool false)], args := [d1, d2, d3, d4] }
  | _ => none }
def VietAddWrongFalsely : Prop := vietAddRow.holds Try.pinned (OpenSpec.ofChange vietAddWrong)

/-- 'lontarlaw09.VietRound': WHATEVER THE INPUT: true; the input reads as it did. -/
def vietRoundSpec : ChangeSpec := { name := "vietRound", fn := fun _ => fun
  | [d1, d2] => { results := [.lit (.bool true)], args := [d1, d2] }
  | _ => none }
def vietRoundRow : OpenClaim := { program := "ytpbbgkmpjcddbaa", sum := "8ebdeb1fe4b6025df98f3b5484d2a96497fedc07475c0c86cb5f9d374e1d656a", func := "lontar/lontarlaw09.VietRound", spec := "vietRound", apart := false }
def VietRoundSaid : Prop := vietRoundRow.holds Try.pinned (OpenSpec.ofChange vietRoundSpec)

/-- ITS FALSE NEIGHBOUR: 'it returns false'. Refute it at one input. -/
def vietRoundWrong : ChangeSpec := { name := "vietRound", fn := fun _ => fun
  | [d1, d2] => { results := [.lit (.bool false)], args := [d1, d2] }
  | _ => none }
def VietRoundWrongFalsely : Prop := vietRoundRow.holds Try.pinned (OpenSpec.ofChange vietRoundWrong)

/-- 'lontarlaw09.VietUpper': WHATEVER THE INPUT: true; the input reads as it did. -/
def vietUpperSpec : ChangeSpec := { name := "vietUpper", fn := fun _ => fun
  | [d] => { results := [.lit (.bool true)], args := [d] }
  | _ => none }
def vietUpperRow : OpenClaim := { program := "ytpbbgkmpjcddbaa", sum := "8ebdeb1fe4b6025df98f3b5484d2a96497fedc07475c0c86cb5f9d374e1d656a", func := "lontar/lontarlaw09.VietUpper", spec := "vietUpper", apart := false }
def VietUpperSaid : Prop := vietUpperRow.holds Try.pinned (OpenSpec.ofChange vietUpperSpec)

/-- ITS FALSE NEIGHBOUR: 'it returns false'. Refute it at one input. -/
def vietUpperWrong : ChangeSpec := { name := "vietUpper", fn := fun _ => fun
  | [d] => { results := [.lit (.bool false)], args := [d] }
  | _ => none }
def VietUpperWrongFalsely : Prop := vietUpperRow.holds Try.pinned (OpenSpec.ofChange vietUpperWrong)

/-- 'lontarlaw09.VietSign': WHATEVER THE INPUT: true; the input reads as it did. -/
def vietSignSpec : ChangeSpec := { name := "vietSign", fn := fun _ => fun
  | [d1, d2] => { results := [.lit (.bool true)], args := [d1, d2] }
  | _ => none }
def vietSignRow : OpenClaim := { program := "ytpbbgkmpjcddbaa", sum := "8ebdeb1fe4b6025df98f3b5484d2a96497fedc07475c0c86cb5f9d374e1d656a", func := "lontar/lontarlaw09.VietSign", spec := "vietSign", apart := false }
def VietSignSaid : Prop := vietSignRow.holds Try.pinned (OpenSpec.ofChange vietSignSpec)

/-- ITS FALSE NEIGHBOUR: 'it returns false'. Refute it at one input. -/
def vietSignWrong : ChangeSpec := { name := "vietSign", fn := fun _ => fun
  | [d1, d2] => { results := [.lit (.bool false)], args := [d1, d2] }
  | _ => none }
def VietSignWrongFalsely : Prop := vietSignRow.holds Try.pinned (OpenSpec.ofChange vietSignWrong)

/-- 'lontarlaw10.VcanonAll': WHATEVER THE INPUT: true; the input reads as it did. -/
def vcanonAllSpec : ChangeSpec := { name := "vcanonAll", fn := fun _ => fun
  | [d1, d2] => { results := [.lit (.bool true)], args := [d1, d2] }
  | _ => none }
def vcanonAllRow : OpenClaim := { program := "ytpbbgkmpjcddbaa", sum := "8ebdeb1fe4b6025df98f3b5484d2a96497fedc07475c0c86cb5f9d374e1d656a", func := "lontar/lontarlaw10.VcanonAll", spec := "vcanonAll", apart := false }
def VcanonAllSaid : Prop := vcanonAllRow.holds Try.pinned (OpenSpec.ofChange vcanonAllSpec)

/-- ITS FALSE NEIGHBOUR: 'it returns false'. Refute it at one input. -/
def vcanonAllWrong : ChangeSpec := { name := "vcanonAll", fn := fun _ => fun
  | [d1, d2] => { results := [.lit (.bool false)], args := [d1, d2] }
  | _ => none }
def VcanonAllWrongFalsely : Prop := vcanonAllRow.holds Try.pinned (OpenSpec.ofChange vcanonAllWrong)

/-- 'lontarlaw10.VcanonTwice': WHATEVER THE INPUT: true; the input reads as it did. -/
def vcanonTwiceSpec : ChangeSpec := { name := "vcanonTwice", fn := fun _ => fun
  | [d1, d2] => { results := [.lit (.bool true)], args := [d1, d2] }
  | _ => none }
def vcanonTwiceRow : OpenClaim := { program := "ytpbbgkmpjcddbaa", sum := "8ebdeb1fe4b6025df98f3b5484d2a96497fedc07475c0c86cb5f9d374e1d656a", func := "lontar/lontarlaw10.VcanonTwice", spec := "vcanonTwice", apart := false }
def VcanonTwiceSaid : Prop := vcanonTwiceRow.holds Try.pinned (OpenSpec.ofChange vcanonTwiceSpec)

/-- ITS FALSE NEIGHBOUR: 'it returns false'. Refute it at one input. -/
def vcanonTwiceWrong : ChangeSpec := { name := "vcanonTwice", fn := fun _ => fun
  | [d1, d2] => { results := [.lit (.bool false)], args := [d1, d2] }
  | _ => none }
def VcanonTwiceWrongFalsely : Prop := vcanonTwiceRow.holds Try.pinned (OpenSpec.ofChange vcanonTwiceWrong)

/-- 'lontarlaw10.VcanonApart': WHATEVER THE INPUT: true; the input reads as it did. -/
def vcanonApartSpec : ChangeSpec := { name := "vcanonApart", fn := fun _ => fun
  | [d1, d2] => { results := [.lit (.bool true)], args := [d1, d2] }
  | _ => none }
def vcanonApartRow : OpenClaim := { program := "ytpbbgkmpjcddbaa", sum := "8ebdeb1fe4b6025df98f3b5484d2a96497fedc07475c0c86cb5f9d374e1d656a", func := "lontar/lontarlaw10.VcanonApart", spec := "vcanonApart", apart := false }
def VcanonApartSaid : Prop := vcanonApartRow.holds Try.pinned (OpenSpec.ofChange vcanonApartSpec)

/-- ITS FALSE NEIGHBOUR: 'it returns false'. Refute it at one input. -/
def vcanonApartWrong : ChangeSpec := { name := "vcanonApart", fn := fun _ => fun
  | [d1, d2] => { results := [.lit (.bool false)], args := [d1, d2] }
  | _ => none }
def VcanonApartWrongFalsely : Prop := vcanonApartRow.holds Try.pinned (OpenSpec.ofChange vcanonApartWrong)

/-- 'lontarlaw10.VcanonBack': WHATEVER THE INPUT: true; the input reads as it did. -/
def vcanonBackSpec : ChangeSpec := { name := "vcanonBack", fn := fun _ => fun
  | [d] => { results := [.lit (.bool true)], args := [d] }
  | _ => none }
def vcanonBackRow : OpenClaim := { program := "ytpbbgkmpjcddbaa", sum := "8ebdeb1fe4b6025df98f3b5484d2a96497fedc07475c0c86cb5f9d374e1d656a", func := "lontar/lontarlaw10.VcanonBack", spec := "vcanonBack", apart := false }
def VcanonBackSaid : Prop := vcanonBackRow.holds Try.pinned (OpenSpec.ofChange vcanonBackSpec)

/-- ITS FALSE NEIGHBOUR: 'it returns false'. Refute it at one input. -/
def vcanonBackWrong : ChangeSpec := { name := "vcanonBack", fn := fun _ => fun
  | [d] => { results := [.lit (.bool false)], args := [d] }
  | _ => none }
def VcanonBackWrongFalsely : Prop := vcanonBackRow.holds Try.pinned (OpenSpec.ofChange vcanonBackWrong)

/-- 'lontarlaw10.VcanonOrder': WHATEVER THE INPUT: true; the input reads as it did. -/
def vcanonOrderSpec : ChangeSpec := { name := "vcanonOrder", fn := fun _ => fun
  | [d1, d2, d3] => { results := [.lit (.bool true)], args := [d1, d2, d3] }
  | _ => none }
def vcanonOrderRow : OpenClaim := { program := "ytpbbgkmpjcddbaa", sum := "8ebdeb1fe4b6025df98f3b5484d2a96497fedc07475c0c86cb5f9d374e1d656a", func := "lontar/lontarlaw10.VcanonOrder", spec := "vcanonOrder", apart := false }
def VcanonOrderSaid : Prop := vcanonOrderRow.holds Try.pinned (OpenSpec.ofChange vcanonOrderSpec)

/-- ITS FALSE NEIGHBOUR: 'it returns false'. Refute it at one input. -/
def vcanonOrderWrong : ChangeSpec := { name := "vcanonOrder", fn := fun _ => fun
  | [d1, d2, d3] => { results := [.lit (.bool false)], args := [d1, d2, d3] }
  | _ => none }
def VcanonOrderWrongFalsely : Prop := vcanonOrderRow.holds Try.pinned (OpenSpec.ofChange vcanonOrderWrong)

/-- 'lontarlaw10.VcanonParts': WHATEVER THE INPUT: true; the input reads as it did. -/
def vcanonPartsSpec : ChangeSpec := { name := "vcanonParts", fn := fun _ => fun
  | [d1, d2] => { results := [.lit (.bool true)], args := [d1, d2] }
  | _ => none }
def vcanonPartsRow : OpenClaim := { program := "ytpbbgkmpjcddbaa", sum := "8ebdeb1fe4b6025df98f3b5484d2a96497fedc07475c0c86cb5f9d374e1d656a", func := "lontar/lontarlaw10.VcanonParts", spec := "vcanonParts", apart := false }
def VcanonPartsSaid : Prop := vcanonPartsRow.holds Try.pinned (OpenSpec.ofChange vcanonPartsSpec)

/-- ITS FALSE NEIGHBOUR: 'it returns false'. Refute it at one input. -/
def vcanonPartsWrong : ChangeSpec := { name := "vcanonParts", fn := fun _ => fun
  | [d1, d2] => { results := [.lit (.bool false)], args := [d1, d2] }
  | _ => none }
def VcanonPartsWrongFalsely : Prop := vcanonPartsRow.holds Try.pinned (OpenSpec.ofChange vcanonPartsWrong)

/-- 'lontarlaw10.VcanonPut': WHATEVER THE INPUT: true; the input reads as it did. -/
def vcanonPutSpec : ChangeSpec := { name := "vcanonPut", fn := fun _ => fun
  | [d] => { results := [.lit (.bool true)], args := [d] }
  | _ => none }
def vcanonPutRow : OpenClaim := { program := "ytpbbgkmpjcddbaa", sum := "8ebdeb1fe4b6025df98f3b5484d2a96497fedc07475c0c86cb5f9d374e1d656a", func := "lontar/lontarlaw10.VcanonPut", spec := "vcanonPut", apart := false }
def VcanonPutSaid : Prop := vcanonPutRow.holds Try.pinned (OpenSpec.ofChange vcanonPutSpec)

/-- ITS FALSE NEIGHBOUR: 'it returns false'. Refute it at one input. -/
def vcanonPutWrong : ChangeSpec := { name := "vcanonPut", fn := fun _ => fun
  | [d] => { results := [.lit (.bool false)], args := [d] }
  | _ => none }
def VcanonPutWrongFalsely : Prop := vcanonPutRow.holds Try.pinned (OpenSpec.ofChange vcanonPutWrong)

/- THE SECOND FORM. 'bulk': how many values and letters a reading holds, each counted each time it is reached (what is shared counts as often as it is met; a slice's spare places count too). A statement '..UptoSaid' is the law's where the arguments, and the package variables that the reading takes, are together of bulk at most 1048576: NARROWER than '..Said'. Prove '..Said' where nothing that the law and all that it calls make is longer than what came in: it says more and counts as full. Else prove '..UptoSaid'. A law counts once. -/
mutual
def uptoBulk {H : Type} : DataW H → Nat
  | .lit (.string bytes) => bytes.length + 1
  | .lit _ => 1
  | .nil => 1
  | .ptr d => uptoBulk d + 1
  | .slice elems spare => uptoBulkAll elems + uptoBulkAll spare + 1
  | .agg parts => uptoBulkAll parts + 1
  | .iface _ d => uptoBulk d + 1
  | .map entries => uptoBulkEntries entries + 1
  | .held _ => 1
def uptoBulkAll {H : Type} : List (DataW H) → Nat
  | [] => 0
  | d :: r => uptoBulk d + uptoBulkAll r
def uptoBulkEntries {H : Type} : List (Lit × DataW H) → Nat
  | [] => 0
  | x :: r => uptoBulkEntry x + uptoBulkEntries r
def uptoBulkEntry {H : Type} : Lit × DataW H → Nat
  | (.string bytes, d) => bytes.length + uptoBulk d + 1
  | (_, d) => uptoBulk d + 1
 end
def uptoSmall : (H : Type) → List (DataW H) → Bool := fun _ ds => decide (uptoBulkAll ds ≤ 1048576)
def OpenSpec.upto (s : _root_.Go.ChangeSpec) : _root_.Go.OpenSpec := { _root_.Go.OpenSpec.ofChange s with cond := some uptoSmall }

/-- 'lontarlaw11.VisciiDecode', WHERE WHAT IT READS IS OF BULK AT MOST 1048576: true; the input reads as it did. -/
def visciiDecodeUptoRow : OpenClaim := { program := "ytpbbgkmpjcddbaa", sum := "8ebdeb1fe4b6025df98f3b5484d2a96497fedc07475c0c86cb5f9d374e1d656a", func := "lontar/lontarlaw11.VisciiDecode", spec := "visciiDecode", apart := false, narrowed := true }
def VisciiDecodeUptoSaid : Prop := visciiDecodeUptoRow.holds Try.pinned (OpenSpec.upto visciiDecodeSpec)

/-- 'lontarlaw11.VisciiEncode', WHERE WHAT IT READS IS OF BULK AT MOST 1048576: true; the input reads as it did. -/
def visciiEncodeUptoRow : OpenClaim := { program := "ytpbbgkmpjcddbaa", sum := "8ebdeb1fe4b6025df98f3b5484d2a96497fedc07475c0c86cb5f9d374e1d656a", func := "lontar/lontarlaw11.VisciiEncode", spec := "visciiEncode", apart := false, narrowed := true }
def VisciiEncodeUptoSaid : Prop := visciiEncodeUptoRow.holds Try.pinned (OpenSpec.upto visciiEncodeSpec)

/-- 'lontarlaw11.VisciiRules', WHERE WHAT IT READS IS OF BULK AT MOST 1048576: true; the input reads as it did. -/
def visciiRulesUptoRow : OpenClaim := { program := "ytpbbgkmpjcddbaa", sum := "8ebdeb1fe4b6025df98f3b5484d2a96497fedc07475c0c86cb5f9d374e1d656a", func := "lontar/lontarlaw11.VisciiRules", spec := "visciiRules", apart := false, narrowed := true }
def VisciiRulesUptoSaid : Prop := visciiRulesUptoRow.holds Try.pinned (OpenSpec.upto visciiRulesSpec)

/-- 'lontarlaw11.VisciiAll', WHERE WHAT IT READS IS OF BULK AT MOST 1048576: true; the input reads as it did. -/
def visciiAllUptoRow : OpenClaim := { program := "ytpbbgkmpjcddbaa", sum := "8ebdeb1fe4b6025df98f3b5484d2a96497fedc07475c0c86cb5f9d374e1d656a", func := "lontar/lontarlaw11.VisciiAll", spec := "visciiAll", apart := false, narrowed := true }
def VisciiAllUptoSaid : Prop := visciiAllUptoRow.holds Try.pinned (OpenSpec.upto visciiAllSpec)

/-- 'lontarlaw11.VisciiRound', WHERE WHAT IT READS IS OF BULK AT MOST 1048576: true; the input reads as it did. -/
def visciiRoundUptoRow : OpenClaim := { program := "ytpbbgkmpjcddbaa", sum := "8ebdeb1fe4b6025df98f3b5484d2a96497fedc07475c0c86cb5f9d374e1d656a", func := "lontar/lontarlaw11.VisciiRound", spec := "visciiRound", apart := false, narrowed := true }
def VisciiRoundUptoSaid : Prop := visciiRoundUptoRow.holds Try.pinned (OpenSpec.upto visciiRoundSpec)

/-- 'lontarlaw11.VisciiAscii', WHERE WHAT IT READS IS OF BULK AT MOST 1048576: true; the input reads as it did. -/
def visciiAsciiUptoRow : OpenClaim := { program := "ytpbbgkmpjcddbaa", sum := "8ebdeb1fe4b6025df98f3b5484d2a96497fedc07475c0c86cb5f9d374e1d656a", func := "lontar/lontarlaw11.VisciiAscii", spec := "visciiAscii", apart := false, narrowed := true }
def VisciiAsciiUptoSaid : Prop := visciiAsciiUptoRow.holds Try.pinned (OpenSpec.upto visciiAsciiSpec)

/-- 'lontarlaw09.VietAll', WHERE WHAT IT READS IS OF BULK AT MOST 1048576: true; the input reads as it did. -/
def vietAllUptoRow : OpenClaim := { program := "ytpbbgkmpjcddbaa", sum := "8ebdeb1fe4b6025df98f3b5484d2a96497fedc07475c0c86cb5f9d374e1d656a", func := "lontar/lontarlaw09.VietAll", spec := "vietAll", apart := false, narrowed := true }
def VietAllUptoSaid : Prop := vietAllUptoRow.holds Try.pinned (OpenSpec.upto vietAllSpec)

/-- 'lontarlaw09.VietSplit', WHERE WHAT IT READS IS OF BULK AT MOST 1048576: true; the input reads as it did. -/
def vietSplitUptoRow : OpenClaim := { program := "ytpbbgkmpjcddbaa", sum := "8ebdeb1fe4b6025df98f3b5484d2a96497fedc07475c0c86cb5f9d374e1d656a", func := "lontar/lontarlaw09.VietSplit", spec := "vietSplit", apart := false, narrowed := true }
def VietSplitUptoSaid : Prop := vietSplitUptoRow.holds Try.pinned (OpenSpec.upto vietSplitSpec)

/-- 'lontarlaw09.VietJoin', WHERE WHAT IT READS IS OF BULK AT MOST 1048576: true; the input reads as it did. -/
def vietJoinUptoRow : OpenClaim := { program := "ytpbbgkmpjcddbaa", sum := "8ebdeb1fe4b6025df98f3b5484d2a96497fedc07475c0c86cb5f9d374e1d656a", func := "lontar/lontarlaw09.VietJoin", spec := "vietJoin", apart := false, narrowed := true }
def VietJoinUptoSaid : Prop := vietJoinUptoRow.holds Try.pinned (OpenSpec.upto vietJoinSpec)

/-- 'lontarlaw09.VietAdd', WHERE WHAT IT READS IS OF BULK AT MOST 1048576: true; the input reads as it did. -/
def vietAddUptoRow : OpenClaim := { program := "ytpbbgkmpjcddbaa", sum := "8ebdeb1fe4b6025df98f3b5484d2a96497fedc07475c0c86cb5f9d374e1d656a", func := "lontar/lontarlaw09.VietAdd", spec := "vietAdd", apart := false, narrowed := true }
def VietAddUptoSaid : Prop := vietAddUptoRow.holds Try.pinned (OpenSpec.upto vietAddSpec)

/-- 'lontarlaw09.VietRound', WHERE WHAT IT READS IS OF BULK AT MOST 1048576: true; the input reads as it did. -/
def vietRoundUptoRow : OpenClaim := { program := "ytpbbgkmpjcddbaa", sum := "8ebdeb1fe4b6025df98f3b5484d2a96497fedc07475c0c86cb5f9d374e1d656a", func := "lontar/lontarlaw09.VietRound", spec := "vietRound", apart := false, narrowed := true }
def VietRoundUptoSaid : Prop := vietRoundUptoRow.holds Try.pinned (OpenSpec.upto vietRoundSpec)

/-- 'lontarlaw09.VietUpper', WHERE WHAT IT READS IS OF BULK AT MOST 1048576: true; the input reads as it did. -/
def vietUpperUptoRow : OpenClaim := { program := "ytpbbgkmpjcddbaa", sum := "8ebdeb1fe4b6025df98f3b5484d2a96497fedc07475c0c86cb5f9d374e1d656a", func := "lontar/lontarlaw09.VietUpper", spec := "vietUpper", apart := false, narrowed := true }
def VietUpperUptoSaid : Prop := vietUpperUptoRow.holds Try.pinned (OpenSpec.upto vietUpperSpec)

/-- 'lontarlaw09.VietSign', WHERE WHAT IT READS IS OF BULK AT MOST 1048576: true; the input reads as it did. -/
def vietSignUptoRow : OpenClaim := { program := "ytpbbgkmpjcddbaa", sum := "8ebdeb1fe4b6025df98f3b5484d2a96497fedc07475c0c86cb5f9d374e1d656a", func := "lontar/lontarlaw09.VietSign", spec := "vietSign", apart := false, narrowed := true }
def VietSignUptoSaid : Prop := vietSignUptoRow.holds Try.pinned (OpenSpec.upto vietSignSpec)

/-- 'lontarlaw10.VcanonAll', WHERE WHAT IT READS IS OF BULK AT MOST 1048576: true; the input reads as it did. -/
def vcanonAllUptoRow : OpenClaim := { program := "ytpbbgkmpjcddbaa", sum := "8ebdeb1fe4b6025df98f3b5484d2a96497fedc07475c0c86cb5f9d374e1d656a", func := "lontar/lontarlaw10.VcanonAll", spec := "vcanonAll", apart := false, narrowed := true }
def VcanonAllUptoSaid : Prop := vcanonAllUptoRow.holds Try.pinned (OpenSpec.upto vcanonAllSpec)

/-- 'lontarlaw10.VcanonTwice', WHERE WHAT IT READS IS OF BULK AT MOST 1048576: true; the input reads as it did. -/
def vcanonTwiceUptoRow : OpenClaim := { program := "ytpbbgkmpjcddbaa", sum := "8ebdeb1fe4b6025df98f3b5484d2a96497fedc07475c0c86cb5f9d374e1d656a", func := "lontar/lontarlaw10.VcanonTwice", spec := "vcanonTwice", apart := false, narrowed := true }
def VcanonTwiceUptoSaid : Prop := vcanonTwiceUptoRow.holds Try.pinned (OpenSpec.upto vcanonTwiceSpec)

/-- 'lontarlaw10.VcanonApart', WHERE WHAT IT READS IS OF BULK AT MOST 1048576: true; the input reads as it did. -/
def vcanonApartUptoRow : OpenClaim := { program := "ytpbbgkmpjcddbaa", sum := "8ebdeb1fe4b6025df98f3b5484d2a96497fedc07475c0c86cb5f9d374e1d656a", func := "lontar/lontarlaw10.VcanonApart", spec := "vcanonApart", apart := false, narrowed := true }
def VcanonApartUptoSaid : Prop := vcanonApartUptoRow.holds Try.pinned (OpenSpec.upto vcanonApartSpec)

/-- 'lontarlaw10.VcanonBack', WHERE WHAT IT READS IS OF BULK AT MOST 1048576: true; the input reads as it did. -/
def vcanonBackUptoRow : OpenClaim := { program := "ytpbbgkmpjcddbaa", sum := "8ebdeb1fe4b6025df98f3b5484d2a96497fedc07475c0c86cb5f9d374e1d656a", func := "lontar/lontarlaw10.VcanonBack", spec := "vcanonBack", apart := false, narrowed := true }
def VcanonBackUptoSaid : Prop := vcanonBackUptoRow.holds Try.pinned (OpenSpec.upto vcanonBackSpec)

/-- 'lontarlaw10.VcanonOrder', WHERE WHAT IT READS IS OF BULK AT MOST 1048576: true; the input reads as it did. -/
def vcanonOrderUptoRow : OpenClaim := { program := "ytpbbgkmpjcddbaa", sum := "8ebdeb1fe4b6025df98f3b5484d2a96497fedc07475c0c86cb5f9d374e1d656a", func := "lontar/lontarlaw10.VcanonOrder", spec := "vcanonOrder", apart := false, narrowed := true }
def VcanonOrderUptoSaid : Prop := vcanonOrderUptoRow.holds Try.pinned (OpenSpec.upto vcanonOrderSpec)

/-- 'lontarlaw10.VcanonParts', WHERE WHAT IT READS IS OF BULK AT MOST 1048576: true; the input reads as it did. -/
def vcanonPartsUptoRow : OpenClaim := { program := "ytpbbgkmpjcddbaa", sum := "8ebdeb1fe4b6025df98f3b5484d2a96497fedc07475c0c86cb5f9d374e1d656a", func := "lontar/lontarlaw10.VcanonParts", spec := "vcanonParts", apart := false, narrowed := true }
def VcanonPartsUptoSaid : Prop := vcanonPartsUptoRow.holds Try.pinned (OpenSpec.upto vcanonPartsSpec)

/-- 'lontarlaw10.VcanonPut', WHERE WHAT IT READS IS OF BULK AT MOST 1048576: true; the input reads as it did. -/
def vcanonPutUptoRow : OpenClaim := { program := "ytpbbgkmpjcddbaa", sum := "8ebdeb1fe4b6025df98f3b5484d2a96497fedc07475c0c86cb5f9d374e1d656a", func := "lontar/lontarlaw10.VcanonPut", spec := "vcanonPut", apart := false, narrowed := true }
def VcanonPutUptoSaid : Prop := vcanonPutUptoRow.holds Try.pinned (OpenSpec.upto vcanonPutSpec)

end Rows
end Go.Proofs.Ytpbbgkmpjcddbaa
