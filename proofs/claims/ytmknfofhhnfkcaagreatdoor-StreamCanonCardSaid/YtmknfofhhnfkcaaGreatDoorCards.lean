/-
  DERIVED. GIVEN WITH THE SEED: THE CARDS: each row of YtmknfofhhnfkcaaGreatDoorRows.lean that lists a variable, with what it lists TIED to the program's text (the seventh form; the later family's looks); each row that meets fmt, with fmt's text TOLD by the authors' own Lean function (tested against real Go, not proved from fmt's source: count such statements apart). THE CARD IS WHAT COUNTS. Prove the row's statement (the work); the ties are given (YtmknfofhhnfkcaaGreatDoorTie.lean); close each card by the builder's one call (the guide's Derived/Test/ToyasCard.lean, 'card_holds'). Laid BY PROGRAM, IN A SANDBOX (cutbox-door.mjs). By AI agents, Wed Nov 11 2026. No macro, syntax, notation, axiom, sorry.
-/
import Derived.Test.YtmknfofhhnfkcaaGreatDoorRows
import GoSem.ClaimSeven
namespace Go.Proofs.YtmknfofhhnfkcaaGreatDoor
namespace Rows

/-- THE TIED CARD OF 'lontarlaw19.CodecName'. -/
def codecNameCard : Claim7 := { stood := { row := codecNameRow, standIns := [], harness := (true, "4fabf382b35be7a8704ad9d2679cf6e775ac4e3d166f6174f235407e8a3af9d9"), looks := false }, kinds := [], alts := [], laidByText := true, laidKinds := [.data, .pinned, .pinned], laidTests := true, laidLooks := .later }
def CodecNameCardSaid : Prop := Claim7.holds Tryz.pinned (.plain (OpenSpec.ofChange codecNameSpec)) codecNameCard

/-- THE TIED CARD OF 'lontarlaw19.CodecDecode'. -/
def codecDecodeCard : Claim7 := { stood := { row := codecDecodeRow, standIns := [], harness := (true, "4fabf382b35be7a8704ad9d2679cf6e775ac4e3d166f6174f235407e8a3af9d9"), looks := false }, kinds := [], alts := [], laidByText := true, laidKinds := [.data, .pinned, .pinned], laidTests := true, laidLooks := .later }
def CodecDecodeCardSaid : Prop := Claim7.holds Tryz.pinned (.plain (OpenSpec.ofChange codecDecodeSpec)) codecDecodeCard

/-- THE TIED CARD OF 'lontarlaw19.CodecBack'. -/
def codecBackCard : Claim7 := { stood := { row := codecBackRow, standIns := [], harness := (true, "4fabf382b35be7a8704ad9d2679cf6e775ac4e3d166f6174f235407e8a3af9d9"), looks := false }, kinds := [], alts := [], laidByText := true, laidKinds := [.data, .pinned, .pinned], laidTests := true, laidLooks := .later }
def CodecBackCardSaid : Prop := Claim7.holds Tryz.pinned (.plain (OpenSpec.ofChange codecBackSpec)) codecBackCard

/-- THE TIED CARD OF 'lontarlaw19.CodecNormal'. -/
def codecNormalCard : Claim7 := { stood := { row := codecNormalRow, standIns := [], harness := (true, "4fabf382b35be7a8704ad9d2679cf6e775ac4e3d166f6174f235407e8a3af9d9"), looks := false }, kinds := [], alts := [], laidByText := true, laidKinds := [.data, .pinned, .pinned], laidTests := true, laidLooks := .later }
def CodecNormalCardSaid : Prop := Claim7.holds Tryz.pinned (.plain (OpenSpec.ofChange codecNormalSpec)) codecNormalCard

/-- THE TIED CARD OF 'lontarlaw19.CodecAscii'. -/
def codecAsciiCard : Claim7 := { stood := { row := codecAsciiRow, standIns := [], harness := (true, "4fabf382b35be7a8704ad9d2679cf6e775ac4e3d166f6174f235407e8a3af9d9"), looks := false }, kinds := [], alts := [], laidByText := true, laidKinds := [.data, .pinned, .pinned], laidTests := true, laidLooks := .later }
def CodecAsciiCardSaid : Prop := Claim7.holds Tryz.pinned (.plain (OpenSpec.ofChange codecAsciiSpec)) codecAsciiCard

/-- THE TIED CARD OF 'lontarlaw19.CodecTable'. -/
def codecTableCard : Claim7 := { stood := { row := codecTableRow, standIns := [], harness := (true, "4fabf382b35be7a8704ad9d2679cf6e775ac4e3d166f6174f235407e8a3af9d9"), looks := false }, kinds := [], alts := [], laidByText := true, laidKinds := [.data, .pinned, .pinned], laidTests := true, laidLooks := .later }
def CodecTableCardSaid : Prop := Claim7.holds Tryz.pinned (.plain (OpenSpec.ofChange codecTableSpec)) codecTableCard

/-- THE TIED CARD OF 'lontarlaw19.CodecEncode'. -/
def codecEncodeCard : Claim7 := { stood := { row := codecEncodeRow, standIns := [], harness := (true, "4fabf382b35be7a8704ad9d2679cf6e775ac4e3d166f6174f235407e8a3af9d9"), looks := false }, kinds := [], alts := [], laidByText := true, laidKinds := [.data, .pinned, .pinned], laidTests := true, laidLooks := .later }
def CodecEncodeCardSaid : Prop := Claim7.holds Tryz.pinned (.plain (OpenSpec.ofChange codecEncodeSpec)) codecEncodeCard

/-- THE TIED CARD OF 'lontarlaw20.StreamOpen'. -/
def streamOpenCard : Claim7 := { stood := { row := streamOpenRow, standIns := [], harness := (true, "4fabf382b35be7a8704ad9d2679cf6e775ac4e3d166f6174f235407e8a3af9d9"), looks := false }, kinds := [], alts := [], laidByText := true, laidKinds := [.data, .pinned, .pinned], laidTests := true, laidLooks := .later }
def StreamOpenCardSaid : Prop := Claim7.holds Tryz.pinned (.plain (OpenSpec.ofChange streamOpenSpec)) streamOpenCard

/-- THE TIED CARD OF 'lontarlaw20.StreamCanon'. -/
def streamCanonCard : Claim7 := { stood := { row := streamCanonRow, standIns := [], harness := (true, "4fabf382b35be7a8704ad9d2679cf6e775ac4e3d166f6174f235407e8a3af9d9"), looks := false }, kinds := [], alts := [], laidByText := true, laidKinds := [.data, .pinned, .pinned], laidTests := true, laidLooks := .later }
def StreamCanonCardSaid : Prop := Claim7.holds Tryz.pinned (.plain (OpenSpec.ofChange streamCanonSpec)) streamCanonCard

/-- THE TIED CARD OF 'lontarlaw20.StreamAll'. -/
def streamAllCard : Claim7 := { stood := { row := streamAllRow, standIns := [], harness := (true, "4fabf382b35be7a8704ad9d2679cf6e775ac4e3d166f6174f235407e8a3af9d9"), looks := false }, kinds := [], alts := [], laidByText := true, laidKinds := [.data, .pinned, .pinned], laidTests := true, laidLooks := .later }
def StreamAllCardSaid : Prop := Claim7.holds Tryz.pinned (.plain (OpenSpec.ofChange streamAllSpec)) streamAllCard

/-- THE TIED CARD OF 'lontarlaw20.StreamSame'. -/
def streamSameCard : Claim7 := { stood := { row := streamSameRow, standIns := [], harness := (true, "4fabf382b35be7a8704ad9d2679cf6e775ac4e3d166f6174f235407e8a3af9d9"), looks := false }, kinds := [], alts := [], laidByText := true, laidKinds := [.data, .pinned, .pinned], laidTests := true, laidLooks := .later }
def StreamSameCardSaid : Prop := Claim7.holds Tryz.pinned (.plain (OpenSpec.ofChange streamSameSpec)) streamSameCard

/-- THE TIED CARD OF 'lontarlaw20.StreamRoom'. -/
def streamRoomCard : Claim7 := { stood := { row := streamRoomRow, standIns := [], harness := (true, "4fabf382b35be7a8704ad9d2679cf6e775ac4e3d166f6174f235407e8a3af9d9"), looks := false }, kinds := [], alts := [], laidByText := true, laidKinds := [.data, .pinned, .pinned], laidTests := true, laidLooks := .later }
def StreamRoomCardSaid : Prop := Claim7.holds Tryz.pinned (.plain (OpenSpec.ofChange streamRoomSpec)) streamRoomCard

/-- THE TIED CARD OF 'lontarlaw20.StreamHeld'. -/
def streamHeldCard : Claim7 := { stood := { row := streamHeldRow, standIns := [], harness := (true, "4fabf382b35be7a8704ad9d2679cf6e775ac4e3d166f6174f235407e8a3af9d9"), looks := false }, kinds := [], alts := [], laidByText := true, laidKinds := [.data, .pinned, .pinned], laidTests := true, laidLooks := .later }
def StreamHeldCardSaid : Prop := Claim7.holds Tryz.pinned (.plain (OpenSpec.ofChange streamHeldSpec)) streamHeldCard

/-- THE SECOND FORM's CARD OF 'lontarlaw19.CodecName'. -/
def codecNameUptoCard : Claim7 := { stood := { row := codecNameUptoRow, standIns := [], harness := (true, "4fabf382b35be7a8704ad9d2679cf6e775ac4e3d166f6174f235407e8a3af9d9"), looks := false }, kinds := [], alts := [], laidByText := true, laidKinds := [.data, .pinned, .pinned], laidTests := true, laidLooks := .later }
def CodecNameUptoCardSaid : Prop := Claim7.holds Tryz.pinned (.plain (OpenSpec.upto codecNameSpec)) codecNameUptoCard

/-- THE SECOND FORM's CARD OF 'lontarlaw19.CodecDecode'. -/
def codecDecodeUptoCard : Claim7 := { stood := { row := codecDecodeUptoRow, standIns := [], harness := (true, "4fabf382b35be7a8704ad9d2679cf6e775ac4e3d166f6174f235407e8a3af9d9"), looks := false }, kinds := [], alts := [], laidByText := true, laidKinds := [.data, .pinned, .pinned], laidTests := true, laidLooks := .later }
def CodecDecodeUptoCardSaid : Prop := Claim7.holds Tryz.pinned (.plain (OpenSpec.upto codecDecodeSpec)) codecDecodeUptoCard

/-- THE SECOND FORM's CARD OF 'lontarlaw19.CodecBack'. -/
def codecBackUptoCard : Claim7 := { stood := { row := codecBackUptoRow, standIns := [], harness := (true, "4fabf382b35be7a8704ad9d2679cf6e775ac4e3d166f6174f235407e8a3af9d9"), looks := false }, kinds := [], alts := [], laidByText := true, laidKinds := [.data, .pinned, .pinned], laidTests := true, laidLooks := .later }
def CodecBackUptoCardSaid : Prop := Claim7.holds Tryz.pinned (.plain (OpenSpec.upto codecBackSpec)) codecBackUptoCard

/-- THE SECOND FORM's CARD OF 'lontarlaw19.CodecNormal'. -/
def codecNormalUptoCard : Claim7 := { stood := { row := codecNormalUptoRow, standIns := [], harness := (true, "4fabf382b35be7a8704ad9d2679cf6e775ac4e3d166f6174f235407e8a3af9d9"), looks := false }, kinds := [], alts := [], laidByText := true, laidKinds := [.data, .pinned, .pinned], laidTests := true, laidLooks := .later }
def CodecNormalUptoCardSaid : Prop := Claim7.holds Tryz.pinned (.plain (OpenSpec.upto codecNormalSpec)) codecNormalUptoCard

/-- THE SECOND FORM's CARD OF 'lontarlaw19.CodecAscii'. -/
def codecAsciiUptoCard : Claim7 := { stood := { row := codecAsciiUptoRow, standIns := [], harness := (true, "4fabf382b35be7a8704ad9d2679cf6e775ac4e3d166f6174f235407e8a3af9d9"), looks := false }, kinds := [], alts := [], laidByText := true, laidKinds := [.data, .pinned, .pinned], laidTests := true, laidLooks := .later }
def CodecAsciiUptoCardSaid : Prop := Claim7.holds Tryz.pinned (.plain (OpenSpec.upto codecAsciiSpec)) codecAsciiUptoCard

/-- THE SECOND FORM's CARD OF 'lontarlaw19.CodecTable'. -/
def codecTableUptoCard : Claim7 := { stood := { row := codecTableUptoRow, standIns := [], harness := (true, "4fabf382b35be7a8704ad9d2679cf6e775ac4e3d166f6174f235407e8a3af9d9"), looks := false }, kinds := [], alts := [], laidByText := true, laidKinds := [.data, .pinned, .pinned], laidTests := true, laidLooks := .later }
def CodecTableUptoCardSaid : Prop := Claim7.holds Tryz.pinned (.plain (OpenSpec.upto codecTableSpec)) codecTableUptoCard

/-- THE SECOND FORM's CARD OF 'lontarlaw19.CodecEncode'. -/
def codecEncodeUptoCard : Claim7 := { stood := { row := codecEncodeUptoRow, standIns := [], harness := (true, "4fabf382b35be7a8704ad9d2679cf6e775ac4e3d166f6174f235407e8a3af9d9"), looks := false }, kinds := [], alts := [], laidByText := true, laidKinds := [.data, .pinned, .pinned], laidTests := true, laidLooks := .later }
def CodecEncodeUptoCardSaid : Prop := Claim7.holds Tryz.pinned (.plain (OpenSpec.upto codecEncodeSpec)) codecEncodeUptoCard

/-- THE SECOND FORM's CARD OF 'lontarlaw20.StreamOpen'. -/
def streamOpenUptoCard : Claim7 := { stood := { row := streamOpenUptoRow, standIns := [], harness := (true, "4fabf382b35be7a8704ad9d2679cf6e775ac4e3d166f6174f235407e8a3af9d9"), looks := false }, kinds := [], alts := [], laidByText := true, laidKinds := [.data, .pinned, .pinned], laidTests := true, laidLooks := .later }
def StreamOpenUptoCardSaid : Prop := Claim7.holds Tryz.pinned (.plain (OpenSpec.upto streamOpenSpec)) streamOpenUptoCard

/-- THE SECOND FORM's CARD OF 'lontarlaw20.StreamCanon'. -/
def streamCanonUptoCard : Claim7 := { stood := { row := streamCanonUptoRow, standIns := [], harness := (true, "4fabf382b35be7a8704ad9d2679cf6e775ac4e3d166f6174f235407e8a3af9d9"), looks := false }, kinds := [], alts := [], laidByText := true, laidKinds := [.data, .pinned, .pinned], laidTests := true, laidLooks := .later }
def StreamCanonUptoCardSaid : Prop := Claim7.holds Tryz.pinned (.plain (OpenSpec.upto streamCanonSpec)) streamCanonUptoCard

/-- THE SECOND FORM's CARD OF 'lontarlaw20.StreamAll'. -/
def streamAllUptoCard : Claim7 := { stood := { row := streamAllUptoRow, standIns := [], harness := (true, "4fabf382b35be7a8704ad9d2679cf6e775ac4e3d166f6174f235407e8a3af9d9"), looks := false }, kinds := [], alts := [], laidByText := true, laidKinds := [.data, .pinned, .pinned], laidTests := true, laidLooks := .later }
def StreamAllUptoCardSaid : Prop := Claim7.holds Tryz.pinned (.plain (OpenSpec.upto streamAllSpec)) streamAllUptoCard

/-- THE SECOND FORM's CARD OF 'lontarlaw20.StreamSame'. -/
def streamSameUptoCard : Claim7 := { stood := { row := streamSameUptoRow, standIns := [], harness := (true, "4fabf382b35be7a8704ad9d2679cf6e775ac4e3d166f6174f235407e8a3af9d9"), looks := false }, kinds := [], alts := [], laidByText := true, laidKinds := [.data, .pinned, .pinned], laidTests := true, laidLooks := .later }
def StreamSameUptoCardSaid : Prop := Claim7.holds Tryz.pinned (.plain (OpenSpec.upto streamSameSpec)) streamSameUptoCard

/-- THE SECOND FORM's CARD OF 'lontarlaw20.StreamRoom'. -/
def streamRoomUptoCard : Claim7 := { stood := { row := streamRoomUptoRow, standIns := [], harness := (true, "4fabf382b35be7a8704ad9d2679cf6e775ac4e3d166f6174f235407e8a3af9d9"), looks := false }, kinds := [], alts := [], laidByText := true, laidKinds := [.data, .pinned, .pinned], laidTests := true, laidLooks := .later }
def StreamRoomUptoCardSaid : Prop := Claim7.holds Tryz.pinned (.plain (OpenSpec.upto streamRoomSpec)) streamRoomUptoCard

/-- THE SECOND FORM's CARD OF 'lontarlaw20.StreamHeld'. -/
def streamHeldUptoCard : Claim7 := { stood := { row := streamHeldUptoRow, standIns := [], harness := (true, "4fabf382b35be7a8704ad9d2679cf6e775ac4e3d166f6174f235407e8a3af9d9"), looks := false }, kinds := [], alts := [], laidByText := true, laidKinds := [.data, .pinned, .pinned], laidTests := true, laidLooks := .later }
def StreamHeldUptoCardSaid : Prop := Claim7.holds Tryz.pinned (.plain (OpenSpec.upto streamHeldSpec)) streamHeldUptoCard
end Rows
end Go.Proofs.YtmknfofhhnfkcaaGreatDoor
