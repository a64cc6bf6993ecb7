/-
  DERIVED. GIVEN WITH THE SEED: THE CARDS: each row of YtkmhilhfmfmckaaGreatDoorRows.lean that lists a variable, with what it lists TIED to the program's text (the seventh form; the later family's looks); each row that meets fmt, with fmt's text TOLD by the authors' own Lean function (tested against real Go, not proved from fmt's source: count such statements apart). THE CARD IS WHAT COUNTS. Prove the row's statement (the work); the ties are given (YtkmhilhfmfmckaaGreatDoorTie.lean); close each card by the builder's one call (the guide's Derived/Test/ToyasCard.lean, 'card_holds'). Laid BY PROGRAM, IN A SANDBOX (cutbox-door.mjs). By AI agents, Wed Nov 11 2026. No macro, syntax, notation, axiom, sorry.
-/
import Derived.Test.YtkmhilhfmfmckaaGreatDoorRows
import GoSem.ClaimSeven
namespace Go.Proofs.YtkmhilhfmfmckaaGreatDoor
namespace Rows

/-- THE TIED CARD OF 'hayricklaw17.XattrPacks'. -/
def xattrPacksCard : Claim7 := { stood := { row := xattrPacksRow, standIns := [], harness := (true, "6a08d02a27ae3eb5e16161bc3121c970ff768c6be46768fbeb2cbe1db61277e1"), looks := true }, kinds := [], alts := [], laidByText := true, laidKinds := [.data, .data], laidTests := true, laidLooks := .later }
def XattrPacksCardSaid : Prop := Claim7.holds Tryz.pinned (.plain (OpenSpec.ofChange xattrPacksSpec)) xattrPacksCard

/-- THE TIED CARD OF 'hayricklaw17.XattrOnly'. -/
def xattrOnlyCard : Claim7 := { stood := { row := xattrOnlyRow, standIns := [], harness := (true, "6a08d02a27ae3eb5e16161bc3121c970ff768c6be46768fbeb2cbe1db61277e1"), looks := true }, kinds := [], alts := [], laidByText := true, laidKinds := [.data, .data], laidTests := true, laidLooks := .later }
def XattrOnlyCardSaid : Prop := Claim7.holds Tryz.pinned (.plain (OpenSpec.ofChange xattrOnlySpec)) xattrOnlyCard

/-- THE TIED CARD OF 'hayricklaw17.XattrOrder'. -/
def xattrOrderCard : Claim7 := { stood := { row := xattrOrderRow, standIns := [], harness := (true, "6a08d02a27ae3eb5e16161bc3121c970ff768c6be46768fbeb2cbe1db61277e1"), looks := true }, kinds := [], alts := [], laidByText := true, laidKinds := [.data, .data], laidTests := true, laidLooks := .later }
def XattrOrderCardSaid : Prop := Claim7.holds Tryz.pinned (.plain (OpenSpec.ofChange xattrOrderSpec)) xattrOrderCard

/-- THE TIED CARD OF 'hayricklaw17.XattrHow'. -/
def xattrHowCard : Claim7 := { stood := { row := xattrHowRow, standIns := [], harness := (true, "6a08d02a27ae3eb5e16161bc3121c970ff768c6be46768fbeb2cbe1db61277e1"), looks := true }, kinds := [], alts := [], laidByText := true, laidKinds := [.data, .data], laidTests := true, laidLooks := .later }
def XattrHowCardSaid : Prop := Claim7.holds Tryz.pinned (.plain (OpenSpec.ofChange xattrHowSpec)) xattrHowCard

/-- THE TIED CARD OF 'hayricklaw17.XattrPlays'. -/
def xattrPlaysCard : Claim7 := { stood := { row := xattrPlaysRow, standIns := [], harness := (true, "6a08d02a27ae3eb5e16161bc3121c970ff768c6be46768fbeb2cbe1db61277e1"), looks := true }, kinds := [], alts := [], laidByText := true, laidKinds := [.data, .data], laidTests := true, laidLooks := .later }
def XattrPlaysCardSaid : Prop := Claim7.holds Tryz.pinned (.plain (OpenSpec.ofChange xattrPlaysSpec)) xattrPlaysCard

/-- THE TIED CARD OF 'hayricklaw17.XattrIs'. -/
def xattrIsCard : Claim7 := { stood := { row := xattrIsRow, standIns := [], harness := (true, "6a08d02a27ae3eb5e16161bc3121c970ff768c6be46768fbeb2cbe1db61277e1"), looks := true }, kinds := [], alts := [], laidByText := true, laidKinds := [.data, .data], laidTests := true, laidLooks := .later }
def XattrIsCardSaid : Prop := Claim7.holds Tryz.pinned (.plain (OpenSpec.ofChange xattrIsSpec)) xattrIsCard

/-- THE SECOND FORM's CARD OF 'hayricklaw17.XattrPacks'. -/
def xattrPacksUptoCard : Claim7 := { stood := { row := xattrPacksUptoRow, standIns := [], harness := (true, "6a08d02a27ae3eb5e16161bc3121c970ff768c6be46768fbeb2cbe1db61277e1"), looks := true }, kinds := [], alts := [], laidByText := true, laidKinds := [.data, .data], laidTests := true, laidLooks := .later }
def XattrPacksUptoCardSaid : Prop := Claim7.holds Tryz.pinned (.plain (OpenSpec.upto xattrPacksSpec)) xattrPacksUptoCard

/-- THE SECOND FORM's CARD OF 'hayricklaw17.XattrOnly'. -/
def xattrOnlyUptoCard : Claim7 := { stood := { row := xattrOnlyUptoRow, standIns := [], harness := (true, "6a08d02a27ae3eb5e16161bc3121c970ff768c6be46768fbeb2cbe1db61277e1"), looks := true }, kinds := [], alts := [], laidByText := true, laidKinds := [.data, .data], laidTests := true, laidLooks := .later }
def XattrOnlyUptoCardSaid : Prop := Claim7.holds Tryz.pinned (.plain (OpenSpec.upto xattrOnlySpec)) xattrOnlyUptoCard

/-- THE SECOND FORM's CARD OF 'hayricklaw17.XattrOrder'. -/
def xattrOrderUptoCard : Claim7 := { stood := { row := xattrOrderUptoRow, standIns := [], harness := (true, "6a08d02a27ae3eb5e16161bc3121c970ff768c6be46768fbeb2cbe1db61277e1"), looks := true }, kinds := [], alts := [], laidByText := true, laidKinds := [.data, .data], laidTests := true, laidLooks := .later }
def XattrOrderUptoCardSaid : Prop := Claim7.holds Tryz.pinned (.plain (OpenSpec.upto xattrOrderSpec)) xattrOrderUptoCard

/-- THE SECOND FORM's CARD OF 'hayricklaw17.XattrHow'. -/
def xattrHowUptoCard : Claim7 := { stood := { row := xattrHowUptoRow, standIns := [], harness := (true, "6a08d02a27ae3eb5e16161bc3121c970ff768c6be46768fbeb2cbe1db61277e1"), looks := true }, kinds := [], alts := [], laidByText := true, laidKinds := [.data, .data], laidTests := true, laidLooks := .later }
def XattrHowUptoCardSaid : Prop := Claim7.holds Tryz.pinned (.plain (OpenSpec.upto xattrHowSpec)) xattrHowUptoCard

/-- THE SECOND FORM's CARD OF 'hayricklaw17.XattrPlays'. -/
def xattrPlaysUptoCard : Claim7 := { stood := { row := xattrPlaysUptoRow, standIns := [], harness := (true, "6a08d02a27ae3eb5e16161bc3121c970ff768c6be46768fbeb2cbe1db61277e1"), looks := true }, kinds := [], alts := [], laidByText := true, laidKinds := [.data, .data], laidTests := true, laidLooks := .later }
def XattrPlaysUptoCardSaid : Prop := Claim7.holds Tryz.pinned (.plain (OpenSpec.upto xattrPlaysSpec)) xattrPlaysUptoCard

/-- THE SECOND FORM's CARD OF 'hayricklaw17.XattrIs'. -/
def xattrIsUptoCard : Claim7 := { stood := { row := xattrIsUptoRow, standIns := [], harness := (true, "6a08d02a27ae3eb5e16161bc3121c970ff768c6be46768fbeb2cbe1db61277e1"), looks := true }, kinds := [], alts := [], laidByText := true, laidKinds := [.data, .data], laidTests := true, laidLooks := .later }
def XattrIsUptoCardSaid : Prop := Claim7.holds Tryz.pinned (.plain (OpenSpec.upto xattrIsSpec)) xattrIsUptoCard
end Rows
end Go.Proofs.YtkmhilhfmfmckaaGreatDoor
