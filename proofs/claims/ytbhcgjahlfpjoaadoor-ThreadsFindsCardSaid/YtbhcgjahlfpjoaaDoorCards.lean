/-
  DERIVED. GIVEN WITH THE SEED: THE CARDS: each row of YtbhcgjahlfpjoaaDoorRows.lean that lists a variable, with what it lists TIED to the program's text (the seventh form; the later family's looks); each row that meets fmt, with fmt's text TOLD by the authors' own Lean function (tested against real Go, not proved from fmt's source: count such statements apart). THE CARD IS WHAT COUNTS. Prove the row's statement (the work); the ties are given (YtbhcgjahlfpjoaaDoorTie.lean); close each card by the builder's one call (the guide's Derived/Test/ToyasCard.lean, 'card_holds'). Laid BY PROGRAM, IN A SANDBOX (cutbox-door.mjs). By AI agents, Wed Nov 11 2026. No macro, syntax, notation, axiom, sorry.
-/
import Derived.Test.YtbhcgjahlfpjoaaDoorRows
import GoSem.ClaimSeven
namespace Go.Proofs.YtbhcgjahlfpjoaaDoor
namespace Rows

/-- THE TIED CARD OF 'martellolaw17.ThreadsFinds'. -/
def threadsFindsCard : Claim7 := { stood := { row := threadsFindsRow, standIns := [], harness := (true, "903c9d181b2351ca2bf75257267f971e51e8f5f96615d641805bdf305db103ea"), looks := false }, kinds := [], alts := [], laidByText := true, laidKinds := [.data, .pinned], laidTests := true, laidLooks := .later }
def ThreadsFindsCardSaid : Prop := Claim7.holds Tryd.pinned (.plain (OpenSpec.ofChange threadsFindsSpec)) threadsFindsCard

/-- THE TIED CARD OF 'martellolaw17.ThreadsOn'. -/
def threadsOnCard : Claim7 := { stood := { row := threadsOnRow, standIns := [], harness := (true, "903c9d181b2351ca2bf75257267f971e51e8f5f96615d641805bdf305db103ea"), looks := false }, kinds := [], alts := [], laidByText := true, laidKinds := [.data, .pinned], laidTests := true, laidLooks := .later }
def ThreadsOnCardSaid : Prop := Claim7.holds Tryd.pinned (.plain (OpenSpec.ofChange threadsOnSpec)) threadsOnCard

/-- THE TIED CARD OF 'martellolaw17.ThreadsAgain'. -/
def threadsAgainCard : Claim7 := { stood := { row := threadsAgainRow, standIns := [], harness := (true, "903c9d181b2351ca2bf75257267f971e51e8f5f96615d641805bdf305db103ea"), looks := false }, kinds := [], alts := [], laidByText := true, laidKinds := [.data, .pinned], laidTests := true, laidLooks := .later }
def ThreadsAgainCardSaid : Prop := Claim7.holds Tryd.pinned (.plain (OpenSpec.ofChange threadsAgainSpec)) threadsAgainCard

/-- THE TIED CARD OF 'martellolaw17.ThreadsAgree'. -/
def threadsAgreeCard : Claim7 := { stood := { row := threadsAgreeRow, standIns := [], harness := (true, "903c9d181b2351ca2bf75257267f971e51e8f5f96615d641805bdf305db103ea"), looks := false }, kinds := [], alts := [], laidByText := true, laidKinds := [.data, .pinned], laidTests := true, laidLooks := .later }
def ThreadsAgreeCardSaid : Prop := Claim7.holds Tryd.pinned (.plain (OpenSpec.ofChange threadsAgreeSpec)) threadsAgreeCard

/-- THE SECOND FORM's CARD OF 'martellolaw17.ThreadsFinds'. -/
def threadsFindsUptoCard : Claim7 := { stood := { row := threadsFindsUptoRow, standIns := [], harness := (true, "903c9d181b2351ca2bf75257267f971e51e8f5f96615d641805bdf305db103ea"), looks := false }, kinds := [], alts := [], laidByText := true, laidKinds := [.data, .pinned], laidTests := true, laidLooks := .later }
def ThreadsFindsUptoCardSaid : Prop := Claim7.holds Tryd.pinned (.plain (OpenSpec.upto threadsFindsSpec)) threadsFindsUptoCard

/-- THE SECOND FORM's CARD OF 'martellolaw17.ThreadsOn'. -/
def threadsOnUptoCard : Claim7 := { stood := { row := threadsOnUptoRow, standIns := [], harness := (true, "903c9d181b2351ca2bf75257267f971e51e8f5f96615d641805bdf305db103ea"), looks := false }, kinds := [], alts := [], laidByText := true, laidKinds := [.data, .pinned], laidTests := true, laidLooks := .later }
def ThreadsOnUptoCardSaid : Prop := Claim7.holds Tryd.pinned (.plain (OpenSpec.upto threadsOnSpec)) threadsOnUptoCard

/-- THE SECOND FORM's CARD OF 'martellolaw17.ThreadsAgain'. -/
def threadsAgainUptoCard : Claim7 := { stood := { row := threadsAgainUptoRow, standIns := [], harness := (true, "903c9d181b2351ca2bf75257267f971e51e8f5f96615d641805bdf305db103ea"), looks := false }, kinds := [], alts := [], laidByText := true, laidKinds := [.data, .pinned], laidTests := true, laidLooks := .later }
def ThreadsAgainUptoCardSaid : Prop := Claim7.holds Tryd.pinned (.plain (OpenSpec.upto threadsAgainSpec)) threadsAgainUptoCard

/-- THE SECOND FORM's CARD OF 'martellolaw17.ThreadsAgree'. -/
def threadsAgreeUptoCard : Claim7 := { stood := { row := threadsAgreeUptoRow, standIns := [], harness := (true, "903c9d181b2351ca2bf75257267f971e51e8f5f96615d641805bdf305db103ea"), looks := false }, kinds := [], alts := [], laidByText := true, laidKinds := [.data, .pinned], laidTests := true, laidLooks := .later }
def ThreadsAgreeUptoCardSaid : Prop := Claim7.holds Tryd.pinned (.plain (OpenSpec.upto threadsAgreeSpec)) threadsAgreeUptoCard
end Rows
end Go.Proofs.YtbhcgjahlfpjoaaDoor
