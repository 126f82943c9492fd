/-
  DERIVED. GIVEN WITH THE SEED: THE CARDS: each row of YtpfhmnmpiagnnaaGreatDoorRows.lean that lists a variable, with what it lists TIED to the program's text (the seventh form; the later family's looks); each row that meets fmt, with fmt's text TOLD by the authors' own Lean function (tested against real Go, not proved from fmt's source: count such statements apart). THE CARD IS WHAT COUNTS. Prove the row's statement (the work); the ties are given (YtpfhmnmpiagnnaaGreatDoorTie.lean); close each card by the builder's one call (the guide's Derived/Test/ToyasCard.lean, 'card_holds'). Laid BY PROGRAM, IN A SANDBOX (cutbox-door.mjs). By AI agents, Wed Nov 11 2026. No macro, syntax, notation, axiom, sorry.
-/
import Derived.Test.YtpfhmnmpiagnnaaGreatDoorRows
import GoSem.ClaimSeven
namespace Go.Proofs.YtpfhmnmpiagnnaaGreatDoor
namespace Rows

/-- THE TIED CARD OF 'undertowlaw18.SocNone'. -/
def socNoneCard : Claim7 := { stood := { row := socNoneRow, standIns := [], harness := (true, "da65be8afe621a1d207c7b75e245dac5e7181c7b9e049bb14c8fa50188a12d5a"), looks := true }, kinds := [], alts := [], laidByText := true, laidKinds := [.data, .data, .data, .data, .sentinel, .sentinel, .pinned], laidTests := true, laidLooks := .later }
def SocNoneCardSaid : Prop := Claim7.holds Tryz.pinned (.plain (OpenSpec.ofChange socNoneSpec)) socNoneCard

/-- THE TIED CARD OF 'undertowlaw27.FairEnds'. -/
def fairEndsCard : Claim7 := { stood := { row := fairEndsRow, standIns := [], harness := (true, "da65be8afe621a1d207c7b75e245dac5e7181c7b9e049bb14c8fa50188a12d5a"), looks := true }, kinds := [], alts := [], laidByText := true, laidKinds := [.data, .data, .data, .data, .sentinel, .sentinel, .pinned], laidTests := true, laidLooks := .later }
def FairEndsCardSaid : Prop := Claim7.holds Tryz.pinned (.plain (OpenSpec.ofChange fairEndsSpec)) fairEndsCard

/-- THE TIED CARD OF 'undertowlaw27.FairWindows'. -/
def fairWindowsCard : Claim7 := { stood := { row := fairWindowsRow, standIns := [], harness := (true, "da65be8afe621a1d207c7b75e245dac5e7181c7b9e049bb14c8fa50188a12d5a"), looks := true }, kinds := [], alts := [], laidByText := true, laidKinds := [.data, .data, .data, .data, .sentinel, .sentinel, .pinned], laidTests := true, laidLooks := .later }
def FairWindowsCardSaid : Prop := Claim7.holds Tryz.pinned (.plain (OpenSpec.ofChange fairWindowsSpec)) fairWindowsCard

/-- THE TIED CARD OF 'undertowlaw27.FairBehind'. -/
def fairBehindCard : Claim7 := { stood := { row := fairBehindRow, standIns := [], harness := (true, "da65be8afe621a1d207c7b75e245dac5e7181c7b9e049bb14c8fa50188a12d5a"), looks := true }, kinds := [], alts := [], laidByText := true, laidKinds := [.data, .data, .data, .data, .sentinel, .sentinel, .pinned], laidTests := true, laidLooks := .later }
def FairBehindCardSaid : Prop := Claim7.holds Tryz.pinned (.plain (OpenSpec.ofChange fairBehindSpec)) fairBehindCard

/-- THE TIED CARD OF 'undertowlaw18.SocOwn'. -/
def socOwnCard : Claim7 := { stood := { row := socOwnRow, standIns := [], harness := (true, "da65be8afe621a1d207c7b75e245dac5e7181c7b9e049bb14c8fa50188a12d5a"), looks := true }, kinds := [], alts := [], laidByText := true, laidKinds := [.data, .data, .data, .data, .sentinel, .sentinel, .pinned], laidTests := true, laidLooks := .later }
def SocOwnCardSaid : Prop := Claim7.holds Tryz.pinned (.plain (OpenSpec.ofChange socOwnSpec)) socOwnCard

/-- THE TIED CARD OF 'undertowlaw18.SocAlone'. -/
def socAloneCard : Claim7 := { stood := { row := socAloneRow, standIns := [], harness := (true, "da65be8afe621a1d207c7b75e245dac5e7181c7b9e049bb14c8fa50188a12d5a"), looks := true }, kinds := [], alts := [], laidByText := true, laidKinds := [.data, .data, .data, .data, .sentinel, .sentinel, .pinned], laidTests := true, laidLooks := .later }
def SocAloneCardSaid : Prop := Claim7.holds Tryz.pinned (.plain (OpenSpec.ofChange socAloneSpec)) socAloneCard

/-- THE SECOND FORM's CARD OF 'undertowlaw18.SocNone'. -/
def socNoneUptoCard : Claim7 := { stood := { row := socNoneUptoRow, standIns := [], harness := (true, "da65be8afe621a1d207c7b75e245dac5e7181c7b9e049bb14c8fa50188a12d5a"), looks := true }, kinds := [], alts := [], laidByText := true, laidKinds := [.data, .data, .data, .data, .sentinel, .sentinel, .pinned], laidTests := true, laidLooks := .later }
def SocNoneUptoCardSaid : Prop := Claim7.holds Tryz.pinned (.plain (OpenSpec.upto socNoneSpec)) socNoneUptoCard

/-- THE SECOND FORM's CARD OF 'undertowlaw27.FairEnds'. -/
def fairEndsUptoCard : Claim7 := { stood := { row := fairEndsUptoRow, standIns := [], harness := (true, "da65be8afe621a1d207c7b75e245dac5e7181c7b9e049bb14c8fa50188a12d5a"), looks := true }, kinds := [], alts := [], laidByText := true, laidKinds := [.data, .data, .data, .data, .sentinel, .sentinel, .pinned], laidTests := true, laidLooks := .later }
def FairEndsUptoCardSaid : Prop := Claim7.holds Tryz.pinned (.plain (OpenSpec.upto fairEndsSpec)) fairEndsUptoCard

/-- THE SECOND FORM's CARD OF 'undertowlaw27.FairWindows'. -/
def fairWindowsUptoCard : Claim7 := { stood := { row := fairWindowsUptoRow, standIns := [], harness := (true, "da65be8afe621a1d207c7b75e245dac5e7181c7b9e049bb14c8fa50188a12d5a"), looks := true }, kinds := [], alts := [], laidByText := true, laidKinds := [.data, .data, .data, .data, .sentinel, .sentinel, .pinned], laidTests := true, laidLooks := .later }
def FairWindowsUptoCardSaid : Prop := Claim7.holds Tryz.pinned (.plain (OpenSpec.upto fairWindowsSpec)) fairWindowsUptoCard

/-- THE SECOND FORM's CARD OF 'undertowlaw27.FairBehind'. -/
def fairBehindUptoCard : Claim7 := { stood := { row := fairBehindUptoRow, standIns := [], harness := (true, "da65be8afe621a1d207c7b75e245dac5e7181c7b9e049bb14c8fa50188a12d5a"), looks := true }, kinds := [], alts := [], laidByText := true, laidKinds := [.data, .data, .data, .data, .sentinel, .sentinel, .pinned], laidTests := true, laidLooks := .later }
def FairBehindUptoCardSaid : Prop := Claim7.holds Tryz.pinned (.plain (OpenSpec.upto fairBehindSpec)) fairBehindUptoCard

/-- THE SECOND FORM's CARD OF 'undertowlaw18.SocOwn'. -/
def socOwnUptoCard : Claim7 := { stood := { row := socOwnUptoRow, standIns := [], harness := (true, "da65be8afe621a1d207c7b75e245dac5e7181c7b9e049bb14c8fa50188a12d5a"), looks := true }, kinds := [], alts := [], laidByText := true, laidKinds := [.data, .data, .data, .data, .sentinel, .sentinel, .pinned], laidTests := true, laidLooks := .later }
def SocOwnUptoCardSaid : Prop := Claim7.holds Tryz.pinned (.plain (OpenSpec.upto socOwnSpec)) socOwnUptoCard

/-- THE SECOND FORM's CARD OF 'undertowlaw18.SocAlone'. -/
def socAloneUptoCard : Claim7 := { stood := { row := socAloneUptoRow, standIns := [], harness := (true, "da65be8afe621a1d207c7b75e245dac5e7181c7b9e049bb14c8fa50188a12d5a"), looks := true }, kinds := [], alts := [], laidByText := true, laidKinds := [.data, .data, .data, .data, .sentinel, .sentinel, .pinned], laidTests := true, laidLooks := .later }
def SocAloneUptoCardSaid : Prop := Claim7.holds Tryz.pinned (.plain (OpenSpec.upto socAloneSpec)) socAloneUptoCard
end Rows
end Go.Proofs.YtpfhmnmpiagnnaaGreatDoor
