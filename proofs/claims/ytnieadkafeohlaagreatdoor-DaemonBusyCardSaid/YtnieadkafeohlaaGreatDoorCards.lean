/-
  DERIVED. GIVEN WITH THE SEED: THE CARDS: each row of YtnieadkafeohlaaGreatDoorRows.lean that lists a variable, with what it lists TIED to the program's text (the seventh form; the later family's looks); each row that meets fmt, with fmt's text TOLD by the authors' own Lean function (tested against real Go, not proved from fmt's source: count such statements apart). THE CARD IS WHAT COUNTS. Prove the row's statement (the work); the ties are given (YtnieadkafeohlaaGreatDoorTie.lean); close each card by the builder's one call (the guide's Derived/Test/ToyasCard.lean, 'card_holds'). Laid BY PROGRAM, IN A SANDBOX (cutbox-door.mjs). By AI agents, Wed Nov 11 2026. No macro, syntax, notation, axiom, sorry.
-/
import Derived.Test.YtnieadkafeohlaaGreatDoorRows
import GoSem.ClaimSeven
namespace Go.Proofs.YtnieadkafeohlaaGreatDoor
namespace Rows

/-- THE TIED CARD OF 'godownlaw20.HistoryOrder'. -/
def historyOrderCard : Claim7 := { stood := { row := historyOrderRow, standIns := [], harness := (true, "31fcf5d91ff0f793b6aa906ea6ee0fd222b6be11abf652dc152108accbd4341e"), looks := true }, kinds := [], alts := [], laidByText := true, laidKinds := [.data, .data, .data, .pinned], laidTests := true, laidLooks := .later }
def HistoryOrderCardSaid : Prop := Claim7.holds Tryz.pinned (.plain (OpenSpec.ofChange historyOrderSpec)) historyOrderCard

/-- THE TIED CARD OF 'godownlaw19.DaemonDeadlock'. -/
def daemonDeadlockCard : Claim7 := { stood := { row := daemonDeadlockRow, standIns := [], harness := (true, "31fcf5d91ff0f793b6aa906ea6ee0fd222b6be11abf652dc152108accbd4341e"), looks := true }, kinds := [], alts := [], laidByText := true, laidKinds := [.data, .data, .data, .data, .pinned], laidTests := true, laidLooks := .later }
def DaemonDeadlockCardSaid : Prop := Claim7.holds Tryz.pinned (.plain (OpenSpec.ofChange daemonDeadlockSpec)) daemonDeadlockCard

/-- THE TIED CARD OF 'godownlaw19.DaemonBusy'. -/
def daemonBusyCard : Claim7 := { stood := { row := daemonBusyRow, standIns := [], harness := (true, "31fcf5d91ff0f793b6aa906ea6ee0fd222b6be11abf652dc152108accbd4341e"), looks := true }, kinds := [], alts := [], laidByText := true, laidKinds := [.data, .data, .data, .data, .pinned], laidTests := true, laidLooks := .later }
def DaemonBusyCardSaid : Prop := Claim7.holds Tryz.pinned (.plain (OpenSpec.ofChange daemonBusySpec)) daemonBusyCard

/-- THE TIED CARD OF 'godownlaw19.DaemonGrants'. -/
def daemonGrantsCard : Claim7 := { stood := { row := daemonGrantsRow, standIns := [], harness := (true, "31fcf5d91ff0f793b6aa906ea6ee0fd222b6be11abf652dc152108accbd4341e"), looks := true }, kinds := [], alts := [], laidByText := true, laidKinds := [.data, .data, .data, .data, .pinned], laidTests := true, laidLooks := .later }
def DaemonGrantsCardSaid : Prop := Claim7.holds Tryz.pinned (.plain (OpenSpec.ofChange daemonGrantsSpec)) daemonGrantsCard

/-- THE TIED CARD OF 'godownlaw19.DaemonNil'. -/
def daemonNilCard : Claim7 := { stood := { row := daemonNilRow, standIns := [], harness := (true, "31fcf5d91ff0f793b6aa906ea6ee0fd222b6be11abf652dc152108accbd4341e"), looks := true }, kinds := [], alts := [], laidByText := true, laidKinds := [.data, .data, .data, .data, .pinned], laidTests := true, laidLooks := .later }
def DaemonNilCardSaid : Prop := Claim7.holds Tryz.pinned (.plain (OpenSpec.ofChange daemonNilSpec)) daemonNilCard

/-- THE SECOND FORM's CARD OF 'godownlaw20.HistoryOrder'. -/
def historyOrderUptoCard : Claim7 := { stood := { row := historyOrderUptoRow, standIns := [], harness := (true, "31fcf5d91ff0f793b6aa906ea6ee0fd222b6be11abf652dc152108accbd4341e"), looks := true }, kinds := [], alts := [], laidByText := true, laidKinds := [.data, .data, .data, .pinned], laidTests := true, laidLooks := .later }
def HistoryOrderUptoCardSaid : Prop := Claim7.holds Tryz.pinned (.plain (OpenSpec.upto historyOrderSpec)) historyOrderUptoCard

/-- THE SECOND FORM's CARD OF 'godownlaw19.DaemonDeadlock'. -/
def daemonDeadlockUptoCard : Claim7 := { stood := { row := daemonDeadlockUptoRow, standIns := [], harness := (true, "31fcf5d91ff0f793b6aa906ea6ee0fd222b6be11abf652dc152108accbd4341e"), looks := true }, kinds := [], alts := [], laidByText := true, laidKinds := [.data, .data, .data, .data, .pinned], laidTests := true, laidLooks := .later }
def DaemonDeadlockUptoCardSaid : Prop := Claim7.holds Tryz.pinned (.plain (OpenSpec.upto daemonDeadlockSpec)) daemonDeadlockUptoCard

/-- THE SECOND FORM's CARD OF 'godownlaw19.DaemonBusy'. -/
def daemonBusyUptoCard : Claim7 := { stood := { row := daemonBusyUptoRow, standIns := [], harness := (true, "31fcf5d91ff0f793b6aa906ea6ee0fd222b6be11abf652dc152108accbd4341e"), looks := true }, kinds := [], alts := [], laidByText := true, laidKinds := [.data, .data, .data, .data, .pinned], laidTests := true, laidLooks := .later }
def DaemonBusyUptoCardSaid : Prop := Claim7.holds Tryz.pinned (.plain (OpenSpec.upto daemonBusySpec)) daemonBusyUptoCard

/-- THE SECOND FORM's CARD OF 'godownlaw19.DaemonGrants'. -/
def daemonGrantsUptoCard : Claim7 := { stood := { row := daemonGrantsUptoRow, standIns := [], harness := (true, "31fcf5d91ff0f793b6aa906ea6ee0fd222b6be11abf652dc152108accbd4341e"), looks := true }, kinds := [], alts := [], laidByText := true, laidKinds := [.data, .data, .data, .data, .pinned], laidTests := true, laidLooks := .later }
def DaemonGrantsUptoCardSaid : Prop := Claim7.holds Tryz.pinned (.plain (OpenSpec.upto daemonGrantsSpec)) daemonGrantsUptoCard

/-- THE SECOND FORM's CARD OF 'godownlaw19.DaemonNil'. -/
def daemonNilUptoCard : Claim7 := { stood := { row := daemonNilUptoRow, standIns := [], harness := (true, "31fcf5d91ff0f793b6aa906ea6ee0fd222b6be11abf652dc152108accbd4341e"), looks := true }, kinds := [], alts := [], laidByText := true, laidKinds := [.data, .data, .data, .data, .pinned], laidTests := true, laidLooks := .later }
def DaemonNilUptoCardSaid : Prop := Claim7.holds Tryz.pinned (.plain (OpenSpec.upto daemonNilSpec)) daemonNilUptoCard
end Rows
end Go.Proofs.YtnieadkafeohlaaGreatDoor
