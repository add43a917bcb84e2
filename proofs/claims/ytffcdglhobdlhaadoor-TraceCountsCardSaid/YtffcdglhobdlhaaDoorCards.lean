/-
  DERIVED. GIVEN WITH THE SEED: THE CARDS: each row of YtffcdglhobdlhaaDoorRows.lean that lists a variable, with what it lists TIED to the program's text (the seventh form; the later family's looks); each row that meets fmt, with fmt's text TOLD by the authors' own Lean function (tested against real Go, not proved from fmt's source: count such statements apart). THE CARD IS WHAT COUNTS. Prove the row's statement (the work); the ties are given (YtffcdglhobdlhaaDoorTie.lean); close each card by the builder's one call (the guide's Derived/Test/ToyasCard.lean, 'card_holds'). Laid BY PROGRAM, IN A SANDBOX (cutbox-door.mjs). By AI agents, Wed Nov 11 2026. No macro, syntax, notation, axiom, sorry.
-/
import Derived.Test.YtffcdglhobdlhaaDoorRows
import GoSem.ClaimSeven
namespace Go.Proofs.YtffcdglhobdlhaaDoor
namespace Rows

/-- THE TIED CARD OF 'humpyardlaw21.TraceShares'. -/
def traceSharesCard : Claim7 := { stood := { row := traceSharesRow, standIns := [], harness := (true, "4cbaa9ba9cceeeb9efc7e0a0c645d50ce9629810ffa1e24ba68c75040e67feea"), looks := false }, kinds := [], alts := [], laidByText := true, laidKinds := [.data, .data, .data], laidTests := true, laidLooks := .later }
def TraceSharesCardSaid : Prop := Claim7.holds Tryd.pinned (.plain (OpenSpec.ofChange traceSharesSpec)) traceSharesCard

/-- THE TIED CARD OF 'humpyardlaw21.TraceKinds'. -/
def traceKindsCard : Claim7 := { stood := { row := traceKindsRow, standIns := [], harness := (true, "4cbaa9ba9cceeeb9efc7e0a0c645d50ce9629810ffa1e24ba68c75040e67feea"), looks := false }, kinds := [], alts := [], laidByText := true, laidKinds := [.data, .data, .data], laidTests := true, laidLooks := .later }
def TraceKindsCardSaid : Prop := Claim7.holds Tryd.pinned (.plain (OpenSpec.ofChange traceKindsSpec)) traceKindsCard

/-- THE TIED CARD OF 'humpyardlaw21.TraceReports'. -/
def traceReportsCard : Claim7 := { stood := { row := traceReportsRow, standIns := [], harness := (true, "4cbaa9ba9cceeeb9efc7e0a0c645d50ce9629810ffa1e24ba68c75040e67feea"), looks := false }, kinds := [], alts := [], laidByText := true, laidKinds := [.data, .data, .data], laidTests := true, laidLooks := .later }
def TraceReportsCardSaid : Prop := Claim7.holds Tryd.pinned (.plain (OpenSpec.ofChange traceReportsSpec)) traceReportsCard

/-- THE TIED CARD OF 'humpyardlaw21.TraceCounts'. -/
def traceCountsCard : Claim7 := { stood := { row := traceCountsRow, standIns := [], harness := (true, "4cbaa9ba9cceeeb9efc7e0a0c645d50ce9629810ffa1e24ba68c75040e67feea"), looks := false }, kinds := [], alts := [], laidByText := true, laidKinds := [.data, .data, .data], laidTests := true, laidLooks := .later }
def TraceCountsCardSaid : Prop := Claim7.holds Tryd.pinned (.plain (OpenSpec.ofChange traceCountsSpec)) traceCountsCard

/-- THE SECOND FORM's CARD OF 'humpyardlaw21.TraceShares'. -/
def traceSharesUptoCard : Claim7 := { stood := { row := traceSharesUptoRow, standIns := [], harness := (true, "4cbaa9ba9cceeeb9efc7e0a0c645d50ce9629810ffa1e24ba68c75040e67feea"), looks := false }, kinds := [], alts := [], laidByText := true, laidKinds := [.data, .data, .data], laidTests := true, laidLooks := .later }
def TraceSharesUptoCardSaid : Prop := Claim7.holds Tryd.pinned (.plain (OpenSpec.upto traceSharesSpec)) traceSharesUptoCard

/-- THE SECOND FORM's CARD OF 'humpyardlaw21.TraceKinds'. -/
def traceKindsUptoCard : Claim7 := { stood := { row := traceKindsUptoRow, standIns := [], harness := (true, "4cbaa9ba9cceeeb9efc7e0a0c645d50ce9629810ffa1e24ba68c75040e67feea"), looks := false }, kinds := [], alts := [], laidByText := true, laidKinds := [.data, .data, .data], laidTests := true, laidLooks := .later }
def TraceKindsUptoCardSaid : Prop := Claim7.holds Tryd.pinned (.plain (OpenSpec.upto traceKindsSpec)) traceKindsUptoCard

/-- THE SECOND FORM's CARD OF 'humpyardlaw21.TraceReports'. -/
def traceReportsUptoCard : Claim7 := { stood := { row := traceReportsUptoRow, standIns := [], harness := (true, "4cbaa9ba9cceeeb9efc7e0a0c645d50ce9629810ffa1e24ba68c75040e67feea"), looks := false }, kinds := [], alts := [], laidByText := true, laidKinds := [.data, .data, .data], laidTests := true, laidLooks := .later }
def TraceReportsUptoCardSaid : Prop := Claim7.holds Tryd.pinned (.plain (OpenSpec.upto traceReportsSpec)) traceReportsUptoCard

/-- THE SECOND FORM's CARD OF 'humpyardlaw21.TraceCounts'. -/
def traceCountsUptoCard : Claim7 := { stood := { row := traceCountsUptoRow, standIns := [], harness := (true, "4cbaa9ba9cceeeb9efc7e0a0c645d50ce9629810ffa1e24ba68c75040e67feea"), looks := false }, kinds := [], alts := [], laidByText := true, laidKinds := [.data, .data, .data], laidTests := true, laidLooks := .later }
def TraceCountsUptoCardSaid : Prop := Claim7.holds Tryd.pinned (.plain (OpenSpec.upto traceCountsSpec)) traceCountsUptoCard
end Rows
end Go.Proofs.YtffcdglhobdlhaaDoor
