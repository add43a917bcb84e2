/-
  DERIVED. GIVEN WITH THE SEED: THE CARDS: each row of YtcioahjfmmhiiaaDoorRows.lean that lists a variable, with what it lists TIED to the program's text (the seventh form; the later family's looks); each row that meets fmt, with fmt's text TOLD by the authors' own Lean function (tested against real Go, not proved from fmt's source: count such statements apart). THE CARD IS WHAT COUNTS. Prove the row's statement (the work); the ties are given (YtcioahjfmmhiiaaDoorTie.lean); close each card by the builder's one call (the guide's Derived/Test/ToyasCard.lean, 'card_holds'). Laid BY PROGRAM, IN A SANDBOX (cutbox-door.mjs). By AI agents, Wed Nov 11 2026. No macro, syntax, notation, axiom, sorry.
-/
import Derived.Test.YtcioahjfmmhiiaaDoorRows
import GoSem.ClaimSeven
namespace Go.Proofs.YtcioahjfmmhiiaaDoor
namespace Rows

/-- THE TIED CARD OF 'humpyardlaw07.TopicTells'. -/
def topicTellsCard : Claim7 := { stood := { row := topicTellsRow, standIns := [], harness := (true, "2ebd98ec2327cf5e89a72dc616062e930a389289449cae9875e4f8ced9011e26"), looks := false }, kinds := [], alts := [], laidByText := true, laidKinds := [.data, .pinned], laidTests := true, laidLooks := .later }
def TopicTellsCardSaid : Prop := Claim7.holds Tryd.pinned (.plain (OpenSpec.ofChange topicTellsSpec)) topicTellsCard

/-- THE TIED CARD OF 'humpyardlaw07.TopicBack'. -/
def topicBackCard : Claim7 := { stood := { row := topicBackRow, standIns := [], harness := (true, "2ebd98ec2327cf5e89a72dc616062e930a389289449cae9875e4f8ced9011e26"), looks := false }, kinds := [], alts := [], laidByText := true, laidKinds := [.data, .pinned], laidTests := true, laidLooks := .later }
def TopicBackCardSaid : Prop := Claim7.holds Tryd.pinned (.plain (OpenSpec.ofChange topicBackSpec)) topicBackCard

/-- THE TIED CARD OF 'humpyardlaw07.TopicForth'. -/
def topicForthCard : Claim7 := { stood := { row := topicForthRow, standIns := [], harness := (true, "2ebd98ec2327cf5e89a72dc616062e930a389289449cae9875e4f8ced9011e26"), looks := false }, kinds := [], alts := [], laidByText := true, laidKinds := [.data, .pinned], laidTests := true, laidLooks := .later }
def TopicForthCardSaid : Prop := Claim7.holds Tryd.pinned (.plain (OpenSpec.ofChange topicForthSpec)) topicForthCard

/-- THE TIED CARD OF 'humpyardlaw07.TopicFilters'. -/
def topicFiltersCard : Claim7 := { stood := { row := topicFiltersRow, standIns := [], harness := (true, "2ebd98ec2327cf5e89a72dc616062e930a389289449cae9875e4f8ced9011e26"), looks := false }, kinds := [], alts := [], laidByText := true, laidKinds := [.data, .pinned], laidTests := true, laidLooks := .later }
def TopicFiltersCardSaid : Prop := Claim7.holds Tryd.pinned (.plain (OpenSpec.ofChange topicFiltersSpec)) topicFiltersCard

/-- THE SECOND FORM's CARD OF 'humpyardlaw07.TopicTells'. -/
def topicTellsUptoCard : Claim7 := { stood := { row := topicTellsUptoRow, standIns := [], harness := (true, "2ebd98ec2327cf5e89a72dc616062e930a389289449cae9875e4f8ced9011e26"), looks := false }, kinds := [], alts := [], laidByText := true, laidKinds := [.data, .pinned], laidTests := true, laidLooks := .later }
def TopicTellsUptoCardSaid : Prop := Claim7.holds Tryd.pinned (.plain (OpenSpec.upto topicTellsSpec)) topicTellsUptoCard

/-- THE SECOND FORM's CARD OF 'humpyardlaw07.TopicBack'. -/
def topicBackUptoCard : Claim7 := { stood := { row := topicBackUptoRow, standIns := [], harness := (true, "2ebd98ec2327cf5e89a72dc616062e930a389289449cae9875e4f8ced9011e26"), looks := false }, kinds := [], alts := [], laidByText := true, laidKinds := [.data, .pinned], laidTests := true, laidLooks := .later }
def TopicBackUptoCardSaid : Prop := Claim7.holds Tryd.pinned (.plain (OpenSpec.upto topicBackSpec)) topicBackUptoCard

/-- THE SECOND FORM's CARD OF 'humpyardlaw07.TopicForth'. -/
def topicForthUptoCard : Claim7 := { stood := { row := topicForthUptoRow, standIns := [], harness := (true, "2ebd98ec2327cf5e89a72dc616062e930a389289449cae9875e4f8ced9011e26"), looks := false }, kinds := [], alts := [], laidByText := true, laidKinds := [.data, .pinned], laidTests := true, laidLooks := .later }
def TopicForthUptoCardSaid : Prop := Claim7.holds Tryd.pinned (.plain (OpenSpec.upto topicForthSpec)) topicForthUptoCard

/-- THE SECOND FORM's CARD OF 'humpyardlaw07.TopicFilters'. -/
def topicFiltersUptoCard : Claim7 := { stood := { row := topicFiltersUptoRow, standIns := [], harness := (true, "2ebd98ec2327cf5e89a72dc616062e930a389289449cae9875e4f8ced9011e26"), looks := false }, kinds := [], alts := [], laidByText := true, laidKinds := [.data, .pinned], laidTests := true, laidLooks := .later }
def TopicFiltersUptoCardSaid : Prop := Claim7.holds Tryd.pinned (.plain (OpenSpec.upto topicFiltersSpec)) topicFiltersUptoCard
end Rows
end Go.Proofs.YtcioahjfmmhiiaaDoor
