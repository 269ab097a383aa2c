/- What is proved: aviarylaw19.CollectorNone answers true for every input, and its arguments read afterwards as they read before (the tied card). Conditions: those of the given row alone; the listed variables start as the program's text lays them. -/
import Derived.Test.YtjmgcdbefkojjaaGreatDoorCardOf
import Derived.Test.YtjmgcdbefkojjaaGreatDoorTab
namespace Go.Proofs.YtjmgcdbefkojjaaGreatDoor
open Go Go.Av
theorem collectorNone_card : Rows.CollectorNoneCardSaid := card (okClosed e15)
#print axioms collectorNone_card
end Go.Proofs.YtjmgcdbefkojjaaGreatDoor
