/- The reference's walks: Of, Number, Weekday, Week. -/
import Derived.Test.YteoembjghmgbhaaGreatDoorR0
namespace Go.Proofs.YteoembjghmgbhaaGreatDoor
set_option linter.all false
open Go.RowKit

def numI (d : Dt) : Int := if exB d && dayB (dayI d) then dayI d else -1
end Go.Proofs.YteoembjghmgbhaaGreatDoor
