/- A configuration that came in, opened: its expression's words are words. No conditions. -/
import Derived.Test.YtonkenlkigfeoaaGreatDoorPk29
import Derived.Test.YtonkenlkigfeoaaGreatDoorPk12
namespace Go.Proofs.YtonkenlkigfeoaaGreatDoor
open Go.RowKit Go.Deep
section
variable {H : Type} {enc : TypeId × Value → H} {w : World} {spare : Nat → Bool} {held : Bool}
end
end Go.Proofs.YtonkenlkigfeoaaGreatDoor
