/-
  Values and bytes that came in, opened.
-/
import Derived.Test.YtalpbphfmelhhaaGreatDoorLK
import Derived.Test.YtalpbphfmelhhaaGreatDoorDA
import Derived.Lib.SmallJoins
namespace Go.Proofs.YtalpbphfmelhhaaGreatDoor
open Go.ChangeShapes Go.WideShapes Go.ChangeAt Go.RowKit Go.Shelf
end Go.Proofs.YtalpbphfmelhhaaGreatDoor
