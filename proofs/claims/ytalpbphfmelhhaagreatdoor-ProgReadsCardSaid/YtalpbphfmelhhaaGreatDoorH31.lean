/-
  The document's run (raceref9.Run).
-/
import Derived.Test.YtalpbphfmelhhaaGreatDoorHX
import Derived.Test.YtalpbphfmelhhaaGreatDoorH8
import Derived.BigRegion
namespace Go.Proofs.YtalpbphfmelhhaaGreatDoor
open Go.RowKit Go.Maps Go.Sort
set_option maxRecDepth 100000
attribute [local go_sem] bs_size bs_get bs_toList frombits tobits run_store_float
end Go.Proofs.YtalpbphfmelhhaaGreatDoor
