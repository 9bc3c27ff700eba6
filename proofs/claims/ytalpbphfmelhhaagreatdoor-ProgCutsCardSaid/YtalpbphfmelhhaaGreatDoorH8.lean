/-
  What is wrong with a program, by the document (raceref9.Check).
-/
import Derived.Test.YtalpbphfmelhhaaGreatDoorHC
namespace Go.Proofs.YtalpbphfmelhhaaGreatDoor
open Go.RowKit Go.Maps Go.Sort
set_option maxRecDepth 100000
attribute [local go_sem] bs_size bs_get bs_toList frombits tobits run_store_float
end Go.Proofs.YtalpbphfmelhhaaGreatDoor
