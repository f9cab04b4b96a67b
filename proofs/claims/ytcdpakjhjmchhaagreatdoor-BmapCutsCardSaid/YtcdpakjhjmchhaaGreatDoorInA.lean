/-
  RECORDS OF INODES, PLAINLY: fifteen numbers, 64 bytes.
-/
import Derived.Test.YtcdpakjhjmchhaaGreatDoorReI
namespace Go.Proofs.YtcdpakjhjmchhaaGreatDoor.In
open Go Go.Proofs Go.Proofs.YtcdpakjhjmchhaaGreatDoor.Re Go.Proofs.YtcdpakjhjmchhaaGreatDoor.Hd

def z15 : List Int := List.replicate 15 0
end Go.Proofs.YtcdpakjhjmchhaaGreatDoor.In
