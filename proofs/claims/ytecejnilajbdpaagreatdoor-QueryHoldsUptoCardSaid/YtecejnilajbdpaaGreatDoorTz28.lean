import Derived.Lib.AppendZerosOnto
import Derived.Test.YtecejnilajbdpaaGreatDoorTz08
namespace Go.Proofs.YtecejnilajbdpaaGreatDoor
open Go.RowKit Garner
end Go.Proofs.YtecejnilajbdpaaGreatDoor
