import Derived.Test.YtecejnilajbdpaaGreatDoorTu05
import Derived.Lib.AppendZerosOnto
namespace Go.Proofs.YtecejnilajbdpaaGreatDoor
open Go.RowKit Garner

end Go.Proofs.YtecejnilajbdpaaGreatDoor

