import Derived.Test.YtecejnilajbdpaaGreatDoorTy08
import Derived.Lib.AppendZerosOnto
namespace Go.Proofs.YtecejnilajbdpaaGreatDoor
open Go.RowKit Garner
end Go.Proofs.YtecejnilajbdpaaGreatDoor
