import Derived.Test.YtecejnilajbdpaaGreatDoorTy16
import Derived.Test.YtecejnilajbdpaaGreatDoorTy50
namespace Go.Proofs.YtecejnilajbdpaaGreatDoor
open Go.ChangeShapes Go.WideShapes Go.RowKit Garner
theorem strB_data (s : ByteArray) : strB s.data.toList = .string s := by cases s; simp [strB]
end Go.Proofs.YtecejnilajbdpaaGreatDoor
