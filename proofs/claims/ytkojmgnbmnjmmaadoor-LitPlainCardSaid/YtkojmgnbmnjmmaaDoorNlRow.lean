/-
  Layer 21: what all its laws stand on (nothing is said here).
-/
import Derived.Test.YtkojmgnbmnjmmaaDoorNl27
import Derived.Test.YtkojmgnbmnjmmaaDoorNl49
import Derived.Test.YtkojmgnbmnjmmaaDoorNl41
import Derived.Test.YtkojmgnbmnjmmaaDoorNl38
namespace Go.Proofs.YtkojmgnbmnjmmaaDoor
theorem lit_base : True := trivial
end Go.Proofs.YtkojmgnbmnjmmaaDoor
