/- layer 19: what all its laws stand on -/
import Derived.Test.YtkojmgnbmnjmmaaDoorNc25
import Derived.Test.YtkojmgnbmnjmmaaDoorNc49
import Derived.Test.YtkojmgnbmnjmmaaDoorNc48
namespace Go.Proofs.YtkojmgnbmnjmmaaDoor
theorem nfa_base : True := trivial
end Go.Proofs.YtkojmgnbmnjmmaaDoor
