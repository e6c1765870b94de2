import Derived.Test.YtmcacicopgckmaaGreatDoorDg18
import Derived.Test.YtmcacicopgckmaaGreatDoorDg35
import Derived.Lib.IndexMore
import Derived.Lib.RuneBytes
/-! Patterns, plain: patterns that are put together, as texts -/
namespace Garner
open Go
end Garner

