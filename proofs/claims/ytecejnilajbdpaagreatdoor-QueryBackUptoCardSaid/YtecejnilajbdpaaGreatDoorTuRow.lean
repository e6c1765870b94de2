/-
  QueryLimits answers true for all arguments: as many matchers and filters as there may be are taken, one more is refused; a text as long as it may be is taken, a byte more is refused. And QueryBack answers true where what it reads is of bulk at most 1048576: a query that may be is printed as a text that is parsed as it; spaces between its parts change nothing; what was handed in may be written over.
-/
import Derived.Test.YtecejnilajbdpaaGreatDoorTu53
namespace Go.Proofs.YtecejnilajbdpaaGreatDoor
theorem query_two : Rows.QueryLimitsCardSaid ∧ Rows.QueryBackUptoCardSaid := ⟨queryLimits.queryLimits_card, queryBackUpto.queryBack_cardupto⟩
end Go.Proofs.YtecejnilajbdpaaGreatDoor
