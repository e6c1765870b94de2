import Derived.Test.YtmalkgakdmghiaaPa14
import Derived.Test.YtmalkgakdmghiaaPa15
/-! layer 3: a packed list's size -/
namespace Go.Proofs.Ytmalkgakdmghiaa
open Go.RowKit Garner

theorem vPkSize (n k : Nat) (zn zk : Int) (w : World) (hzn : zn = (n : Int)) (hzk : zk = (k : Int)) (hn : n ≤ 65536) (hk : k ≤ 64) :
    Calls Try.prog 30 #[.int .i64 zn, .int .i64 zk] w fun e w' => e = .returned (.int .i64 (szN n k : Nat)) ∧ w' = w := by
  subst hzn hzk
  have hm : n * k ≤ 65536 * 64 := Nat.mul_le_mul hn hk
  obtain ⟨z, hz⟩ : ∃ z : Int, z = (n : Int) * k := ⟨_, rfl⟩
  have hz2 : z = ((n * k : Nat) : Int) := by rw [hz]; simp
  go_enter Try.func30, Try.ntmps30
  go_wp2
  go_ret
  refine ⟨congrArg (fun z : Int => Ending.returned (.int .i64 z)) ?_, rfl⟩
  unfold szN
  generalize n * k = p at *
  simp only [← hz]
  omega
end Go.Proofs.Ytmalkgakdmghiaa
