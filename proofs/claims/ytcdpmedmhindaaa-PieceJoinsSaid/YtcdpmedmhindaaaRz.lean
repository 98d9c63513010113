/- The document's answer for layer 1: Zeros. -/
import Derived.Test.YtcdpmedmhindaaaTxt
namespace Go.Proofs.Ytcdpmedmhindaaa
open Go.RowKit

/-- Zeros: so many noughts. -/
theorem rzeros_calls (w : World) (n : Int) (hn : n ≤ 9223372036854775807) :
    Calls Try.prog 52 #[.int .i64 n] w fun e w' => e = .returned (.string (str (zeros n.toNat))) ∧ w = w' := by
  go_enter Try.func52, Try.ntmps52
  go_wp2
  go_loopw [3, 4] (fun s i wr => ∃ j : Nat, j ≤ n.toNat ∧ s = .string (str (zeros j)) ∧ i = .int .i64 j ∧ w = wr) (fun _ i _ => n.toNat - (intOf i).toNat)
  case atStart => exact ⟨0, by omega, rfl, rfl, rfl⟩
  case round =>
    obtain ⟨j, hj, rfl, rfl, rfl⟩ := hrel
    by_cases hjk : (j : Int) < n
    · obtain ⟨hs1, hs2, hs3, hs4, hmax⟩ := sum_facts (l := zeros j) (m := [0]) (r := zeros (j + 1)) (by simp [zeros, List.replicate_succ']) j 1 (zeros_length j) rfl (by omega)
      have hs3' : str (zeros j) ++ { data := #[0] } = str (zeros (j + 1)) := hs3
      clear hs3
      go_wp2
      exact ⟨⟨j + 1, by omega, rfl, by go_num, trivial⟩, by simp [intOf]; omega⟩
    · obtain rfl : n.toNat = j := by omega
      go_wp2
      go_ret
      exact ⟨rfl, rfl⟩

end Go.Proofs.Ytcdpmedmhindaaa
