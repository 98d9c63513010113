/- Keys of messages, and places, as keys of maps; cells of joiners. -/
import Derived.Test.YtcdpmedmhindaaaPieA
import Derived.Test.YtcdpmedmhindaaaJnP
import Derived.Test.YtcdpmedmhindaaaOwO
namespace Go.Proofs.Ytcdpmedmhindaaa
open Go.RowKit

theorem chk_int (b : Bool) (n : Nat) (t : TypeId) (k : IntKind) (x : Int) (h : Try.prog.underlying t = some (.int k)) (w : World) : (Instr.checkKey b (n + 1) t (.int k x)).run Try.prog w = .ok () w := by
  simp [Instr.checkKey, run_underlying h]
set_option maxRecDepth 100000 in
theorem ke_ky : KE Try.prog 104 kyv where
  chk b k w := by
    obtain ⟨a1, a2, a3⟩ := k
    have e1 := fun x w => chk_int b 9998 22 .u32 x Try.underlying22 w
    have e2 := fun x w => chk_int b 9998 30 .u16 x Try.underlying30 w
    have e3 := fun x w => chk_int b 9998 31 .u16 x Try.underlying31 w
    show (Instr.checkKey b (9999 + 1) _ _).run _ _ = _
    unfold kyv Instr.checkKey
    simp only [Sem.run_bind, run_underlying Try.underlying104, Result.andThen_ok]
    go_simp
  eq a b w := equalIn_ky w a b
  und := ⟨_, Try.underlying104, fun a b => .inl rfl⟩
  same k := by
    obtain ⟨a1, a2, a3⟩ := k
    simp [Instr.sameBits, kyv]
theorem ke_iv : KE Try.prog 3 iv where
  chk b k w := chk_int b 9999 3 .i64 k Try.underlying3 w
  eq a b w := by
    have := run_equalIn_int (P := Try.prog) w 9999 3 .i64 .i64 a b Try.underlying3
    show (Op.equalIn 10000 _ _ _).run _ _ = _
    rw [show (10000 : Nat) = 9999 + 1 from rfl]
    unfold iv
    rw [this]
    congr 1
  und := ⟨_, Try.underlying3, fun a b => .inr (by
    simp [iv, Instr.sameNow]
    rw [Bool.eq_iff_iff, beq_iff_eq, decide_eq_true_eq])⟩
  same a := by simp [iv, Instr.sameBits]
end Go.Proofs.Ytcdpmedmhindaaa
