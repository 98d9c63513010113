/- Contracts of package piece: what is right. -/
import Derived.Test.YtcdpmedmhindaaaPieP
import Derived.Test.YtcdpmedmhindaaaSeqS
import Derived.Test.YtcdpmedmhindaaaRow
namespace Go.Proofs.Ytcdpmedmhindaaa
open Go.RowKit

theorem s8 : (Try.prog.info? 5).map (·.size) = some 1 := by kernel_rfl
set_option maxRecDepth 100000 in
set_option maxHeartbeats 1000000 in
theorem filled_calls (w : World) (p : Pc) (A : Option Addr) (c : Nat) (h0 : 0 ≤ p.place) (h1 : p.place < p.count) (h2 : p.count ≤ 17) (hl : p.b.length ≤ maxLen) :
    Calls Try.prog 61 #[.agg (pcA p A c)] w fun e w' => e = .returned (.bool (pfl p)) ∧ Ext Non w w' := by
  have X := ((Ext.refl Non w).alloc (.cells (pcA p A c) 45))
  unfold pcA at X ⊢
  simp only [maxLen] at hl
  have hpf : pfl p = if p.place = p.count - 1 then decide (p.b.length ≤ 244) && (decide (0 < p.b.length) || decide (p.count = 1)) && decide (244 * p.place + p.b.length ≤ 4096) else decide (p.b.length = 244) := rfl
  have HP := Lib.hid hpf
  clear hpf
  generalize pfl p = r at *
  generalize p.b.length = n at *
  generalize p.place = pl at *
  generalize p.count = co at *
  go_enter Try.func61, Try.ntmps61
  go_wp2_with fail
  all_goals go_ret
  all_goals refine ⟨?_, (Ext.refl _ _).alloc _⟩
  all_goals rw [HP.out]
  all_goals simp_all
  all_goals first | omega | (rw [Bool.eq_iff_iff, beq_iff_eq, decide_eq_true_eq]; omega)

set_option maxRecDepth 100000 in
set_option maxHeartbeats 1000000 in
theorem right_calls (w : World) (p : Pc) (A : Option Addr) (c : Nat) (hl : p.b.length ≤ maxLen) :
    Calls Try.prog 44 #[.agg (pcA p A c)] w fun e w' => e = .returned (.bool (prt p)) ∧ Ext Non w w' := by
  have X := ((Ext.refl Non w).alloc (.cells (pcA p A c) 45))
  have ctr := fun W h0 h1 h2 => filled_calls W p A c h0 h1 h2 hl
  unfold pcA at X ctr ⊢
  simp only [maxLen] at hl
  have hpf : prt p = if p.kind = 1 then decide (1 ≤ p.count ∧ p.count ≤ 17 ∧ 0 ≤ p.place ∧ p.place < p.count) && pfl p
    else decide (p.place = 0 ∧ p.count = 0 ∧ p.b.length = 0) && (decide (p.kind = 2) || decide (p.kind = 3 ∧ p.fr = 0 ∧ p.bx = 0)) := rfl
  have HP := Lib.hid hpf
  clear hpf
  generalize prt p = r at *
  generalize pfl p = rf at *
  generalize p.b.length = n at *
  generalize p.place = pl at *
  generalize p.count = co at *
  generalize p.kind = ki at *
  generalize p.id = id at *
  generalize p.fr = fr at *
  generalize p.bx = bx at *
  go_enter Try.func44, Try.ntmps44
  go_wp2_with (go_at_call 61; refine (ctr _ (by omega) (by omega) (by omega)).mono ?_; rintro e w1 ⟨rfl, x1⟩)
  all_goals go_ret
  all_goals first | refine ⟨?_, (Ext.refl _ _).alloc _⟩ | refine ⟨?_, ((Ext.refl _ _).alloc _).transN (by assumption)⟩
  all_goals rw [HP.out]
  all_goals simp_all
  all_goals first | omega | (rw [Bool.eq_iff_iff, beq_iff_eq, decide_eq_true_eq]; omega)
theorem right_e_calls (w : World) (p : Pc) (A : Option Addr) (c : Nat) (hl : p.b.length ≤ maxLen) :
    Calls Try.prog 29 #[.agg (pcA p A c)] w fun e w' => e = .returned (.int .i64 (pence p : Nat)) ∧ Ext Non w w' := by
  have ctr := fun W => right_calls W p A c hl
  have hpe : pence p = if prt p = true then 0 else 1 := rfl
  unfold pcA at ctr ⊢
  have HP := Lib.hid hpe
  clear hpe
  generalize pence p = v at *
  generalize prt p = r at *
  go_enter Try.func29, Try.ntmps29
  go_wp2_with (go_at_call 44; refine (ctr _).mono ?_; rintro e w1 ⟨rfl, x1⟩)
  all_goals go_ret
  all_goals refine ⟨?_, ((Ext.refl _ _).alloc _).transN (by assumption)⟩
  all_goals rw [HP.out]
  all_goals simp_all
theorem key_calls (w : World) (p : Pc) (A : Option Addr) (c : Nat) :
    Calls Try.prog 37 #[.agg (pcA p A c)] w fun e w' => e = .returned (.agg #[.int .u32 p.id, .int .u16 p.fr, .int .u16 p.bx]) ∧ Ext Non w w' := by
  unfold pcA
  go_enter Try.func37, Try.ntmps37
  have B := Blk.new (w.alloc (.cells #[.int .i64 p.kind, .int .u32 p.id, .int .u16 p.fr, .int .u16 p.bx, .int .i64 p.place, .int .i64 p.count, .slice A p.b.length c] 45)) 104 #[.int .u32 p.id, .int .u16 p.fr, .int .u16 p.bx]
  rw [World.size_alloc] at B
  go_wp2
  exact bodyPost_ret (Blk.results B Try.results37 _ rfl Try.underlying104 rfl (by kernel_rfl)) rfl ⟨rfl, ((Ext.refl _ _).alloc _).alloc _⟩

/-! ### keys of messages, and places, as keys of maps -/
def kyv (k : Nat × Nat × Nat) : Value := .agg #[.int .u32 k.1, .int .u16 k.2.1, .int .u16 k.2.2]
def iv (i : Int) : Value := .int .i64 i
set_option maxRecDepth 100000 in
theorem equalIn_ky (w : World) (a b : Nat × Nat × Nat) : (Op.equalIn 10000 104 (kyv a) (kyv b)).run Try.prog w = .ok (decide (a = b)) w := by
  obtain ⟨a1, a2, a3⟩ := a
  obtain ⟨b1, b2, b3⟩ := b
  unfold kyv
  go_simp
  simp only [Prod.mk.injEq, Int.natCast_inj]
  by_cases h1 : a1 = b1 <;> by_cases h2 : a2 = b2 <;> by_cases h3 : a3 = b3 <;> simp [h1, h2, h3]
end Go.Proofs.Ytcdpmedmhindaaa
