/- What each law of layer 1 shows first. -/
import Derived.Test.YtkgnhkkmingenaaOct
namespace Go.Proofs.Ytkgnhkkmingenaa
open Go.RowKit

/-- Blocks from lo on, below hi. -/
def Iv (lo hi : Nat) : Nat → Prop := fun k => lo ≤ k ∧ k < hi

section
variable {S D : Nat → Prop} {w w' : World} {lo hi p q base n c : Nat} {g g' : Option Nat} {A : Option Addr} {xs : List Value} {l : List UInt8}
theorem Rd.one (h : Rd w (Iv lo hi) A xs) (x : Ext (One q) w w') (hq : q < lo ∨ hi ≤ q) : Rd w' (Iv lo hi) A xs :=
  h.ext x (fun k hk he => by have : k = q := he; have := hk.1; have := hk.2; omega)
theorem Rd.ws (h : Rd w (Iv lo hi) A xs) (x : Ext (WrS q g) w w') (hq : q < lo ∨ hi ≤ q) (hg : ∀ k, g = some k → k < lo ∨ hi ≤ k) : Rd w' (Iv lo hi) A xs :=
  h.ext x (fun k hk he => by
    have h1 := hk.1; have h2 := hk.2
    rcases he with he | he
    · omega
    · have := hg k he; omega)
theorem Rdr.one (h : Rdr w p (Iv lo hi) l) (x : Ext (One q) w w') (hp : p ≠ q) (hq : q < lo ∨ hi ≤ q) : Rdr w' p (Iv lo hi) l :=
  h.ext x (fun he => hp he) (fun k hk he => by have : k = q := he; have := hk.1; have := hk.2; omega)
theorem Rdr.ws (h : Rdr w p (Iv lo hi) l) (x : Ext (WrS q g) w w') (hp : p ≠ q) (hq : q < lo ∨ hi ≤ q) (hg : ∀ k, g = some k → k ≠ p ∧ (k < lo ∨ hi ≤ k)) : Rdr w' p (Iv lo hi) l :=
  h.ext x (fun he => he.elim hp (fun e => (hg p e).1 rfl)) (fun k hk he => by
    have h1 := hk.1; have h2 := hk.2
    rcases he with he | he
    · omega
    · have := (hg k he).2; omega)
theorem Wr.one (h : Wr w base p g l) (x : Ext (One q) w w') (hp : p ≠ q) (hg : ∀ k, g = some k → k ≠ q) : Wr w' base p g l :=
  h.ext x (fun he => hp he) (fun k hk he => hg k hk he)
theorem Wr.drew (h : Wr w base p g l) : Wr w.drew base p g l := ⟨h.ex⟩
theorem Rdr.drew (h : Rdr w p D l) : Rdr w.drew p D l := ⟨h.ex⟩
theorem Rd.drew (h : Rd w D A xs) : Rd w.drew D A xs := h
theorem OwB.iv (h : OwB w base A c l) : Rd w (Iv base w.heap.size) A (bvs l) := h.rd.imp (fun _ _ hk => h.lt hk)
theorem Ext.oneN (h : Ext (One q) w w') {B : Nat} (hB : B ≤ q) (hw : B ≤ w.heap.size) : Below B w w' := h.below hw (fun k hk he => by have : k = q := he; omega)
end

theorem new_wr (w : World) (base : Nat) : Wr (w.alloc (.cells #[.slice none 0 0] 26)) base w.heap.size none [] :=
  ⟨none, 0, Blk.new _ _ _, OwB.nil _ _, rfl⟩

set_option maxRecDepth 100000 in
set_option maxHeartbeats 1000000 in
theorem shown_calls (w : World) : Calls Try.prog 10 #[] w fun e w' => e = .returned (.bool true) ∧ Ext Non w w' := by
  have n1 : num [2, 1] = 513 := by decide
  have n2 : num [0, 0, 0, 0, 0, 0, 1, 0] = 256 := by decide
  go_enter Try.func10, Try.ntmps10
  go_wp2_with fail
  refine (read_calls (D := fun _ => True) (l := [2, 1, 0, 0, 0, 0, 0, 0, 1, 0, 9]) 11 11 (Rd.of_blk (Blk.new w _ _) trivial 0 11) rfl (by simp)).mono ?_
  rintro e w1 ⟨p, rfl, hr1, hp1, hx1⟩
  have X1 : Ext Non w (w1.alloc (.cells #[.slice none 0 0] 26)) := (((Ext.refl Non w).alloc _).trans' hx1).alloc _
  have W1 := new_wr w1 w.heap.size
  have R1 := hr1.extN ((Ext.refl Non w1).alloc (.cells #[.slice none 0 0] 26))
  have hpq : p < w1.heap.size := hr1.lt
  go_wp2_with fail
  refine (u16_calls R1 (by omega) (by simp)).mono ?_
  rintro e w2 ⟨rfl, R2, x2⟩
  go_wp2_with fail
  refine (u64_calls R2 (by omega) (by simp)).mono ?_
  rintro e w3 ⟨rfl, R3, x3⟩
  go_wp2_with fail
  refine (u16_short R3 (by simp)).mono ?_
  rintro e w4 ⟨rfl, rfl⟩
  go_wp2_with fail
  refine (left_calls R3).mono ?_
  rintro e w4 ⟨rfl, rfl⟩
  go_wp2_with fail
  refine (rdone_calls R3).mono ?_
  rintro e w4 ⟨rfl, rfl⟩
  have x23 : Ext (One p) (w1.alloc (.cells #[.slice none 0 0] 26)) w3 := x2.trans' x3
  have W3 : Wr w3 w.heap.size w1.heap.size none [] := W1.ext x23 (fun h => by have : w1.heap.size = p := h; omega) (fun _ h => by cases h)
  have s3 : w.heap.size ≤ w3.heap.size := Nat.le_trans X1.size x23.size
  go_wp2_with fail
  refine (wu64_calls W3 s3 1 (by omega) (by simp)).mono ?_
  rintro e w5 ⟨rfl, g5, S5⟩
  go_wp2_with fail
  refine (wzeros_calls S5.wr (Nat.le_trans s3 S5.ext.size) 2 (by simp [be])).mono ?_
  rintro e w6 ⟨rfl, g6, S6⟩
  have S56 := S5.trans S6
  go_wp2_with fail
  have el : [] ++ be 8 1 ++ zeros (Int.toNat 2) = [0, 0, 0, 0, 0, 0, 0, 1, 0, 0] := by decide
  rw [el] at S56
  refine (wdone_calls S56.wr 10 rfl (by simp)).mono ?_
  rintro e w7 ⟨A', c', rfl, o7, x7⟩
  have hcv := run_convert_rd w7 22 9 5 Try.underlying22 Try.underlying9 Try.underlying5 o7.rd 10 c' rfl
  clear el
  go_wp2
  go_ret
  refine ⟨rfl, ((X1.trans x23 ?_).trans S56.ext ?_).transN x7⟩
  · intro i hi (h : i = p)
    simp at hp1
    omega
  · rintro i hi (h | h)
    · have := hx1.size; simp at this; omega
    · cases h

end Go.Proofs.Ytkgnhkkmingenaa
