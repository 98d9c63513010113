/- Contract of package hmac: Same. -/
import Derived.Test.YtgbaijmpfdhoeaaDoorHm
namespace Go.Proofs.YtgbaijmpfdhoeaaDoor
open Go.RowKit

/-- What the first k bytes of two rows differ in, all as one. -/
def accd (a b : List UInt8) : Nat → UInt8
  | 0 => 0
  | k + 1 => accd a b k ||| (a.getD k 0 ^^^ b.getD k 0)
theorem or_zero8 (x y : UInt8) : x ||| y = 0 ↔ x = 0 ∧ y = 0 := by
  rw [← UInt8.toBitVec_inj, ← UInt8.toBitVec_inj, ← UInt8.toBitVec_inj, UInt8.toBitVec_or]
  exact BitVec.or_eq_zero_iff
theorem xor_zero8 (x y : UInt8) : x ^^^ y = 0 ↔ x = y := UInt8.xor_eq_zero_iff
theorem accd_zero (a b : List UInt8) : ∀ k, accd a b k = 0 ↔ ∀ i, i < k → a.getD i 0 = b.getD i 0
  | 0 => ⟨fun _ i h => absurd h (Nat.not_lt_zero i), fun _ => rfl⟩
  | k + 1 => by
    rw [accd, or_zero8, xor_zero8, accd_zero a b k]
    constructor
    · rintro ⟨h1, h2⟩ i hi
      by_cases e : i = k
      · rw [e]; exact h2
      · exact h1 i (by omega)
    · intro h
      exact ⟨fun i hi => h i (by omega), h k (by omega)⟩
theorem accd_all {a b : List UInt8} {n : Nat} (ha : a.length = n) (hb : b.length = n) : (accd a b n = 0) = (a = b) := by
  apply propext
  rw [accd_zero]
  constructor
  · intro h
    apply List.ext_getElem (by omega)
    intro i h1 h2
    have := h i (by omega)
    simpa [List.getD, h1, h2] using this
  · rintro rfl i _
    rfl

set_option maxRecDepth 100000 in
set_option maxHeartbeats 1000000 in
theorem same_calls {w : World} {D D' : Nat → Prop} {A B : Option Addr} {a b : List UInt8} (n c m d : Nat) (ra : Rd w D A (bvs a)) (ha : a.length = n) (rb : Rd w D' B (bvs b)) (hb : b.length = m) (hn : n ≤ 4611686018427387904) :
    Calls Tryd.prog 12 #[.slice A n c, .slice B m d] w fun e w' => e = .returned (.bool (a == b)) ∧ Ext Non w w' := by
  by_cases hnm : n = m
  · subst hnm
    have hfin := accd_all ha hb
    have HF := Lib.hid hfin
    clear hfin
    go_enter Tryd.func12, Tryd.ntmps12
    go_wp2_with fail
    go_loopw [5, 14] (fun s i wr => ∃ k : Nat, k ≤ n ∧ s = .int .u8 ((accd a b k).toNat : Int) ∧ i = .int .i64 k ∧ Ext Non w wr) (fun _ i _ => n - (intOf i).toNat)
    case atStart => exact ⟨0, by omega, rfl, rfl, Ext.refl _ _⟩
    case round =>
      obtain ⟨k, hk, rfl, rfl, X⟩ := hrel
      by_cases hlt : k < n
      · obtain ⟨x, hx⟩ : ∃ x, a.getD k 0 = x := ⟨_, rfl⟩
        obtain ⟨y, hy⟩ : ∃ y, b.getD k 0 = y := ⟨_, rfl⟩
        obtain ⟨z, hz⟩ : ∃ z, x ^^^ y = z := ⟨_, rfl⟩
        have hnext : accd a b (k + 1) = accd a b k ||| z := by rw [accd, hx, hy, hz]
        obtain ⟨s, hs⟩ : ∃ s, accd a b k = s := ⟨_, rfl⟩
        rw [hs] at hnext ⊢
        obtain ⟨t, ht⟩ : ∃ t, s ||| z = t := ⟨_, rfl⟩
        rw [ht] at hnext
        have e1 : bits .xor .u8 (x.toNat : Int) (y.toNat : Int) = (z.toNat : Int) := by rw [u8_xor, hz]
        have e2 : bits .or .u8 (s.toNat : Int) (z.toNat : Int) = (t.toNat : Int) := by rw [u8_or, ht]
        have ga : (bvs a)[k]? = some (.int .u8 (x.toNat : Int)) := by rw [← hx]; simp [bvs, bv, List.getD, show k < a.length from by omega]
        have gb : (bvs b)[k]? = some (.int .u8 (y.toNat : Int)) := by rw [← hy]; simp [bvs, bv, List.getD, show k < b.length from by omega]
        have SA := (ra.ix ga).1
        have SB := (rb.ix gb).1
        have ca : ∀ W, Ext Non wr W → W.cell? ((A.getD default).add k) = some (.int .u8 (x.toNat : Int)) := fun W hW => ((ra.extN (X.transN hW)).ix ga).2
        have cb : ∀ W, Ext Non wr W → W.cell? ((B.getD default).add k) = some (.int .u8 (y.toNat : Int)) := fun W hW => ((rb.extN (X.transN hW)).ix gb).2
        have i1 : (k : Int) < (n : Int) := by omega
        have i2 : IntKind.i64.wrap (k : Int) = (k : Int) := by rw [IntKind.wrap_i64]; omega
        have HNX := Lib.hid hnext
        clear hx hy hz hs ht hnext ga gb ra rb
        go_wp2_with fail
        refine wp_region_seq Non ((0, true) :: (1, true) :: (2, true) :: (3, true) :: (4, true) :: (5, true) :: (6, true) :: (7, true) :: (8, true) :: (9, true) :: (10, true) :: (11, true) :: []) (by kernel_rfl) (by kernel_rfl) (by kernel_rfl) ?_
        iterate 12 (refine wpSeq_quiet rfl rfl ?_; apply Exists.intro; refine ⟨?_, ?_⟩; (intro W hW; have c1 := ca W hW.drewL; have c2 := cb W hW.drewL; go_simp; try with_reducible rfl); (intro K hK; simp only [Act.put, List.setIfInBounds_toArray, List.set_cons_zero, List.set_cons_succ]; refine hK _ ?_; clear hK K))
        refine wpSeq_end ?_
        clear ca cb
        go_wp2_with fail
        exact ⟨⟨k + 1, by omega, by rw [HNX.out], by go_num, X.drew⟩, by simp [intOf]; omega⟩
      · obtain rfl : n = k := by omega
        obtain ⟨s, hs⟩ : ∃ s, accd a b n = s := ⟨_, rfl⟩
        have hf : (s = 0) = (a = b) := by rw [← hs]; exact HF.out
        rw [hs]
        clear hs HF
        go_wp2_with fail
        go_ret
        refine ⟨?_, X⟩
        show Ending.returned (.bool (((s.toNat : Nat) : Int) == 0)) = _
        congr 2
        by_cases h : s = 0
        · have h2 : a = b := hf.mp h
          rw [h, h2]
          simp
        · have h2 : ¬ a = b := fun e => h (hf.mpr e)
          have h3 : ¬ ((s.toNat : Nat) : Int) = 0 := fun e => h (UInt8.toNat_inj.1 (by simpa using e))
          rw [beq_eq_false_iff_ne.2 h3, beq_eq_false_iff_ne.2 h2]
  · have i1 : ¬ ((n : Int) = (m : Int)) := by omega
    go_enter Tryd.func12, Tryd.ntmps12
    go_wp2_with fail
    go_ret
    refine ⟨?_, Ext.refl _ _⟩
    have : (a == b) = false := by
      rw [beq_eq_false_iff_ne]
      rintro rfl
      omega
    show Ending.returned (.bool false) = _
    rw [this]
end Go.Proofs.YtgbaijmpfdhoeaaDoor
