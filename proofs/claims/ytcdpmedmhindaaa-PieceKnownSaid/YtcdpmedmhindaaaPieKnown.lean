/- The law PieceKnown: who was whole is known until sixty-four others were. -/
import Derived.Test.YtcdpmedmhindaaaPieV
namespace Go.Proofs.Ytcdpmedmhindaaa
open Go.RowKit

def dn (i : Nat) : List Ky := last64 ((List.range i).map fun k => (k, 0, 0))
def kn (i : Nat) : Jn := ⟨1, [], dn i⟩
theorem kn_zero : jn0 1 = kn 0 := rfl
theorem last64_add (l : List Ky) (x : Ky) : last64 (last64 l ++ [x]) = last64 (l ++ [x]) := by
  unfold last64
  rcases Nat.lt_or_ge l.length 64 with h | h
  · have e : l.length - 64 = 0 := by omega
    rw [e, List.drop_zero]
  · have e1 : (List.drop (l.length - 64) l ++ [x]).length - 64 = 1 := by rw [List.length_append, List.length_drop, List.length_singleton]; omega
    have e2 : (l ++ [x]).length - 64 = (l.length - 64) + 1 := by rw [List.length_append, List.length_singleton]; omega
    rw [e1, e2, ← List.drop_drop, List.drop_append_of_le_length (by rw [List.length_drop]; omega), List.drop_append_of_le_length (by omega), List.drop_append_of_le_length (by rw [List.length_drop]; omega)]
theorem dn_succ (i : Nat) : last64 (dn i ++ [(i, 0, 0)]) = dn (i + 1) := by
  unfold dn
  rw [last64_add, List.range_succ, List.map_append]
  rfl
theorem dn_mem (k i : Nat) : ((k, 0, 0) : Ky) ∈ dn i ↔ k < i ∧ i ≤ k + 64 := by
  unfold dn last64
  rw [List.length_map, List.length_range, ← List.map_drop, List.mem_map]
  constructor
  · rintro ⟨a, ha, e⟩
    obtain rfl : a = k := by injection e
    rw [List.mem_iff_getElem?] at ha
    obtain ⟨q, hq⟩ := ha
    rw [List.getElem?_drop] at hq
    obtain ⟨hlt, hv⟩ := List.getElem?_eq_some_iff.1 hq
    rw [List.getElem_range] at hv
    rw [List.length_range] at hlt
    omega
  · rintro ⟨h1, h2⟩
    refine ⟨k, ?_, rfl⟩
    rw [List.mem_iff_getElem?]
    refine ⟨k - (i - 64), ?_⟩
    rw [List.getElem?_drop, List.getElem?_range (by omega)]
    congr 1
    omega
theorem take_kn (i k : Nat) (h : (k, 0, 0) ∉ dn i) : jtake (kn i) ⟨1, k, 0, 0, 0, 1, []⟩ = ({ kn i with done := last64 (dn i ++ [(k, 0, 0)]) }, 0, some []) := by
  have := jtake_last (J := kn i) (m := []) (id := k) (fr := 0) (bx := 0) (s := []) (i := 0) (by simp) h rfl (by decide) (by simp) List.nodup_nil (by simp) (.inr (.inl rfl)) rfl
  exact this
theorem take_kn1 (i : Nat) : jtake (kn i) ⟨1, i, 0, 0, 0, 1, []⟩ = (kn (i + 1), 0, some []) := by
  rw [take_kn i i (by rw [dn_mem]; omega), dn_succ]
  rfl
theorem take_kn2 (i k : Nat) (h : (k, 0, 0) ∈ dn i) : jtake (kn i) ⟨1, k, 0, 0, 0, 1, []⟩ = (kn i, 7, none) :=
  jtake_done (J := kn i) (by rfl) rfl h
set_option maxRecDepth 100000 in
set_option maxHeartbeats 4000000 in
theorem known_walk (x0 x1 : Int) (w : World) :
    Calls Try.prog 9 #[.int .i64 x0, .int .i64 x1] w fun e w' => e = .returned (.bool true) ∧ Below w.heap.size w w' := by
  obtain ⟨m0, hm0, hm0a⟩ := and16_at x0
  obtain ⟨m1, hm1, hm1a⟩ := and16_at x1
  go_enter Try.func9, Try.ntmps9
  go_wp2_with fail
  have ctr := shown_calls w
  with_reducible refine Calls.mono ctr ?_
  clear ctr
  rintro e w1 ⟨rfl, X1⟩
  obtain ⟨n, hn⟩ : ∃ n, m0 % 151 = n := ⟨_, rfl⟩
  obtain ⟨b, hb⟩ : ∃ n, m1 % 100 = n := ⟨_, rfl⟩
  have en : (m0 : Int).tmod 151 = (n : Int) := by rw [← hn]; rfl
  have eb : (m1 : Int).tmod 100 = (b : Int) := by rw [← hb]; rfl
  have en' : (m0 : Int) % 151 = (n : Int) := by omega
  have eb' : (m1 : Int) % 100 = (b : Int) := by omega
  have hn1 : n ≤ 150 := by omega
  have hb1 : b ≤ 99 := by omega
  have in1 : (n : Int) ≤ 150 := by omega
  have ib1 : (b : Int) ≤ 99 := by omega
  clear hn hb
  go_wp2_with fail
  have ctr := new_calls w1 1
  with_reducible refine Calls.mono ctr ?_
  clear ctr
  rintro e w2 ⟨j, rfl, J0, X2⟩
  clear hm0 hm1 en eb en' eb' hm0a hm1a
  have X := X1.transN X2
  have hs1 : w.heap.size ≤ w1.heap.size := X1.size
  rw [kn_zero] at J0
  go_wp2_with fail
  go_loopw [7] (fun i wr => ∃ (k : Nat) (D : Nat → Prop), k ≤ n ∧ i = .int .i64 k ∧ Ext Non w wr ∧ Jo wr D j (kn k) ∧ ∀ b, D b → w.heap.size ≤ b ∧ b < wr.heap.size) (fun i _ => n - (intOf i).toNat)
  case atStart => exact ⟨0, _, Nat.zero_le _, rfl, X, J0, fun b hb => ⟨by omega, hb.2⟩⟩
  case round =>
    clear X X1 X2 J0
    obtain ⟨k, D, hk, rfl, X, J0, hD⟩ := hrel
    by_cases hlt : k < n
    · have i1 : (k : Int) < (n : Int) := by omega
      have Y := (Ext.refl Non wr).alloc (.cells #[.int .i64 1, .int .u32 k, .int .u16 0, .int .u16 0, .int .i64 0, .int .i64 1, .slice none 0 0] 45)
      have Bp := Blk.new wr 45 #[.int .i64 1, .int .u32 k, .int .u16 0, .int .u16 0, .int .i64 0, .int .i64 1, .slice none 0 0]
      have X3 := X.transN Y
      have hsz : (wr.alloc (.cells #[.int .i64 1, .int .u32 k, .int .u16 0, .int .u16 0, .int .i64 0, .int .i64 1, .slice none 0 0] 45)).heap.size = wr.heap.size + 1 := World.size_alloc ..
      go_wp2_with fail
      generalize wr.alloc (.cells #[.int .i64 1, .int .u32 k, .int .u16 0, .int .u16 0, .int .i64 0, .int .i64 1, .slice none 0 0] 45) = w3 at *
      obtain ⟨p, hp⟩ : ∃ p, wr.heap.size = p := ⟨_, rfl⟩
      rw [hp] at hD hsz Bp
      simp only [hp]
      clear hp
      have ctr := take_some (J0.extN Y) 1 k 0 0 0 1 [] [] (take_kn1 k) rfl rfl rfl none 0 0 rfl (Dp := Non) (.inl rfl) (by decide) (by decide) 0 rfl
      with_reducible refine Calls.mono ctr ?_
      clear ctr
      rintro e w4 ⟨D4, Am, cm, rfl, J4, hD4, x4, O4, hO4⟩
      clear J0 Y
      have nDp : ¬ D p := fun h => by
        have := (hD _ h).2
        omega
      have Bp4 := Bp.ext x4 nDp
      have X4 := X3.trans x4 (fun i hi hd => by
        have := (hD _ hd).1
        omega)
      have nDp4 : ¬ D4 p := fun h => by
        rcases (hD4 _ h).1 with h | h
        · exact nDp h
        · omega
      have hD4' : ∀ b, D4 b → w.heap.size ≤ b ∧ b < w4.heap.size := fun b h => ⟨by
        have := X3.size
        rcases (hD4 _ h).1 with h | h
        · exact (hD _ h).1
        · omega, (hD4 _ h).2⟩
      clear hD hD4 x4 O4 hO4 Bp nDp X3 hsz
      have Y5 := (Ext.refl Non w4).alloc (.cells #[.int .u32 k, .int .u16 0, .int .u16 0, .slice Am 0 cm] 55)
      have Bp5 := Bp4.extN_ Y5
      have J5 := J4.extN Y5
      have X5 := X4.transN Y5
      have hsz5 : (w4.alloc (.cells #[.int .u32 k, .int .u16 0, .int .u16 0, .slice Am 0 cm] 55)).heap.size = w4.heap.size + 1 := World.size_alloc ..
      obtain ⟨a0, a1, a2, a3, a4, a5, a6⟩ := pc_cellsR Bp5
      clear Y5 J4 X4 Bp4
      go_wp2_with fail
      clear a0 a1 a2 a3 a4 a5 a6
      generalize w4.alloc (.cells #[.int .u32 k, .int .u16 0, .int .u16 0, .slice Am 0 cm] 55) = w5 at *
      have ctr := take_none J5 1 k 0 0 0 1 [] 7 (take_kn2 (k + 1) k (by rw [dn_mem]; omega)) rfl rfl rfl rfl none 0 0 rfl (Dp := Non) (.inl rfl) (by decide) (by decide)
      with_reducible refine Calls.mono ctr ?_
      clear ctr
      rintro e w6 ⟨D6, rfl, J6, hD6, x6⟩
      have X6 := X5.trans x6 (fun i hi hd => by
        have := (hD4' _ hd).1
        omega)
      have hD6' : ∀ b, D6 b → w.heap.size ≤ b ∧ b < w6.heap.size := fun b h => ⟨by
        have := X5.size
        rcases (hD6 _ h).1 with h | h
        · exact (hD4' _ h).1
        · omega, (hD6 _ h).2⟩
      have Y7 := (Ext.refl Non w6).alloc (.cells #[.int .u32 0, .int .u16 0, .int .u16 0, .slice none 0 0] 55)
      have J7 := J6.extN Y7
      have X7 := X6.transN Y7
      have hsz7 : (w6.alloc (.cells #[.int .u32 0, .int .u16 0, .int .u16 0, .slice none 0 0] 55)).heap.size = w6.heap.size + 1 := World.size_alloc ..
      clear x6 hD6 Bp5 J5 X5 hD4' Y7 J6 X6
      go_wp2_with fail
      exact ⟨⟨k + 1, D6, by omega, by go_num, X7, J7, fun b h => ⟨(hD6' b h).1, by have := (hD6' b h).2; omega⟩⟩, by simp [intOf]; omega⟩
    · obtain rfl : k = n := by omega
      by_cases hkb : k ≤ b
      · have ikb : (k : Int) ≤ (b : Int) := by omega
        go_wp2_with fail
        all_goals
          go_ret
          exact ⟨rfl, X.belowN⟩
      · have ikb : (b : Int) < (k : Int) := by omega
        have k0 : ¬ (k : Int) = 0 := by omega
        obtain ⟨c, hc⟩ : ∃ c, k - 1 - b = c := ⟨_, rfl⟩
        have ec : (k : Int) - 1 - (b : Int) = (c : Int) := by omega
        go_wp2_with fail
        by_cases hb6 : b ≤ 63
        · have i6 : (b : Int) ≤ 63 := by omega
          have ctr := take_none J0 1 c 0 0 0 1 [] 7 (take_kn2 k c (by rw [dn_mem]; omega)) rfl rfl rfl rfl none 0 0 rfl (Dp := Non) (.inl rfl) (by decide) (by decide)
          with_reducible refine Calls.mono ctr ?_
          clear ctr
          rintro e w6 ⟨D6, rfl, J6, hD6, x6⟩
          have X6 := X.trans x6 (fun i hi hd => by
            have := (hD _ hd).1
            omega)
          have Y7 := (Ext.refl Non w6).alloc (.cells #[.int .u32 0, .int .u16 0, .int .u16 0, .slice none 0 0] 55)
          have J7 := J6.extN Y7
          have X7 := X6.transN Y7
          have hl : (kn k).opn.length = 0 := rfl
          clear hD hD6 x6 X6 J6 Y7
          go_wp2_with fail
          have ctr := len_calls J7
          with_reducible refine Calls.mono ctr ?_
          clear ctr
          rintro e wz ⟨rfl, rfl⟩
          go_wp2_with fail
          go_ret
          refine ⟨?_, X7.belowN⟩
          show Ending.returned (.bool (!decide (63 < (b : Int)))) = _
          rw [decide_eq_false (by omega)]
          rfl
        · have i6 : ¬ (b : Int) ≤ 63 := by omega
          have i7 : 63 < (b : Int) := by omega
          have ctr := take_some J0 1 c 0 0 0 1 [] [] (take_kn k c (by rw [dn_mem]; omega)) rfl rfl rfl none 0 0 rfl (Dp := Non) (.inl rfl) (by decide) (by decide) 0 rfl
          with_reducible refine Calls.mono ctr ?_
          clear ctr
          rintro e w6 ⟨D6, Am, cm, rfl, J6, hD6, x6, O6, hO6⟩
          have X6 := X.trans x6 (fun i hi hd => by
            have := (hD _ hd).1
            omega)
          have Y7 := (Ext.refl Non w6).alloc (.cells #[.int .u32 c, .int .u16 0, .int .u16 0, .slice Am 0 cm] 55)
          have J7 := J6.extN Y7
          have X7 := X6.transN Y7
          have hl : (kn k).opn.length = 0 := rfl
          clear hD hD6 x6 X6 J6 Y7 O6 hO6
          go_wp2_with fail
          have ctr := len_calls J7
          with_reducible refine Calls.mono ctr ?_
          clear ctr
          rintro e wz ⟨rfl, rfl⟩
          go_wp2_with fail
          go_ret
          refine ⟨?_, X7.belowN⟩
          show Ending.returned (.bool (!decide ((b : Int) ≤ 63))) = _
          rw [decide_eq_false (by omega)]
          rfl
end Go.Proofs.Ytcdpmedmhindaaa
