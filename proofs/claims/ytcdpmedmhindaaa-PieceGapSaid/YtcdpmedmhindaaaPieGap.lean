/- The law PieceGap: as long as one piece is not there the message is not whole. -/
import Derived.Test.YtcdpmedmhindaaaPieG
namespace Go.Proofs.Ytcdpmedmhindaaa
open Go.RowKit

/-- The places that came, of the first i, but g. -/
def sg (g i : Nat) : List Nat := (List.range i).erase g
theorem sg_succ {g i : Nat} (h : i ≠ g) : sg g (i + 1) = sg g i ++ [i] := by
  unfold sg
  rw [List.range_succ]
  by_cases hg : g ∈ List.range i
  · rw [List.erase_append_left _ hg]
  · rw [List.erase_append_right _ hg, List.erase_of_not_mem hg, List.erase_of_not_mem (by simp; omega)]
theorem sg_same (g : Nat) : sg g (g + 1) = sg g g := by
  unfold sg
  rw [List.range_succ, List.erase_append_right _ (by simp), List.erase_of_not_mem (by simp : g ∉ List.range g)]
  simp
theorem sg_mem (g i x : Nat) : x ∈ sg g i ↔ x ≠ g ∧ x < i := by
  unfold sg
  rw [List.Nodup.mem_erase_iff List.nodup_range, List.mem_range]
theorem sg_nodup (g i : Nat) : (sg g i).Nodup := List.nodup_range.erase g
theorem sg_len (g i : Nat) : (sg g i).length = if g < i then i - 1 else i := by
  unfold sg
  rw [List.length_erase, List.length_range]
  simp only [List.mem_range]
def jg (m : List UInt8) (N g i : Nat) : Jn := sj 2 (1, 2, 3) m (sg g (min i N))
theorem jg_some {m : List UInt8} {N g i : Nat} (hm : m.length ≤ 4096) (hN : cnt m = N) (hg : g < N) (hi : i < N) (hne : i ≠ g) :
    jtake (jg m N g i) ⟨1, 1, 2, 3, (i : Int), (N : Int), pce m i⟩ = (jg m N g (i + 1), 0, none) := by
  unfold jg
  rw [Nat.min_eq_left (by omega), Nat.min_eq_left (by omega), sg_succ hne]
  have hl := sg_len g i
  exact sj_some (by decide) hm hN hi (by rw [sg_mem]; omega) (by split at hl <;> omega)
theorem jg_again {m : List UInt8} {N g i : Nat} (hm : m.length ≤ 4096) (hN : cnt m = N) (hi : N ≤ i) (hne : i % N ≠ g) (h0 : 0 < N) :
    jtake (jg m N g i) ⟨1, 1, 2, 3, ((i % N : Nat) : Int), (N : Int), pce m (i % N)⟩ = (jg m N g (i + 1), 7, none) := by
  unfold jg
  rw [Nat.min_eq_right (by omega), Nat.min_eq_right (by omega)]
  have := Nat.mod_lt i h0
  exact sj_again hm hN this (by rw [sg_mem]; omega)
theorem jg_skip {m : List UInt8} {N g i : Nat} (he : i % N = g) (h0 : 0 < N) : jg m N g (i + 1) = jg m N g i := by
  unfold jg
  rcases Nat.lt_or_ge i N with h | h
  · rw [Nat.mod_eq_of_lt h] at he
    subst he
    rw [Nat.min_eq_left (by omega), Nat.min_eq_left (by omega), sg_same]
  · rw [Nat.min_eq_right (by omega), Nat.min_eq_right (by omega)]
theorem jg_len {m : List UInt8} {N g i : Nat} (hg : g < N) (hN : 2 ≤ N) (hi : 1 ≤ i) (h2 : ¬ (i = 1 ∧ g = 0)) : (jg m N g i).opn.length = 1 := by
  unfold jg
  rw [sj_len, if_neg]
  intro h
  have hl := sg_len g (min i N)
  rw [h] at hl
  simp only [List.length_nil] at hl
  split at hl <;> omega
theorem jg_last {m : List UInt8} {N g : Nat} (hm : m.length ≤ 4096) (hN : cnt m = N) (hg : g < N) :
    jtake (jg m N g (2 * N)) ⟨1, 1, 2, 3, (g : Int), (N : Int), pce m g⟩ = (sjd 2 (1, 2, 3), 0, some m) := by
  unfold jg
  rw [Nat.min_eq_right (by omega)]
  have hl := sg_len g N
  rw [if_pos hg] at hl
  exact sj_last (by decide) hm hN hg (by rw [sg_mem]; omega) (sg_nodup g N) (fun x hx => ((sg_mem g N x).1 hx).2) (by omega)
theorem jg_zero (m : List UInt8) (N g : Nat) : jn0 2 = jg m N g 0 := by
  unfold jg
  rw [Nat.zero_min]
  exact sj_zero (by decide) _ _
set_option maxRecDepth 100000 in
set_option maxHeartbeats 4000000 in
theorem gap_walk (A : Option Addr) (n c : Nat) (l : List UInt8) (x1 : Int) (w : World) (hn : l.length = n) (hc : n ≤ c) (hcm : c ≤ maxLen) (r : Rd w (· < w.heap.size) A (bvs l)) :
    Calls Try.prog 12 #[.slice A n c, .int .i64 x1] w fun e w' => e = .returned (.bool true) ∧ Below w.heap.size w w' := by
  obtain ⟨m0, hm0, hm0a⟩ := and16_at x1
  obtain ⟨k, hk, hka, hkb, _⟩ := min_at n 4096 (by omega)
  go_enter Try.func12, Try.ntmps12
  go_wp2_with fail
  have ctr := shown_calls w
  with_reducible refine Calls.mono ctr ?_
  clear ctr
  rintro e w1 ⟨rfl, X1⟩
  go_wp2_with fail
  obtain ⟨m, hmd⟩ : ∃ m, l.take k = m := ⟨_, rfl⟩
  have hmk : m.length = k := by rw [← hmd, List.length_take]; omega
  have rm : Rd w (· < w.heap.size) A (bvs m) := by
    have := r.take k
    rw [← hmd]
    simpa [bvs, List.map_take] using this
  obtain ⟨N, hN⟩ : ∃ N, cnt m = N := ⟨_, rfl⟩
  have hm4 : m.length ≤ 4096 := by omega
  have rm1 := rm.extN X1
  have hs1 := X1.size
  clear r hk hmd
  have ctr := split_x (m := m) c k 1 2 3 rm1 (fun b hb => by omega) hmk hm4 (by omega) hcm (by decide) (by decide) (by decide) rfl rfl rfl N hN
  with_reducible refine Calls.mono ctr ?_
  clear ctr
  rintro e w2 ⟨A2, c2, rfl, O2, x2⟩
  have X2 := X1.transN x2
  have cf := cnt_facts m hm4
  rw [hN] at cf
  have cf1 := cf.1
  have cf2 := cf.2.1
  clear cf
  go_wp2_with fail
  have ctr := new_calls w2 2
  with_reducible refine Calls.mono ctr ?_
  clear ctr
  rintro e w3 ⟨j, rfl, J0, x3⟩
  have X3 := X2.transN x3
  have O3 := O2.extN x3
  have hA3 : ∀ b, ob A2 = some b → b < w2.heap.size := fun b hb => (O2.lt hb).2
  clear x2 O2 rm1
  by_cases hN2 : N < 2
  · have iN2 : (N : Int) < 2 := by omega
    go_wp2_with fail
    go_ret
    exact ⟨rfl, X3.belowN⟩
  · have iN2 : ¬ (N : Int) < 2 := by omega
    have iN3 : 2 ≤ (N : Int) := by omega
    have iN0 : ¬ (N : Int) = 0 := by omega
    have iN17 : (N : Int) ≤ 17 := by omega
    obtain ⟨g, hg⟩ : ∃ g, m0 % N = g := ⟨_, rfl⟩
    have hgN : g < N := by rw [← hg]; exact Nat.mod_lt _ (by omega)
    have eg : (m0 : Int).tmod (N : Int) = (g : Int) := by rw [← hg]; rfl
    have eg' : (m0 : Int) % (N : Int) = (g : Int) := by rw [← hg]; rfl
    clear hg
    go_wp2_with fail
    clear eg eg' hm0 hm0a
    rw [jg_zero m N g] at J0
    have hb0 : w.heap.size ≤ w2.heap.size := X2.size
    have hbw := x3.size
    obtain ⟨bs, hbs⟩ : ∃ q, w2.heap.size = q := ⟨_, rfl⟩
    rw [hbs] at hb0 J0 hA3 hbw
    clear X1 X2 hs1 hbs hN2
    go_loopw [9] (fun z wr => ∃ (i : Nat) (D : Nat → Prop), i ≤ 2 * N ∧ z = .int .i64 i ∧ OwA wr w1.heap.size A2 c2 (pcbs 1 2 3 m N) ∧ Ext Non w wr ∧ Jo wr D j (jg m N g i) ∧ (∀ b, D b → bs ≤ b ∧ b < wr.heap.size) ∧ bs ≤ wr.heap.size) (fun z _ => 2 * N - (intOf z).toNat)
    case atStart => exact ⟨0, _, by omega, rfl, O3, X3, J0, fun b hb => hb, hbw⟩
    case round =>
      clear O3 X3 J0
      obtain ⟨i, D, hi, rfl, O, X, J0, hD, hbw⟩ := hrel
      by_cases hlt : i < 2 * N
      · have i1 : (i : Int) < 2 * (N : Int) := by omega
        obtain ⟨p, hp⟩ : ∃ p, i % N = p := ⟨_, rfl⟩
        have hpN : p < N := by rw [← hp]; exact Nat.mod_lt _ (by omega)
        have ipN : (p : Int) < (N : Int) := by omega
        have ep : (i : Int).tmod (N : Int) = (p : Int) := by rw [← hp]; rfl
        have ep' : (i : Int) % (N : Int) = (p : Int) := by rw [← hp]; rfl
        by_cases hpg : p = g
        · subst hpg
          rw [← jg_skip (m := m) hp (by omega)] at J0
          clear hp
          go_wp2_with fail
          exact ⟨⟨i + 1, D, by omega, by go_num, O, X, J0, hD, hbw⟩, by simp [intOf]; omega⟩
        · have ipg : ¬ (p : Int) = (g : Int) := by omega
          obtain ⟨hA, ld⟩ := O.load p (by rw [pcbs_len]; exact hpN)
          rw [pcbs_get] at ld
          obtain ⟨e, htk, he⟩ : ∃ e, jtake (jg m N g i) ⟨1, 1, 2, 3, (p : Int), (N : Int), pce m p⟩ = (jg m N g (i + 1), e, none) ∧ ((e = 0 ∧ (i : Int) < (N : Int)) ∨ (e = 7 ∧ (N : Int) ≤ (i : Int))) := by
            rcases Nat.lt_or_ge i N with h | h
            · rw [Nat.mod_eq_of_lt h] at hp
              subst hp
              exact ⟨0, jg_some hm4 hN hgN h hpg, .inl ⟨rfl, by omega⟩⟩
            · have := jg_again (m := m) (g := g) hm4 hN h (by rw [hp]; exact hpg) (by omega)
              rw [hp] at this
              exact ⟨7, this, .inr ⟨rfl, by omega⟩⟩
          have jl := jg_len (m := m) (i := i + 1) hgN (by omega) (by omega) (by
            rintro ⟨h1, h2⟩
            obtain rfl : i = 0 := by omega
            rw [Nat.zero_mod] at hp
            omega)
          clear hp
          obtain ⟨q, hq⟩ : ∃ q, (pce m p).length = q := ⟨_, rfl⟩
          have hq244 : q ≤ 244 := by rw [← hq, pce_len]; omega
          go_wp2_with fail
          clear ep ep' ld hA
          have ctr := parse_mpc wr 1 2 3 (by decide) (by decide) (by decide) (m := m) hm4 p (by rw [hN]; exact hpN) rfl rfl rfl q N hq hN
          with_reducible refine Calls.mono ctr ?_
          clear ctr
          rintro e w4 ⟨A4, c4, rfl, O4, x4⟩
          have Bp := Blk.new w4 45 #[.int .i64 1, .int .u32 1, .int .u16 2, .int .u16 3, .int .i64 (p : Int), .int .i64 (N : Int), .slice A4 q c4]
          have Y5 := (Ext.refl Non w4).alloc (.cells #[.int .i64 1, .int .u32 1, .int .u16 2, .int .u16 3, .int .i64 (p : Int), .int .i64 (N : Int), .slice A4 q c4] 45)
          have O5 := O4.extN Y5
          have Y := x4.transN Y5
          have P5 := O.extN Y
          have X5 := X.transN Y
          have J5 := J0.extN Y
          have hq4 := O4.len
          rw [hq] at hq4
          have hsz := Y.size
          have hszw := X.size
          obtain ⟨a0, a1, a2, a3, a4, a5, a6⟩ := pc_cellsR Bp
          clear O4 x4 Y5 X Y O J0 Bp
          go_wp2_with fail
          clear a0 a1 a2 a3 a4 a5 a6
          generalize w4.alloc (.cells #[.int .i64 1, .int .u32 1, .int .u16 2, .int .u16 3, .int .i64 (p : Int), .int .i64 (N : Int), .slice A4 q c4] 45) = w5 at *
          generalize w4.heap.size = gp at *
          have ctr := take_none J5 1 1 2 3 (p : Int) (N : Int) (pce m p) e htk rfl rfl rfl rfl A4 c4 q hq O5.rd hq4.1 (by simp only [maxLen]; omega)
          with_reducible refine Calls.mono ctr ?_
          clear ctr
          rintro e w6 ⟨D6, rfl, J6, hD6, x6⟩
          have X6 := X5.trans x6 (fun b hb hd => by
            have := (hD _ hd).1
            omega)
          have P6 := P5.ext x6 (fun b hb hd => by
            have := hA3 b hb
            have := (hD _ hd).1
            omega)
          have hD6' : ∀ b, D6 b → bs ≤ b ∧ b < w6.heap.size := fun b h => ⟨by
            rcases (hD6 _ h).1 with h | h
            · exact (hD _ h).1
            · omega, (hD6 _ h).2⟩
          have Y7 := (Ext.refl Non w6).alloc (.cells #[.int .u32 0, .int .u16 0, .int .u16 0, .slice none 0 0] 55)
          have J7 := J6.extN Y7
          have X7 := X6.transN Y7
          have P7 := P6.extN Y7
          have hsz7 : (w6.alloc (.cells #[.int .u32 0, .int .u16 0, .int .u16 0, .slice none 0 0] 55)).heap.size = w6.heap.size + 1 := World.size_alloc ..
          have hs6 := x6.size
          clear x6 hD6 J5 X5 hD Y7 J6 X6 P5 P6 O5 htk
          rcases he with ⟨rfl, he⟩ | ⟨rfl, he⟩
          all_goals
            go_wp2_with fail
            have ctr := len_calls J7
            with_reducible refine Calls.mono ctr ?_
            clear ctr
            rintro e wz ⟨rfl, rfl⟩
            rw [jl]
            go_wp2_with fail
            exact ⟨⟨i + 1, D6, by omega, by go_num, P7, X7, J7, fun b h => ⟨(hD6' b h).1, by have := (hD6' b h).2; omega⟩, by omega⟩, by simp [intOf]; omega⟩
      · obtain rfl : i = 2 * N := by omega
        obtain ⟨hA, ld⟩ := O.load g (by rw [pcbs_len]; exact hgN)
        rw [pcbs_get] at ld
        have igN : (g : Int) < (N : Int) := by omega
        have htk := jg_last (m := m) hm4 hN hgN
        obtain ⟨q, hq⟩ : ∃ q, (pce m g).length = q := ⟨_, rfl⟩
        have hq244 : q ≤ 244 := by rw [← hq, pce_len]; omega
        go_wp2_with fail
        have ctr := parse_mpc wr 1 2 3 (by decide) (by decide) (by decide) (m := m) hm4 g (by rw [hN]; exact hgN) rfl rfl rfl q N hq hN
        with_reducible refine Calls.mono ctr ?_
        clear ctr
        rintro e w4 ⟨A4, c4, rfl, O4, x4⟩
        have Bp := Blk.new w4 45 #[.int .i64 1, .int .u32 1, .int .u16 2, .int .u16 3, .int .i64 (g : Int), .int .i64 (N : Int), .slice A4 q c4]
        have Y5 := (Ext.refl Non w4).alloc (.cells #[.int .i64 1, .int .u32 1, .int .u16 2, .int .u16 3, .int .i64 (g : Int), .int .i64 (N : Int), .slice A4 q c4] 45)
        have O5 := O4.extN Y5
        have Y := x4.transN Y5
        have X5 := X.transN Y
        have J5 := J0.extN Y
        have hq4 := O4.len
        rw [hq] at hq4
        obtain ⟨a0, a1, a2, a3, a4, a5, a6⟩ := pc_cellsR Bp
        clear O4 x4 Y5 X Y O J0 Bp ld hA
        go_wp2_with fail
        clear a0 a1 a2 a3 a4 a5 a6
        generalize w4.alloc (.cells #[.int .i64 1, .int .u32 1, .int .u16 2, .int .u16 3, .int .i64 (g : Int), .int .i64 (N : Int), .slice A4 q c4] 45) = w5 at *
        generalize w4.heap.size = gp at *
        have ctr := take_some J5 1 1 2 3 (g : Int) (N : Int) (pce m g) m htk rfl rfl rfl A4 c4 q hq O5.rd hq4.1 (by simp only [maxLen]; omega) k hmk
        with_reducible refine Calls.mono ctr ?_
        clear ctr
        rintro e w6 ⟨D6, Am, cm, rfl, J6, hD6, x6, Om, _⟩
        have X6 := X5.trans x6 (fun b hb hd => by
          have := (hD _ hd).1
          omega)
        have Y7 := (Ext.refl Non w6).alloc (.cells #[.int .u32 1, .int .u16 2, .int .u16 3, .slice Am k cm] 55)
        have J7 := J6.extN Y7
        have X7 := X6.transN Y7
        have cv1 := conv_str (Om.extN Y7).rd k cm hmk
        have cv2 := conv_str (rm.extN X7) k c hmk
        clear x6 hD6 J5 X5 hD Y7 J6 X6 O5 htk Om
        go_wp2_with fail
        have ctr := len_calls J7
        with_reducible refine Calls.mono ctr ?_
        clear ctr
        rintro e wz ⟨rfl, rfl⟩
        have hl : (sjd 2 (1, 2, 3)).opn.length = 0 := rfl
        go_wp2_with fail
        go_ret
        exact ⟨rfl, X7.belowN⟩
end Go.Proofs.Ytcdpmedmhindaaa
