/- The law PieceRoom: as many messages as there is room for are put together, and no more. -/
import Derived.Test.YtcdpmedmhindaaaPieG
import Derived.Test.YtcdpmedmhindaaaConv
import Derived.Lib.SlBytesConst
namespace Go.Proofs.Ytcdpmedmhindaaa
open Go.RowKit

def mE : List UInt8 := zeros 244 ++ [101, 110, 100]
theorem mE_len : mE.length = 247 := by unfold mE; rw [List.length_append, zeros_length]; rfl
theorem mE_cnt : cnt mE = 2 := by rw [cnt, mE_len]; rfl
theorem mE_0 : pce mE 0 = zeros 244 := by
  unfold pce mE
  rw [Nat.mul_zero, List.drop_zero, List.take_append_of_le_length (by rw [zeros_length]; omega), List.take_of_length_le (by rw [zeros_length]; omega)]
theorem mE_1 : pce mE 1 = [101, 110, 100] := by
  unfold pce mE
  rw [List.drop_append_of_le_length (by rw [zeros_length]; omega), List.drop_of_length_le (by rw [zeros_length]; omega)]
  rfl
def enE (k : Nat) : Ky × Opn := ((k, 0, 0), (((2 : Nat) : Int), got mE [0]))
theorem lkp_en (i : Nat) : ∀ l : List Nat, lkp ((i, 0, 0) : Ky) (l.map enE) = if i ∈ l then some (((2 : Nat) : Int), got mE [0]) else none
  | [] => rfl
  | x :: l => by
    have := lkp_en i l
    simp only [List.map_cons, lkp, this, List.mem_cons, enE]
    by_cases e : i = x
    · subst e; simp
    · simp [e]
theorem lkp_en7 (i : Nat) : ∀ l : List Nat, lkp ((i, 0, 7) : Ky) (l.map enE) = none
  | [] => rfl
  | x :: l => by
    have := lkp_en7 i l
    simp only [List.map_cons, lkp, this, enE]
    simp
def rj (n i : Nat) : Jn := ⟨(n : Int), (List.range (min i n)).map enE, (List.range i).map fun k => (k, 0, 7)⟩
def rm (n i : Nat) : Jn := ⟨(n : Int), (List.range (min (i + 1) n)).map enE, (List.range i).map fun k => (k, 0, 7)⟩
def rk (n i : Nat) : Jn := ⟨(n : Int), ((List.range n).drop i).map enE, ((List.range 30).map fun k => (k, 0, 7)) ++ (List.range i).map fun k => (k, 0, 0)⟩
theorem not7 (i n : Nat) : ((i, 0, 0) : Ky) ∉ (List.range n).map fun k => ((k, 0, 7) : Ky) := by simp
theorem last64_few {l : List Ky} (h : l.length ≤ 64) : last64 l = l := by
  unfold last64
  have e : l.length - 64 = 0 := by omega
  rw [e, List.drop_zero]
theorem take_rj1 {n i : Nat} (h : i < n) : jtake (rj n i) ⟨1, i, 0, 0, ((0 : Nat) : Int), ((2 : Nat) : Int), zeros 244⟩ = (rm n i, 0, none) := by
  have := jtake_some (J := rj n i) (m := mE) (id := i) (fr := 0) (bx := 0) (s := []) (i := 0) (by rw [mE_len]; decide) (not7 i i)
    (by unfold rj; rw [lkp_en, if_neg (by simp; omega)]; rfl) (by rw [mE_cnt]; decide) (by simp) (.inr (.inr (by
      show (((List.range (min i n)).map enE).length : Int) < (n : Int)
      rw [List.length_map, List.length_range]
      omega))) (by rw [mE_cnt]; decide)
  unfold mpc at this
  rw [mE_cnt, mE_0] at this
  refine this.trans ?_
  have e : mput ((i, 0, 0) : Ky) (((2 : Nat) : Int), got mE ([] ++ [0])) (rj n i).opn = (rm n i).opn := by
    unfold rj rm
    rw [mput_new _ (by rw [lkp_en, if_neg (by simp; omega)])]
    rw [Nat.min_eq_left (by omega), Nat.min_eq_left (by omega), List.range_succ, List.map_append]
    rfl
  rw [e]
  rfl
theorem take_rj2 {n i : Nat} (h : n ≤ i) : jtake (rj n i) ⟨1, i, 0, 0, ((0 : Nat) : Int), ((2 : Nat) : Int), zeros 244⟩ = (rm n i, 8, none) := by
  have hrt := mpc_rt i 0 0 (m := mE) (by rw [mE_len]; decide) (i := 0) (by rw [mE_cnt]; decide)
  unfold mpc at hrt
  rw [mE_cnt, mE_0] at hrt
  have hc : (jchk (rj n i) ⟨1, i, 0, 0, ((0 : Nat) : Int), ((2 : Nat) : Int), zeros 244⟩).1 = 8 := by
    unfold jchk
    rw [if_pos ⟨hrt, rfl⟩, if_neg (show Pc.key ⟨1, i, 0, 0, ((0 : Nat) : Int), ((2 : Nat) : Int), zeros 244⟩ ∉ (rj n i).done from not7 i i)]
    have : lkp (Pc.key ⟨1, i, 0, 0, ((0 : Nat) : Int), ((2 : Nat) : Int), zeros 244⟩) (rj n i).opn = none := by
      show lkp ((i, 0, 0) : Ky) ((List.range (min i n)).map enE) = none
      rw [lkp_en, if_neg (by simp; omega)]
    rw [this]
    simp only
    rw [if_pos]
    refine ⟨by decide, ?_⟩
    show (n : Int) ≤ (((List.range (min i n)).map enE).length : Int)
    rw [List.length_map, List.length_range]
    omega
  unfold jtake
  rw [if_neg (by rw [hc]; decide), hc]
  unfold rj rm
  rw [Nat.min_eq_right h, Nat.min_eq_right (by omega)]
theorem take_rm {n i : Nat} (h : i < 30) : jtake (rm n i) ⟨1, i, 0, 7, 0, 1, [111, 110, 101]⟩ = (rj n (i + 1), 0, some [111, 110, 101]) := by
  have h7 : ((i, 0, 7) : Ky) ∉ (rm n i).done := by simp [rm]
  have hk : lkp ((i, 0, 7) : Ky) (rm n i).opn = none := lkp_en7 i _
  have := jtake_last (J := rm n i) (m := [111, 110, 101]) (id := i) (fr := 0) (bx := 7) (s := []) (i := 0) (by simp) h7 hk (by decide) (by simp) List.nodup_nil (by simp) (.inr (.inl rfl)) rfl
  refine this.trans ?_
  rw [mers_new hk]
  have e : last64 ((rm n i).done ++ [(i, 0, 7)]) = (rj n (i + 1)).done := by
    unfold rm rj
    rw [last64_few (by simp; omega), List.range_succ, List.map_append]
    rfl
  rw [e]
  rfl
theorem rk_zero {n : Nat} (h : n ≤ 30) : rj n 30 = rk n 0 := by
  unfold rj rk
  rw [Nat.min_eq_right h, List.drop_zero]
  simp
theorem take_rk {n i : Nat} (h : i < n) (h30 : n ≤ 30) : jtake (rk n i) ⟨1, i, 0, 0, ((1 : Nat) : Int), ((2 : Nat) : Int), [101, 110, 100]⟩ = (rk n (i + 1), 0, some mE) := by
  have hd : (List.range n).drop i = i :: (List.range n).drop (i + 1) := by
    rw [List.drop_eq_getElem_cons (by simpa using h), List.getElem_range]
  have hk : lkp ((i, 0, 0) : Ky) (rk n i).opn = sta mE [0] := by
    unfold rk
    rw [lkp_en, if_pos (by rw [hd]; exact List.mem_cons_self)]
    unfold sta
    rw [if_neg (by simp), mE_cnt]
  have hn : ((i, 0, 0) : Ky) ∉ (rk n i).done := by simp [rk]
  have := jtake_last (J := rk n i) (m := mE) (id := i) (fr := 0) (bx := 0) (s := [0]) (i := 1) (by rw [mE_len]; decide) hn hk (by rw [mE_cnt]; decide) (by decide) (by decide) (by rw [mE_cnt]; decide) (.inl (by decide)) (by rw [mE_cnt]; rfl)
  unfold mpc at this
  rw [mE_cnt, mE_1] at this
  refine this.trans ?_
  have e1 : mers ((i, 0, 0) : Ky) (rk n i).opn = (rk n (i + 1)).opn := by
    unfold rk
    rw [hd, List.map_cons, mers, if_pos (show ((i, 0, 0) : Ky) = (enE i).1 from rfl)]
  have e2 : last64 ((rk n i).done ++ [(i, 0, 0)]) = (rk n (i + 1)).done := by
    unfold rk
    rw [last64_few (by simp; omega), List.append_assoc, List.range_succ (n := i), List.map_append (l₁ := List.range i)]
    rfl
  rw [e1, e2]
  rfl
theorem rj_len (n i : Nat) : (rj n i).opn.length = min i n := by simp [rj]
theorem rm_len (n i : Nat) : (rm n i).opn.length = min (i + 1) n := by simp [rm]
theorem rk_len (n i : Nat) : (rk n i).opn.length = n - i := by simp [rk]
theorem bvsOne_ : bvs [111, 110, 101] = [.int .u8 111, .int .u8 110, .int .u8 101] := rfl
theorem bvsEnd_ : bvs [101, 110, 100] = [.int .u8 101, .int .u8 110, .int .u8 100] := rfl
theorem rdm (w : World) (t : TypeId) (cs : List Value) (fr : Nat × Nat) : Rd (w.alloc (.cells cs.toArray t fr)) (fun k => k = w.heap.size) (some ⟨w.heap.size, 0, none⟩) cs :=
  .inr ⟨_, rfl, rfl, fun j u hu => by rw [addr_add, cell_of_row _ _ _ _ _ _ (heap_alloc_new w _)]; simpa using hu⟩
set_option maxRecDepth 100000 in
set_option maxHeartbeats 4000000 in
theorem room_walk (x0 : Int) (w : World) :
    Calls Try.prog 8 #[.int .i64 x0] w fun e w' => e = .returned (.bool true) ∧ Below w.heap.size w w' := by
  obtain ⟨m0, hm0, hm0a⟩ := and16_at x0
  go_enter Try.func8, Try.ntmps8
  go_wp2_with fail
  have ctr := shown_calls w
  with_reducible refine Calls.mono ctr ?_
  clear ctr
  rintro e w1 ⟨rfl, X1⟩
  obtain ⟨r, hr⟩ : ∃ n, m0 % 21 = n := ⟨_, rfl⟩
  have en : (m0 : Int).tmod 21 = (r : Int) := by rw [← hr]; rfl
  have en' : (m0 : Int) % 21 = (r : Int) := by omega
  have hr1 : r ≤ 20 := by omega
  clear hr
  go_wp2_with fail
  have ctr := new_calls w1 (r : Int)
  with_reducible refine Calls.mono ctr ?_
  clear ctr
  rintro e w2 ⟨j, rfl, J0, X2⟩
  clear hm0 en en' hm0a
  have X := X1.transN X2
  obtain ⟨n, hn⟩ : ∃ n, max r 1 = n := ⟨_, rfl⟩
  have hn1 : 1 ≤ n := by omega
  have hn20 : n ≤ 20 := by omega
  have ej : jn0 (r : Int) = rj n 0 := by
    unfold jn0 rj
    rw [Nat.zero_min]
    have : (if (r : Int) < 1 then (1 : Int) else (r : Int)) = (n : Int) := by split <;> omega
    rw [this]
    rfl
  rw [ej] at J0
  clear ej
  have hmax : (if (r : Int) < 1 then (1 : Int) else (r : Int)) = (n : Int) := by split <;> omega
  have Of := own_zeros w2 w2.heap.size (Nat.le_refl _) 244 (by decide)
  have Y3 := (Ext.refl Non w2).alloc (.cells (zrow 244) 5)
  have J3 := J0.extN Y3
  have X3 := X.transN Y3
  have hsz3 : (w2.alloc (.cells (zrow 244) 5)).heap.size = w2.heap.size + 1 := World.size_alloc ..
  have hs1 := X1.size
  clear X1 X2 X Y3 J0
  go_wp2_with fail
  clear hmax
  obtain ⟨f, hf⟩ : ∃ f, w2.heap.size = f := ⟨_, rfl⟩
  rw [hf] at Of hsz3 J3
  simp only [hf]
  clear hf
  generalize w2.alloc (.cells (zrow 244) 5) = w3 at *
  have in20 : (n : Int) ≤ 20 := by omega
  have in1 : 1 ≤ (n : Int) := by omega
  go_loopw [7] (fun z wr => ∃ (i : Nat) (D : Nat → Prop), i ≤ 30 ∧ z = .int .i64 i ∧ OwB wr f (some ⟨f, 0, none⟩) 244 (zeros 244) ∧ Ext Non w wr ∧ Jo wr D j (rj n i) ∧ (∀ b, D b → w.heap.size ≤ b ∧ b < wr.heap.size ∧ b ≠ f)) (fun z _ => 30 - (intOf z).toNat)
  case atStart => exact ⟨0, _, by omega, rfl, Of, X3, J3, fun b hb => by omega⟩
  case round =>
    clear Of X3 J3
    obtain ⟨i, D, hi, rfl, O, X, J0, hD⟩ := hrel
    by_cases hlt : i < 30
    · have i1 : (i : Int) < 30 := by omega
      obtain ⟨e, htk, z, hz, he⟩ : ∃ e, jtake (rj n i) ⟨1, i, 0, 0, 0, 2, zeros 244⟩ = (rm n i, e, none) ∧ ∃ z, min (i + 1) n = z ∧ ((e = 0 ∧ z = i + 1 ∧ (i : Int) < (n : Int) ∧ (i : Int) + 1 ≤ (n : Int)) ∨ (e = 8 ∧ z = n ∧ (n : Int) ≤ (i : Int) ∧ (n : Int) < (i : Int) + 1)) := by
        rcases Nat.lt_or_ge i n with h | h
        · exact ⟨0, take_rj1 h, _, rfl, .inl ⟨rfl, by omega, by omega, by omega⟩⟩
        · exact ⟨8, take_rj2 h, _, rfl, .inr ⟨rfl, by omega, by omega, by omega⟩⟩
      have jl := rm_len n i
      have jl2 := rj_len n (i + 1)
      rw [hz] at jl jl2
      clear hz
      have htk2 := take_rm (n := n) hlt
      go_wp2_with fail
      have ctr := take_none J0 1 i 0 0 0 2 (zeros 244) e htk rfl rfl rfl rfl (some ⟨f, 0, none⟩) 244 244 (zeros_length 244) O.rd (by decide) (by decide)
      with_reducible refine Calls.mono ctr ?_
      clear ctr
      rintro e w6 ⟨D6, rfl, J6, hD6, x6⟩
      have X6 := X.trans x6 (fun b hb hd => by
        have := (hD _ hd).1
        omega)
      have O6 := O.ext x6 (fun b hb hd => by
        have hb : f = b := Option.some.inj hb
        exact (hD _ hd).2.2 hb.symm)
      have hszw := X.size
      have hfw : f < wr.heap.size := (O.lt rfl).2
      have hD6' : ∀ b, D6 b → w.heap.size ≤ b ∧ b < w6.heap.size ∧ b ≠ f := fun b h => by
        have h1 := hD6 _ h
        rcases h1.1 with h2 | h2
        · exact ⟨(hD _ h2).1, h1.2, (hD _ h2).2.2⟩
        · exact ⟨by omega, h1.2, by omega⟩
      have Y7 := (Ext.refl Non w6).alloc (.cells #[.int .u32 0, .int .u16 0, .int .u16 0, .slice none 0 0] 55)
      have J7 := J6.extN Y7
      have X7 := X6.transN Y7
      have O7 := O6.extN Y7
      have hsz7 : w6.heap.size < (w6.alloc (.cells #[.int .u32 0, .int .u16 0, .int .u16 0, .slice none 0 0] 55)).heap.size := by rw [World.size_alloc]; omega
      have hs6 := x6.size
      clear x6 hD6 J0 X hD Y7 J6 X6 O O6 htk
      rcases he with ⟨rfl, rfl, he1, he2⟩ | ⟨rfl, rfl, he1, he2⟩
      all_goals
        go_wp2_with fail
        have ctr := len_calls J7
        with_reducible refine Calls.mono ctr ?_
        clear ctr
        rintro e wz ⟨rfl, rfl⟩
        rw [jl]
        generalize w6.alloc (.cells #[.int .u32 0, .int .u16 0, .int .u16 0, .slice none 0 0] 55) = w7 at *
        generalize w6.heap.size = g6 at *
        have kc := Lib.run_convert_bytes_const (P := Try.prog) w7 24 5 #[.int .u8 111, .int .u8 110, .int .u8 101] 3 3 Try.underlying24 Try.underlying5
        go_wp2_with fail
        clear kc
        have R8 : Rd (w7.alloc (.cells #[.int .u8 111, .int .u8 110, .int .u8 101] 5 (3, 4))) (fun k => k = w7.heap.size) (some ⟨w7.heap.size, 0, none⟩) (bvs [111, 110, 101]) := by
          rw [bvsOne_]
          exact rdm w7 5 [.int .u8 111, .int .u8 110, .int .u8 101] (3, 4)
        have Y8 := (Ext.refl Non w7).alloc (.cells #[.int .u8 111, .int .u8 110, .int .u8 101] 5 (3, 4))
        have J8 := J7.extN Y8
        have X8 := X7.transN Y8
        have O8 := O7.extN Y8
        have hs8 : w7.heap.size ≤ (w7.alloc (.cells #[.int .u8 111, .int .u8 110, .int .u8 101] 5 (3, 4))).heap.size := Y8.size
        clear Y8 J7 X7 O7
        have ctr := take_some J8 1 i 0 7 0 1 [111, 110, 101] [111, 110, 101] htk2 rfl rfl rfl (some ⟨w7.heap.size, 0, none⟩) 3 3 rfl R8 (by decide) (by decide) 3 rfl
        with_reducible refine Calls.mono ctr ?_
        clear ctr
        rintro e w9 ⟨D9, Am, cm, rfl, J9, hD9, x9, Om, _⟩
        generalize w7.alloc (.cells #[.int .u8 111, .int .u8 110, .int .u8 101] 5 (3, 4)) = w8 at *
        have X9 := X8.trans x9 (fun b hb hd => by
          have := (hD6' _ hd).1
          omega)
        have O9 := O8.ext x9 (fun b hb hd => by
          have hb : f = b := Option.some.inj hb
          exact (hD6' _ hd).2.2 hb.symm)
        have hD9' : ∀ b, D9 b → w.heap.size ≤ b ∧ b < w9.heap.size ∧ b ≠ f := fun b h => by
          have h1 := hD9 _ h
          rcases h1.1 with h2 | h2
          · exact ⟨(hD6' _ h2).1, h1.2, (hD6' _ h2).2.2⟩
          · exact ⟨by omega, h1.2, by omega⟩
        have Y10 := (Ext.refl Non w9).alloc (.cells #[.int .u32 i, .int .u16 0, .int .u16 7, .slice Am 3 cm] 55)
        have J10 := J9.extN Y10
        have X10 := X9.transN Y10
        have O10 := O9.extN Y10
        have hsz10 : w9.heap.size < (w9.alloc (.cells #[.int .u32 i, .int .u16 0, .int .u16 7, .slice Am 3 cm] 55)).heap.size := by rw [World.size_alloc]; omega
        have cv := conv_str (Om.extN Y10).rd 3 cm rfl
        clear x9 hD9 J8 X8 hD6' Y10 J9 X9 O8 O9 R8 Om
        go_wp2_with fail
        have ctr := len_calls J10
        with_reducible refine Calls.mono ctr ?_
        clear ctr
        rintro e wz ⟨rfl, rfl⟩
        rw [jl2]
        clear cv
        go_wp2_with fail
        exact ⟨⟨i + 1, D9, by omega, by go_num, O10, X10, J10, fun b h => ⟨(hD9' b h).1, by have := (hD9' b h).2.1; omega, (hD9' b h).2.2⟩⟩, by simp [intOf]; omega⟩
    · obtain rfl : i = 30 := by omega
      rw [rk_zero (by omega)] at J0
      clear hi
      rw [show ((30 : Nat) : Int) = (30 : Int) from rfl]
      go_wp2_with fail
      go_loopw [14] (fun z wr => ∃ (i : Nat) (D : Nat → Prop), i ≤ n ∧ z = .int .i64 i ∧ Ext Non w wr ∧ Jo wr D j (rk n i) ∧ (∀ b, D b → w.heap.size ≤ b ∧ b < wr.heap.size)) (fun z _ => n - (intOf z).toNat)
      case atStart => exact ⟨0, _, by omega, rfl, X, J0, fun b hb => ⟨(hD b hb).1, (hD b hb).2.1⟩⟩
      case round =>
        clear O X J0 hD
        obtain ⟨i, D, hi, rfl, X, J0, hD⟩ := hrel
        by_cases hlt : i < n
        · have i1 : (i : Int) < (n : Int) := by omega
          have htk := take_rk (n := n) hlt (by omega)
          obtain ⟨z, hz⟩ : ∃ z, n - (i + 1) = z := ⟨_, rfl⟩
          have jl := rk_len n (i + 1)
          rw [hz] at jl
          have ez : (n : Int) - 1 - (i : Int) = (z : Int) := by omega
          clear hz
          have kc := Lib.run_convert_bytes_const (P := Try.prog) wr 24 5 #[.int .u8 101, .int .u8 110, .int .u8 100] 3 3 Try.underlying24 Try.underlying5
          go_wp2_with fail
          clear kc
          have R8 : Rd (wr.alloc (.cells #[.int .u8 101, .int .u8 110, .int .u8 100] 5 (3, 4))) (fun k => k = wr.heap.size) (some ⟨wr.heap.size, 0, none⟩) (bvs [101, 110, 100]) := by
            rw [bvsEnd_]
            exact rdm wr 5 [.int .u8 101, .int .u8 110, .int .u8 100] (3, 4)
          have Y8 := (Ext.refl Non wr).alloc (.cells #[.int .u8 101, .int .u8 110, .int .u8 100] 5 (3, 4))
          have J8 := J0.extN Y8
          have X8 := X.transN Y8
          have hs8 : wr.heap.size ≤ (wr.alloc (.cells #[.int .u8 101, .int .u8 110, .int .u8 100] 5 (3, 4))).heap.size := Y8.size
          have hsx := X.size
          clear Y8 J0 X
          have ctr := take_some J8 1 i 0 0 1 2 [101, 110, 100] mE htk rfl rfl rfl (some ⟨wr.heap.size, 0, none⟩) 3 3 rfl R8 (by decide) (by decide) 247 mE_len
          with_reducible refine Calls.mono ctr ?_
          clear ctr
          rintro e w9 ⟨D9, Am, cm, rfl, J9, hD9, x9, Om, _⟩
          generalize wr.alloc (.cells #[.int .u8 101, .int .u8 110, .int .u8 100] 5 (3, 4)) = w8 at *
          obtain ⟨g, rfl⟩ : ∃ g, Am = some ⟨g, 0, none⟩ := by
            obtain ⟨a, ha⟩ := Option.isSome_iff_exists.1 (Om.rd.ix (k := 0) (u := .int .u8 0) rfl).1
            obtain ⟨_, _, e, _⟩ := Om.blk (k := a.block) (by rw [ha]; rfl)
            exact ⟨_, e⟩
          have X9 := X8.trans x9 (fun b hb hd => by
            have := (hD _ hd).1
            omega)
          have hD9' : ∀ b, D9 b → w.heap.size ≤ b ∧ b < w9.heap.size := fun b h => by
            have h1 := hD9 _ h
            rcases h1.1 with h2 | h2
            · exact ⟨(hD _ h2).1, h1.2⟩
            · exact ⟨by omega, h1.2⟩
          have Y10 := (Ext.refl Non w9).alloc (.cells #[.int .u32 i, .int .u16 0, .int .u16 0, .slice (some ⟨g, 0, none⟩) 247 cm] 55)
          have J10 := J9.extN Y10
          have X10 := X9.transN Y10
          have hsz10 : w9.heap.size < (w9.alloc (.cells #[.int .u32 i, .int .u16 0, .int .u16 0, .slice (some ⟨g, 0, none⟩) 247 cm] 55)).heap.size := by rw [World.size_alloc]; omega
          have hcm := Om.len
          rw [mE_len] at hcm
          have Rd1 := ((Om.extN Y10).rd.mid 244 244)
          have e1 : (List.drop 244 (bvs mE)).take 244 = bvs [101, 110, 100] := by
            have := pce_bvs mE 1
            rw [mE_1] at this
            exact this.symm
          rw [e1] at Rd1
          have cv : (convert 24 9 (.slice (some ⟨g, 244, none⟩) 3 (cm - 244))).run Try.prog _ = _ := conv_str Rd1 3 (cm - 244) rfl
          clear e1 Rd1
          clear x9 hD9 J8 X8 Y10 J9 X9 R8 Om
          go_wp2_with fail
          have ctr := len_calls J10
          with_reducible refine Calls.mono ctr ?_
          clear ctr
          rintro e wz ⟨rfl, rfl⟩
          rw [jl]
          clear cv
          go_wp2_with fail
          exact ⟨⟨i + 1, D9, by omega, by go_num, X10, J10, fun b h => ⟨(hD9' b h).1, by have := (hD9' b h).2; omega⟩⟩, by simp [intOf]; omega⟩
        · obtain rfl : i = n := by omega
          go_wp2_with fail
          go_ret
          exact ⟨rfl, X.belowN⟩
end Go.Proofs.Ytcdpmedmhindaaa
