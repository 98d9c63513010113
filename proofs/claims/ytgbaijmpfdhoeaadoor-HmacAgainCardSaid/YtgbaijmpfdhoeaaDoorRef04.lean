/- The document's answer for layer 4: codes of texts. -/
import Derived.Test.YtgbaijmpfdhoeaaDoorHm
import Derived.Test.YtgbaijmpfdhoeaaDoorRef03S
namespace Go.Proofs.YtgbaijmpfdhoeaaDoor
open Go.RowKit

theorem kpad_get (key : List UInt8) {i : Nat} : (kpad key).getD i 0 = (if 64 < key.length then sha key else key).getD i 0 := by
  unfold kpad
  generalize (if 64 < key.length then sha key else key) = k
  rcases Nat.lt_or_ge i k.length with h | h
  · rw [getD_app _ _ _ _ h]
  · rw [getD_app_r _ _ _ _ h]
    simp only [List.getD, zeros, List.getElem?_eq_none h, List.getElem?_replicate, Option.getD_none]
    split <;> rfl
theorem xall_snoc (l : List UInt8) (c : UInt8) {i : Nat} (h : i < l.length) : xall (l.take i) c ++ [l.getD i 0 ^^^ c] = xall (l.take (i + 1)) c := by
  rw [List.take_succ_eq_append_getElem h]
  unfold xall
  rw [List.map_append]
  simp [List.getD, h]

set_option maxRecDepth 100000 in
set_option maxHeartbeats 1000000 in
theorem rpad_calls (w : World) (key : List UInt8) (hl : key.length ≤ 1000000) (c : UInt8) (n : Int) (hn : (c.toNat : Int) = n) :
    Calls Tryd.prog 29 #[.string (str key), .int .u8 n] w fun e w' => e = .returned (.string (str (xall (kpad key) c))) ∧ Ext Non w w' := by
  have hkg := fun i => kpad_get key (i := i)
  have hKL := kpad_len key
  have hz : (str key).size = key.length := str_size key
  go_enter Tryd.func29, Tryd.ntmps29
  by_cases h64 : 64 < key.length
  · have i1 : (64 : Int) < (key.length : Int) := by omega
    simp only [if_pos h64] at hkg
    go_wp2_with fail
    have ctr := rsum_calls w key (by omega)
    with_reducible refine Calls.mono ctr ?_
    clear ctr
    rintro e w1 ⟨rfl, x1⟩
    have hz2 : (str (sha key)).size = (sha key).length := str_size _
    have hkl : (sha key).length ≤ 64 := by rw [sha_len]; decide
    go_wp2_with fail
    generalize sha key = K at *
    go_loopw [5, 6] (fun s i wr => ∃ q : Nat, q ≤ 64 ∧ s = .string (str (xall ((kpad key).take q) c)) ∧ i = .int .i64 q ∧ Ext Non w wr) (fun _ i _ => 64 - (intOf i).toNat)
    case atStart => exact ⟨0, by omega, rfl, rfl, x1⟩
    case round =>
      obtain ⟨q, hq, rfl, rfl, X⟩ := hrel
      by_cases hlt : q < 64
      · obtain ⟨x, hx⟩ : ∃ x, (kpad key).getD q 0 = x := ⟨_, rfl⟩
        obtain ⟨y, hy⟩ : ∃ y, x ^^^ c = y := ⟨_, rfl⟩
        have hcat := xall_snoc (kpad key) c (i := q) (by omega)
        rw [hx, hy] at hcat
        have hxk := hkg q
        rw [hx] at hxk
        have ex : bits .xor .u8 (x.toNat : Int) n = (y.toNat : Int) := by rw [← hn, u8_xor, hy]
        have hlen : (xall ((kpad key).take q) c).length = q := by rw [xall_len, List.length_take]; omega
        generalize xall ((kpad key).take q) c = L1 at *
        generalize hL2 : xall ((kpad key).take (q + 1)) c = L2 at *
        have HL2 := Lib.hid hL2
        clear hL2
        obtain ⟨hs1, hs2, hs3, hs4, hmax⟩ := sum_facts hcat q 1 hlen rfl (by omega)
        have i2 : (q : Int) < 64 := by omega
        have cv := run_convert_rd (wr.alloc (.cells #[.int .u8 (y.toNat : Int)] 5)) 22 9 5 Tryd.underlying22 Tryd.underlying9 Tryd.underlying5 (rd_new1 wr 5 y) 1 1 rfl
        have X' : Ext Non w (wr.alloc (.cells #[.int .u8 (y.toNat : Int)] 5)) := X.alloc _
        clear hcat hlen hx hy hkg
        by_cases hqk : q < K.length
        · have i3 : (q : Int) < (K.length : Int) := by omega
          have hxk2 : ∀ h, (str K)[q]'h = x := fun h => by
            show K[q] = x
            rw [hxk]
            simp [List.getD, hqk]
            rfl
          clear hxk
          go_wp2_with fail
          exact ⟨⟨q + 1, by omega, by rw [HL2.out], by go_num, X'⟩, by simp [intOf]; omega⟩
        · have i3 : ¬ (q : Int) < (K.length : Int) := by omega
          have hx0 : x = 0 := by rw [hxk]; simp [List.getD, List.getElem?_eq_none (Nat.le_of_not_lt hqk)]
          subst hx0
          have ex0 : bits .xor .u8 0 n = (y.toNat : Int) := ex
          clear hxk ex
          go_wp2_with fail
          exact ⟨⟨q + 1, by omega, by rw [HL2.out], by go_num, X'⟩, by simp [intOf]; omega⟩
      · obtain rfl : q = 64 := by omega
        rw [List.take_of_length_le (by omega)]
        go_wp2_with fail
        go_ret
        exact ⟨rfl, X⟩
  · have i1 : ¬ (64 : Int) < (key.length : Int) := by omega
    simp only [if_neg h64] at hkg
    have hkl : key.length ≤ 64 := by omega
    go_wp2_with fail
    go_loopw [5, 6] (fun s i wr => ∃ q : Nat, q ≤ 64 ∧ s = .string (str (xall ((kpad key).take q) c)) ∧ i = .int .i64 q ∧ Ext Non w wr) (fun _ i _ => 64 - (intOf i).toNat)
    case atStart => exact ⟨0, by omega, rfl, rfl, Ext.refl _ _⟩
    case round =>
      obtain ⟨q, hq, rfl, rfl, X⟩ := hrel
      by_cases hlt : q < 64
      · obtain ⟨x, hx⟩ : ∃ x, (kpad key).getD q 0 = x := ⟨_, rfl⟩
        obtain ⟨y, hy⟩ : ∃ y, x ^^^ c = y := ⟨_, rfl⟩
        have hcat := xall_snoc (kpad key) c (i := q) (by omega)
        rw [hx, hy] at hcat
        have hxk := hkg q
        rw [hx] at hxk
        have ex : bits .xor .u8 (x.toNat : Int) n = (y.toNat : Int) := by rw [← hn, u8_xor, hy]
        have hlen : (xall ((kpad key).take q) c).length = q := by rw [xall_len, List.length_take]; omega
        generalize xall ((kpad key).take q) c = L1 at *
        generalize hL2 : xall ((kpad key).take (q + 1)) c = L2 at *
        have HL2 := Lib.hid hL2
        clear hL2
        obtain ⟨hs1, hs2, hs3, hs4, hmax⟩ := sum_facts hcat q 1 hlen rfl (by omega)
        have i2 : (q : Int) < 64 := by omega
        have cv := run_convert_rd (wr.alloc (.cells #[.int .u8 (y.toNat : Int)] 5)) 22 9 5 Tryd.underlying22 Tryd.underlying9 Tryd.underlying5 (rd_new1 wr 5 y) 1 1 rfl
        have X' : Ext Non w (wr.alloc (.cells #[.int .u8 (y.toNat : Int)] 5)) := X.alloc _
        clear hcat hlen hx hy hkg
        by_cases hqk : q < key.length
        · have i3 : (q : Int) < (key.length : Int) := by omega
          have hxk2 : ∀ h, (str key)[q]'h = x := fun h => by
            show key[q] = x
            rw [hxk]
            simp [List.getD, hqk]
            rfl
          clear hxk
          go_wp2_with fail
          exact ⟨⟨q + 1, by omega, by rw [HL2.out], by go_num, X'⟩, by simp [intOf]; omega⟩
        · have i3 : ¬ (q : Int) < (key.length : Int) := by omega
          have hx0 : x = 0 := by rw [hxk]; simp [List.getD, List.getElem?_eq_none (Nat.le_of_not_lt hqk)]
          subst hx0
          have ex0 : bits .xor .u8 0 n = (y.toNat : Int) := ex
          clear hxk ex
          go_wp2_with fail
          exact ⟨⟨q + 1, by omega, by rw [HL2.out], by go_num, X'⟩, by simp [intOf]; omega⟩
      · obtain rfl : q = 64 := by omega
        rw [List.take_of_length_le (by omega)]
        go_wp2_with fail
        go_ret
        exact ⟨rfl, X⟩

set_option maxRecDepth 100000 in
set_option maxHeartbeats 1000000 in
theorem rmac_calls (w : World) (key s : List UInt8) (hk : key.length ≤ 1000000) (hs : s.length ≤ 10000000) :
    Calls Tryd.prog 17 #[.string (str key), .string (str s)] w fun e w' => e = .returned (.string (str (hm key s))) ∧ Ext Non w w' := by
  have l1 : (xall (kpad key) 92).length = 64 := by rw [xall_len, kpad_len]
  have l2 : (xall (kpad key) 54).length = 64 := by rw [xall_len, kpad_len]
  have hres : hm key s = sha (xall (kpad key) 92 ++ sha (xall (kpad key) 54 ++ s)) := rfl
  have HR := Lib.hid hres
  clear hres
  go_enter Tryd.func17, Tryd.ntmps17
  go_wp2_with fail
  have ctr := rpad_calls w key hk 92 92 rfl
  with_reducible refine Calls.mono ctr ?_
  clear ctr
  rintro e w1 ⟨rfl, x1⟩
  go_wp2_with fail
  have ctr := rpad_calls w1 key hk 54 54 rfl
  with_reducible refine Calls.mono ctr ?_
  clear ctr
  rintro e w2 ⟨rfl, x2⟩
  obtain ⟨n, hn⟩ : ∃ n, s.length = n := ⟨_, rfl⟩
  obtain ⟨t, ht⟩ : ∃ t, xall (kpad key) 54 ++ s = t := ⟨_, rfl⟩
  have htl : t.length ≤ 1000000000 := by rw [← ht, List.length_append, l2]; omega
  obtain ⟨a1, a2, a3, a4, amax⟩ := sum_facts ht 64 n l2 hn (by omega)
  have HT := Lib.hid ht
  generalize xall (kpad key) 54 = P2 at *
  clear ht
  go_wp2_with fail
  have ctr := rsum_calls w2 t htl
  with_reducible refine Calls.mono ctr ?_
  clear ctr
  rintro e w3 ⟨rfl, x3⟩
  obtain ⟨u, hu⟩ : ∃ u, xall (kpad key) 92 ++ sha t = u := ⟨_, rfl⟩
  have hul : u.length ≤ 1000000000 := by rw [← hu, List.length_append, l1, sha_len]; decide
  obtain ⟨b1, b2, b3, b4, bmax⟩ := sum_facts hu 64 32 l1 (sha_len t) (by omega)
  have HU := Lib.hid hu
  generalize xall (kpad key) 92 = P1 at *
  generalize hst : sha t = st at *
  have HST := Lib.hid hst
  clear hst
  clear hu a1 a2 a3 a4 amax
  go_wp2_with fail
  have ctr := rsum_calls w3 u hul
  with_reducible refine Calls.mono ctr ?_
  clear ctr
  rintro e w4 ⟨rfl, x4⟩
  go_wp2_with fail
  go_ret
  refine ⟨?_, ((x1.transN x2).transN x3).transN x4⟩
  show Ending.returned (.string (str (sha u))) = _
  rw [HR.out, HT.out, HST.out, HU.out]

set_option maxRecDepth 100000 in
theorem rshort_calls (w : World) (key s : List UInt8) (hk : key.length ≤ 1000000) (hs : s.length ≤ 10000000) :
    Calls Tryd.prog 18 #[.string (str key), .string (str s)] w fun e w' => e = .returned (.string (str ((hm key s).take 16))) ∧ Ext Non w w' := by
  have hx : (str (hm key s)).extract 0 16 = str ((hm key s).take 16) := by rw [str_extract, List.drop_zero]
  have hz : (str (hm key s)).size = 32 := by rw [str_size, hm_len]
  go_enter Tryd.func18, Tryd.ntmps18
  go_wp2_with fail
  have ctr := rmac_calls w key s hk hs
  with_reducible refine Calls.mono ctr ?_
  clear ctr
  rintro e w1 ⟨rfl, x1⟩
  generalize hM : hm key s = M at *
  have HM := Lib.hid hM
  clear hM
  go_wp2_with fail
  go_ret
  rw [HM.out]
  exact ⟨rfl, x1⟩

/-- The bytes that a key of a key is a code of. -/
def dmsg (label : List UInt8) (ts : List (List UInt8)) : List UInt8 := be 4 label.length ++ label ++ ts.flatMap fun t => be 4 t.length ++ t
theorem dmsg_snoc (label : List UInt8) (ts : List (List UInt8)) (j : Nat) (h : j < ts.length) : dmsg label (ts.take (j + 1)) = dmsg label (ts.take j) ++ be 4 ts[j].length ++ ts[j] := by
  unfold dmsg
  rw [List.take_succ_eq_append_getElem h, List.flatMap_append]
  simp
theorem dmsg_len (label : List UInt8) (ts : List (List UInt8)) (m : Nat) (h : ∀ t ∈ ts, t.length ≤ m) : (dmsg label ts).length ≤ 4 + label.length + (4 + m) * ts.length := by
  unfold dmsg
  induction ts with
  | nil => simp [be_length]
  | cons t ts ih =>
    have h1 := h t (List.mem_cons_self ..)
    have h2 := ih (fun x hx => h x (List.mem_cons_of_mem _ hx))
    simp only [List.length_append, be_length, List.flatMap_cons, List.length_cons, Nat.mul_succ] at h2 ⊢
    omega
def txt (l : List UInt8) : Value := .string (str l)
set_option maxRecDepth 100000 in
set_option maxHeartbeats 1000000 in
theorem rderive_calls (w : World) (key label : List UInt8) (ts : List (List UInt8)) (hk : key.length ≤ 1000000) (hl : label.length ≤ 1000) (ht : ∀ t ∈ ts, t.length ≤ 1000) {D : Nat → Prop} {A : Option Addr} (n c : Nat) (hn : ts.length = n) (hn2 : n ≤ 1000) (hr : Rd w D A (ts.map txt)) :
    Calls Tryd.prog 20 #[.string (str key), .string (str label), .slice A n c] w fun e w' => e = .returned (.string (str (hm key (dmsg label ts)))) ∧ Ext Non w w' := by
  obtain ⟨ll, hll⟩ : ∃ n, label.length = n := ⟨_, rfl⟩
  have hz : (str label).size = ll := by rw [str_size, hll]
  obtain ⟨d0, hd0⟩ : ∃ d, be 4 ll ++ label = d := ⟨_, rfl⟩
  obtain ⟨a1, a2, a3, a4, amax⟩ := sum_facts hd0 4 ll (be_length _ _) hll (by omega)
  have hd0' : dmsg label [] = d0 := by unfold dmsg; rw [hll, hd0]; simp
  have HD0 := Lib.hid hd0'
  have w1' : IntKind.u64.wrap (ll : Int) = (ll : Int) := by rw [IntKind.wrap_u64]; omega
  clear hd0 hd0'
  go_enter Tryd.func20, Tryd.ntmps20
  go_wp2_with fail
  have ctr := text_calls w ll (by omega) 4 (by decide)
  with_reducible refine Calls.mono ctr ?_
  clear ctr
  rintro e w1 ⟨rfl, x1⟩
  go_wp2_with fail
  clear a1 a2 a3 a4 amax w1' hz
  go_loopw [7, 8] (fun s i wr => ∃ j : Nat, j ≤ n ∧ s = .string (str (dmsg label (ts.take j))) ∧ i = .int .i64 j ∧ Ext Non w wr) (fun _ i _ => n - (intOf i).toNat)
  case atStart => exact ⟨0, by omega, by rw [List.take_zero, HD0.out], rfl, x1⟩
  case round =>
    obtain ⟨j, hj, rfl, rfl, X⟩ := hrel
    have hlen := dmsg_len label (ts.take j) 1000 (fun t h => ht t (List.mem_of_mem_take h))
    rw [List.length_take] at hlen
    by_cases hlt : j < n
    · have hjl : j < ts.length := by omega
      have hsn := dmsg_snoc label ts j hjl
      have htj := ht ts[j] (List.getElem_mem hjl)
      have ht1 : (ts.map txt)[j]? = some (.string (str ts[j])) := by rw [List.getElem?_map, List.getElem?_eq_getElem hjl]; rfl
      obtain ⟨t, htt⟩ : ∃ t, ts[j] = t := ⟨_, rfl⟩
      rw [htt] at hsn htj ht1
      have HSN := Lib.hid hsn
      obtain ⟨L0, hL0⟩ : ∃ l, dmsg label (ts.take j) = l := ⟨_, rfl⟩
      rw [hL0] at hsn hlen ⊢
      obtain ⟨tl, htl⟩ : ∃ n, t.length = n := ⟨_, rfl⟩
      rw [htl] at hsn htj
      obtain ⟨l0, hl0⟩ : ∃ n, L0.length = n := ⟨_, rfl⟩
      rw [hl0] at hlen
      obtain ⟨L1, hL1⟩ : ∃ l, L0 ++ be 4 tl = l := ⟨_, rfl⟩
      rw [hL1] at hsn
      have hl1 : L1.length = l0 + 4 := by rw [← hL1, List.length_append, be_length, hl0]
      have hjb : (4 + 1000) * min j ts.length ≤ 1004 * 1000 := Nat.mul_le_mul_left _ (by omega)
      obtain ⟨a1, a2, a3, a4, amax⟩ := sum_facts hL1 l0 4 hl0 (be_length _ _) (by omega)
      obtain ⟨L2, hL2⟩ : ∃ l, dmsg label (ts.take (j + 1)) = l := ⟨_, rfl⟩
      rw [hL2] at hsn
      obtain ⟨b1, b2, b3, b4, bmax⟩ := sum_facts hsn.symm (l0 + 4) tl hl1 htl (by omega)
      have HL2 := Lib.hid hL2
      have S1 := (hr.ix ht1).1
      have cw : ∀ W, Ext Non wr W → W.cell? ((A.getD default).add j) = some (.string (str t)) := fun W hW => ((hr.extN (X.transN hW)).ix ht1).2
      have i1 : (j : Int) < (n : Int) := by omega
      have wj : IntKind.i64.wrap (j : Int) = (j : Int) := by rw [IntKind.wrap_i64]; omega
      have wt : IntKind.u64.wrap (tl : Int) = (tl : Int) := by rw [IntKind.wrap_u64]; omega
      have tx : ∀ W, Calls Tryd.prog 30 #[.int .u64 tl, .int .i64 4] W fun e w' => e = .returned (.string (str (be 4 tl))) ∧ Ext Non W w' := fun W => text_calls W tl (by omega) 4 (by decide)
      clear hsn hL0 hL1 hL2 htt ht1 hlen hjb hl1 hl0
      go_wp2_with fail
      refine wp_region_seq Non ((0, true) :: (1, true) :: (2, true) :: (3, true) :: (4, true) :: (5, true) :: (6, true) :: (9, true) :: (10, true) :: (11, true) :: (12, true) :: (7, false) :: (8, true) :: (13, true) :: (14, true) :: []) (by kernel_rfl) (by kernel_rfl) (by kernel_rfl) ?_
      iterate 11 (refine wpSeq_quiet rfl rfl ?_; apply Exists.intro; refine ⟨?_, ?_⟩; (intro W hW; have c1 := cw W hW.drewL; go_simp; try with_reducible rfl); (intro K hK; simp only [Act.put, List.setIfInBounds_toArray, List.set_cons_zero, List.set_cons_succ]; refine hK _ ?_; clear hK K))
      refine wpSeq_call rfl rfl (fun K hK => ?_)
      go_simp
      have ctr := tx wr.drew
      with_reducible refine Calls.mono ctr ?_
      clear ctr
      rintro e w2 ⟨rfl, x2⟩
      go_simp
      refine hK _ _ x2 ?_
      clear hK K
      iterate 3 (refine wpSeq_quiet rfl rfl ?_; apply Exists.intro; refine ⟨?_, ?_⟩; (intro W hW; go_simp; try with_reducible rfl); (intro K hK; simp only [Act.put, List.setIfInBounds_toArray, List.set_cons_zero, List.set_cons_succ]; refine hK _ ?_; clear hK K))
      refine wpSeq_end ?_
      clear cw tx
      have X2 := X.drew.transN x2
      go_wp2_with fail
      exact ⟨⟨j + 1, by omega, by rw [HL2.out], by go_num, X2⟩, by simp [intOf]; omega⟩
    · obtain rfl : n = j := by omega
      have htk : ts.take n = ts := List.take_of_length_le (by omega)
      rw [htk] at hlen ⊢
      have hm1 : (dmsg label ts).length ≤ 10000000 := by
        have : (4 + 1000) * min n ts.length ≤ 1004 * 1000 := Nat.mul_le_mul_left _ (by omega)
        omega
      clear hlen htk
      go_wp2_with fail
      have ctr := rmac_calls wr key (dmsg label ts) hk hm1
      with_reducible refine Calls.mono ctr ?_
      clear ctr
      rintro e w2 ⟨rfl, x2⟩
      have X2 := X.transN x2
      generalize hM : hm key (dmsg label ts) = M at *
      have HM := Lib.hid hM
      clear hM
      go_wp2_with fail
      go_ret
      rw [HM.out]
      exact ⟨rfl, X2⟩
end Go.Proofs.YtgbaijmpfdhoeaaDoor
