/- The law OctetsBack: what is written is read, and nothing is left; for any numbers, cut or not: the Go text returns true. -/
import Derived.Test.YtkgnhkkmingenaaShown01
import Derived.Test.YtkgnhkkmingenaaNum
import Derived.Test.YtkgnhkkmingenaaSeq
namespace Go.Proofs.Ytkgnhkkmingenaa
open Go.RowKit

/-- Numbers of eight bytes, as values. -/
def uvs (l : List Nat) : List Value := l.map (fun n : Nat => .int .u64 (n : Int))
theorem uvs_length (l : List Nat) : (uvs l).length = l.length := by simp [uvs]
theorem uvs_get (l : List Nat) (i : Nat) (h : i < l.length) : (uvs l)[i]? = some (.int .u64 (l[i] : Int)) := by simp [uvs, h]
/-- A slice of such numbers that came in, as the row's shell hands it over. -/
theorem rowU {w : World} {a : Option Addr} {len cap : Nat} {zs : List Int} (h : (a = none ∧ len = 0 ∧ cap = 0 ∧ zs = []) ∨
    ∃ x, a = some x ∧ len ≤ cap ∧ cap ≤ maxLen ∧ zs.length = cap ∧ (∀ i, i < zs.length → w.cell? (x.add i) = some (.int .u64 (zs.getD i 0))) ∧ ∀ n ∈ zs, (Lit.int .u64 n).wf = true) :
    ∃ l : List Nat, l.length = len ∧ len ≤ cap ∧ (∀ n ∈ l, (n : Int) ≤ 18446744073709551615) ∧ Rd w (· < w.heap.size) a (uvs l) := by
  rcases h with ⟨rfl, rfl, rfl, rfl⟩ | ⟨x, rfl, hl, hc, hz, hcell, hwf⟩
  · exact ⟨[], rfl, Nat.le_refl _, by simp, .inl rfl⟩
  · have hb : ∀ n ∈ zs, 0 ≤ n ∧ n ≤ 18446744073709551615 := by
      intro n hn
      have hm := hwf n hn
      simp [Lit.wf, IntKind.min, IntKind.max, IntKind.signed, IntKind.bits] at hm
      omega
    refine ⟨(zs.take len).map Int.toNat, by simp; omega, hl, ?_, ?_⟩
    · intro n hn
      simp only [List.mem_map] at hn
      obtain ⟨z, hz, rfl⟩ := hn
      have := hb z (List.mem_of_mem_take hz)
      omega
    have key : ∀ j u, (uvs ((zs.take len).map Int.toNat))[j]? = some u → w.cell? (x.add j) = some u := by
      intro j u hu
      have hj : j < len := by
        rcases Nat.lt_or_ge j len with h | h
        · exact h
        · rw [List.getElem?_eq_none (by simp [uvs]; omega)] at hu
          cases hu
      rw [hcell j (by omega)]
      have hjz : j < zs.length := by omega
      simp [uvs, hj, List.getElem?_eq_getElem hjz] at hu
      subst hu
      have hb' := hb _ (List.getElem_mem hjz)
      simp [List.getD, List.getElem?_eq_getElem hjz]
      omega
    by_cases h0 : len = 0
    · subst h0; exact .inl (by simp [uvs])
    · refine .inr ⟨x, rfl, ?_, key⟩
      have := World.block_lt_of_cell? w _ (hcell 0 (by omega))
      simpa [block_of_add] using this

/-- What is written of one number. -/
def enc4 (n : Nat) : List UInt8 := be 8 n ++ be 4 (n / 4294967296) ++ be 2 (n / 281474976710656) ++ be 1 (n / 72057594037927936)
theorem enc4_length (n : Nat) : (enc4 n).length = 15 := by simp [enc4, be_length]
def encs (l : List Nat) : List UInt8 := (l.map enc4).flatten
theorem encs_length (l : List Nat) : (encs l).length = 15 * l.length := by
  induction l with
  | nil => rfl
  | cons n l ih => 
    show (enc4 n ++ encs l).length = _
    rw [List.length_append, ih, enc4_length, List.length_cons]; omega
theorem encs_append (l m : List Nat) : encs (l ++ m) = encs l ++ encs m := by simp [encs]
theorem encs_drop (l : List Nat) : ∀ (j : Nat) (h : j < l.length), (encs l).drop (15 * j) = enc4 l[j] ++ encs (l.drop (j + 1)) := by
  intro j h
  have e : l = l.take j ++ l[j] :: l.drop (j + 1) := by simp
  have e2 : encs l = encs (l.take j) ++ encs (l[j] :: l.drop (j + 1)) := by rw [← encs_append, ← e]
  rw [e2, List.drop_left' (by rw [encs_length]; simp; omega)]
  rfl
theorem encs_snoc (l : List Nat) (j : Nat) (h : j < l.length) : encs (l.take (j + 1)) = encs (l.take j) ++ be 8 l[j] ++ be 4 (l[j] / 4294967296) ++ be 2 (l[j] / 281474976710656) ++ be 1 (l[j] / 72057594037927936) := by
  rw [List.take_succ_eq_append_getElem h, encs_append]
  simp [encs, enc4]

theorem take_app (a r : List UInt8) (K n : Nat) (h : a.length = n) (hK : n ≤ K) : (a ++ r).take K = a ++ r.take (K - n) := by
  rw [List.take_append, List.take_of_length_le (by omega), h]
set_option maxRecDepth 10000 in
/-- What stands at the place of number j, the row cut off behind K bytes more. -/
theorem encs_at (l : List Nat) (j : Nat) (h : j < l.length) (hn : (l[j] : Int) ≤ 18446744073709551615) (C : Nat) (hC : 15 * j + 14 ≤ C) :
    let T := ((encs l).take C).drop (15 * j)
    num (T.take 8) = l[j] ∧ num ((T.drop 8).take 4) = l[j] / 4294967296 ∧ num (((T.drop 8).drop 4).take 2) = l[j] / 281474976710656 ∧ (15 * j + 15 ≤ C → num ((((T.drop 8).drop 4).drop 2).take 1) = l[j] / 72057594037927936) ∧
    (((T.drop 8).drop 4).drop 2).drop 1 = ((encs l).take C).drop (15 * (j + 1)) := by
  intro T
  have b8 := be_length 8 l[j]
  have b4 := be_length 4 (l[j] / 4294967296)
  have b2 := be_length 2 (l[j] / 281474976710656)
  have b1 := be_length 1 (l[j] / 72057594037927936)
  have n8 := num_be 8 l[j]
  have n4 := num_be 4 (l[j] / 4294967296)
  have n2 := num_be 2 (l[j] / 281474976710656)
  have n1 := num_be 1 (l[j] / 72057594037927936)
  have q8 : (256 : Nat) ^ 8 = 18446744073709551616 := by decide
  have q4 : (256 : Nat) ^ 4 = 4294967296 := by decide
  have q2 : (256 : Nat) ^ 2 = 65536 := by decide
  have q1 : (256 : Nat) ^ 1 = 256 := by decide
  have hT : T = be 8 l[j] ++ (be 4 (l[j] / 4294967296) ++ (be 2 (l[j] / 281474976710656) ++ (be 1 (l[j] / 72057594037927936) ++ encs (l.drop (j + 1))).take (C - 15 * j - 8 - 4 - 2))) := by
    show ((encs l).take C).drop (15 * j) = _
    rw [List.drop_take, encs_drop l j h, enc4, List.append_assoc, List.append_assoc, List.append_assoc, take_app _ _ _ 8 b8 (by omega), take_app _ _ _ 4 b4 (by omega), take_app _ _ _ 2 b2 (by omega)]
  have e5 : (((T.drop 8).drop 4).drop 2).drop 1 = ((encs l).take C).drop (15 * (j + 1)) := by
    rw [List.drop_drop, List.drop_drop, List.drop_drop]
    show (((encs l).take C).drop (15 * j)).drop (8 + (4 + (2 + 1))) = _
    rw [List.drop_drop]
    congr 1
  rw [q8] at n8
  rw [q4] at n4
  rw [q2] at n2
  rw [q1] at n1
  refine ⟨?_, ?_, ?_, ?_, e5⟩
  · rw [hT, List.take_left' b8, n8]
    omega
  · rw [hT, List.drop_left' b8, List.take_left' b4, n4]
    omega
  · rw [hT, List.drop_left' b8, List.drop_left' b4, List.take_left' b2, n2]
    omega
  · intro hC'
    rw [hT, List.drop_left' b8, List.drop_left' b4, List.drop_left' b2, take_app _ _ _ 1 b1 (by omega), List.take_left' b1, n1]
    omega

set_option maxRecDepth 100000 in
set_option maxHeartbeats 4000000 in
theorem back_walk (A0 : Option Addr) (n0 c0 : Nat) (l0 : List Nat) (cu : Bool) (w : World)
    (hn0 : l0.length = n0) (hc0 : n0 ≤ c0) (hb0 : ∀ n ∈ l0, (n : Int) ≤ 18446744073709551615) (r0 : Rd w (· < w.heap.size) A0 (uvs l0)) :
    Calls Try.prog 8 #[.slice A0 n0 c0, .bool cu] w fun e w' => e = .returned (.bool true) ∧ Below w.heap.size w w' := by
  obtain ⟨n, hn, hna, hnb, _⟩ := min_at n0 40 (by omega)
  obtain ⟨L, hL⟩ : ∃ L, L = l0.take n := ⟨_, rfl⟩
  have hLl : L.length = n := by rw [hL]; simp; omega
  have rL : Rd w (· < w.heap.size) A0 (uvs L) := by
    have : uvs L = (uvs l0).take n := by rw [hL]; simp [uvs]
    rw [this]; exact r0.take n
  have hbL : ∀ (j : Nat) (h : j < L.length), (L[j] : Int) ≤ 18446744073709551615 := by
    intro j h
    exact hb0 _ (List.mem_of_mem_take (i := n) (by rw [← hL]; exact List.getElem_mem h))
  clear hL r0 hn0 hb0
  go_enter Try.func8, Try.ntmps8
  go_wp2_with fail
  have ctr := shown_calls w
  with_reducible refine Calls.mono ctr ?_
  clear ctr
  rintro e w1 ⟨rfl, x1⟩
  have W1 := new_wr w1 w.heap.size
  have X1 : Ext Non w (w1.alloc (.cells #[.slice none 0 0] 26)) := x1.alloc _
  have hw1 := x1.size
  go_wp2_with fail
  go_loopw [7] (fun i wr => ∃ (j : Nat) (g : Option Nat), j ≤ n ∧ i = .int .i64 j ∧ Wr wr w.heap.size w1.heap.size g (encs (L.take j)) ∧ Ext Non w wr) (fun i _ => n - (intOf i).toNat)
  case atStart => exact ⟨0, none, by omega, rfl, W1, X1⟩
  case round =>
    obtain ⟨j, g, hj, rfl, W, X⟩ := hrel
    by_cases hjn : j < n
    · have hrl := rL.extN X
      have hgx := uvs_get L j (by omega)
      obtain ⟨hA, hcl⟩ := hrl.ix hgx
      have hx := hbL j (by omega)
      have hsn := encs_snoc L j (by omega)
      have hle : (encs (L.take j)).length ≤ 600 := by rw [encs_length]; simp; omega
      generalize L[j] = x at *
      obtain ⟨xa, hxa⟩ : ∃ a, a = x / 4294967296 := ⟨_, rfl⟩
      obtain ⟨xb, hxb⟩ : ∃ a, a = x / 281474976710656 := ⟨_, rfl⟩
      obtain ⟨xc, hxc⟩ : ∃ a, a = x / 72057594037927936 := ⟨_, rfl⟩
      have va : IntKind.u32.wrap ((x : Int) / 4294967296) = (xa : Int) := by rw [IntKind.wrap_u32]; omega
      have vb : IntKind.u16.wrap ((x : Int) / 281474976710656) = (xb : Int) := by rw [IntKind.wrap_u16]; omega
      have vc : IntKind.u8.wrap ((x : Int) / 72057594037927936) = (xc : Int) := by rw [IntKind.wrap_u8]; omega
      have la : (xa : Int) ≤ 4294967295 := by omega
      have lb : (xb : Int) ≤ 65535 := by omega
      have lc : (xc : Int) ≤ 255 := by omega
      rw [← hxa, ← hxb, ← hxc] at hsn
      clear hxa hxb hxc
      have HSN := Lib.hid hsn
      clear hsn
      have hcW := fun W (hW : Ext (fun k => w.heap.size ≤ k) wr.drew W) => (hrl.drew.ext hW (fun k hk he => by omega)).ix hgx
      have hsz := X.size
      go_wp2_with fail
      refine wp_region_seq (fun k => w.heap.size ≤ k) [(0, true), (1, true), (2, true), (3, true), (4, true), (6, true), (7, true), (8, true), (9, true), (10, true), (11, true), (13, true), (14, true), (15, true), (16, true), (17, true), (18, true), (20, true), (21, true), (22, true), (23, true), (24, true), (25, true), (5, false), (12, false), (19, false), (26, false)] (by kernel_rfl) (by kernel_rfl) (by kernel_rfl) ?_
      iterate 23 (refine wpSeq_quiet rfl rfl ?_; apply Exists.intro; refine ⟨?_, ?_⟩; (intro W hW; have cl := (hcW W hW).2; go_simp; try with_reducible rfl); (intro K hK; simp only [Act.put, List.setIfInBounds_toArray, List.set_cons_zero, List.set_cons_succ]; refine hK _ ?_; clear hK K))
      refine wpSeq_call rfl rfl (fun K hK => ?_)
      go_simp
      have ctr := wu64_calls W.drew hsz x hx (by omega)
      with_reducible refine Calls.mono ctr ?_
      clear ctr
      rintro e v1 ⟨rfl, g1, S1⟩
      go_simp
      refine hK _ _ (S1.ext.imp (fun k _ hk => by rcases hk with h | h; omega; exact (W.row h).1)) ?_
      clear hK K
      refine wpSeq_call rfl rfl (fun K hK => ?_)
      go_simp
      have ctr := wu32_calls S1.wr (Nat.le_trans hsz S1.ext.size) xa la (by simp [be_length]; omega)
      with_reducible refine Calls.mono ctr ?_
      clear ctr
      rintro e v2 ⟨rfl, g2, S2⟩
      have S12 := S1.trans S2
      go_simp
      refine hK _ _ (S2.ext.imp (fun k _ hk => by rcases hk with h | h; omega; exact (S1.wr.row h).1)) ?_
      clear hK K
      refine wpSeq_call rfl rfl (fun K hK => ?_)
      go_simp
      have ctr := wu16_calls S12.wr (Nat.le_trans hsz S12.ext.size) xb lb (by simp [be_length]; omega)
      with_reducible refine Calls.mono ctr ?_
      clear ctr
      rintro e v3 ⟨rfl, g3, S3⟩
      have S13 := S12.trans S3
      go_simp
      refine hK _ _ (S3.ext.imp (fun k _ hk => by rcases hk with h | h; omega; exact (S12.wr.row h).1)) ?_
      clear hK K
      refine wpSeq_call rfl rfl (fun K hK => ?_)
      go_simp
      have ctr := wu8_calls S13.wr (Nat.le_trans hsz S13.ext.size) xc lc (by simp [be_length]; omega)
      with_reducible refine Calls.mono ctr ?_
      clear ctr
      rintro e v4 ⟨rfl, g4, S4⟩
      have S14 := S13.trans S4
      go_simp
      refine hK _ _ (S4.ext.imp (fun k _ hk => by rcases hk with h | h; omega; exact (S13.wr.row h).1)) ?_
      clear hK K
      refine wpSeq_end ?_
      go_wp2_with fail
      exact ⟨⟨j + 1, g4, by omega, by go_num, HSN.out ▸ S14.wr, X.drew.trans S14.ext (fun k hk h => by rcases h with h | h; omega; have := (W.row h).1; omega)⟩, by simp [intOf]; omega⟩
    · obtain rfl : j = n := by omega
      have tn : L.take j = L := List.take_of_length_le (by omega)
      rw [tn] at W
      have hel := encs_length L
      rw [hLl] at hel
      go_wp2_with fail
      have ctr := wdone_calls W (15 * j) hel (by omega)
      with_reducible refine Calls.mono ctr ?_
      clear ctr
      rintro e w2 ⟨A2, c2, rfl, o2, x2⟩
      have X2 := X.transN x2
      have hc2 : 15 * j ≤ c2 := hel ▸ o2.len.1
      have hc2' : (15 * (j : Int)) ≤ (c2 : Int) := by omega
      have hj40 : j ≤ 40 := by omega
      clear W W1 X1 x1 hj hjn hna hnb
      have hcase : (∃ K, cu = true ∧ 0 < j ∧ K + 1 = 15 * j) ∨ (cu = true ∧ ¬ 0 < j) ∨ cu = false := by
        cases cu
        · exact .inr (.inr rfl)
        · rcases Nat.eq_zero_or_pos j with h | h
          · exact .inr (.inl ⟨rfl, by omega⟩)
          · exact .inl ⟨15 * j - 1, rfl, h, by omega⟩
      rcases hcase with ⟨K, rfl, hj0, hK⟩ | ⟨rfl, hj0⟩ | rfl
      case' inl =>
        have hj0' : (0 : Int) < (j : Int) := by omega
        have hin1 : (1 : Int) ≤ 15 * (j : Int) := by omega
        have hin2 : 15 * (j : Int) - 1 ≤ (c2 : Int) := by omega
        have hsl : (15 * (j : Int) - 1).toNat = K := by omega
        have hKc : K = 15 * j ∨ K + 1 = 15 * j := .inr hK
        have HK1 := Lib.hid hK
        clear hK
        go_wp2_with fail
        clear hj0' hin1 hin2 hsl
      case' inr.inl =>
        have hj0' : ¬ (0 : Int) < (j : Int) := by omega
        go_wp2_with fail
        obtain ⟨K, hKd⟩ : ∃ K, 15 * j = K := ⟨_, rfl⟩
        rw [hKd]
        have hKc : K = 15 * j ∨ K + 1 = 15 * j := .inl hKd.symm
        have HK0 := Lib.hid hKd
        clear hKd hj0'
      case' inr.inr =>
        go_wp2_with fail
        obtain ⟨K, hKd⟩ : ∃ K, 15 * j = K := ⟨_, rfl⟩
        rw [hKd]
        have hKc : K = 15 * j ∨ K + 1 = 15 * j := .inl hKd.symm
        have HK0 := Lib.hid hKd
        clear hKd
      all_goals
        have hTl : ((encs L).take K).length = K := by simp; omega
        have rT : Rd w2 (fun k => ob A2 = some k) A2 (bvs ((encs L).take K)) := by
          have : bvs ((encs L).take K) = (bvs (encs L)).take K := by simp [bvs]
          rw [this]
          exact o2.rd.take K
        have ctr := read_calls c2 K rT hTl (by omega)
        with_reducible refine Calls.mono ctr ?_
        clear ctr
        rintro e w3 ⟨r, rfl, R3, hr, x3⟩
        have X3 := X2.transN x3
        have hrw : w.heap.size ≤ r := Nat.le_trans X2.size hr
        go_wp2_with fail
        go_loopw [10] (fun v wr => ∃ i : Nat, i ≤ j ∧ v = .int .i64 i ∧ Rdr wr r (Iv w2.heap.size r) (((encs L).take K).drop (15 * i)) ∧ Ext Non w wr) (fun v _ => j - (intOf v).toNat)
        case atStart => exact ⟨0, by omega, rfl, R3, X3⟩
        case round =>
          obtain ⟨i, hi, rfl, R, Y⟩ := hrel
          by_cases hij : i < j
          · have hgx := uvs_get L i (by omega)
            obtain ⟨hA, hcl0⟩ := (rL.extN Y).ix hgx
            have hx := hbL i (by omega)
            obtain ⟨e8, e4, e2, e1, e0⟩ := encs_at L i (by omega) hx K (by omega)
            have hTn : (((encs L).take K).drop (15 * i)).length = K - 15 * i := by rw [List.length_drop, hTl]
            generalize ((encs L).take K).drop (15 * i) = T at *
            generalize L[i] = x at *
            obtain ⟨xa, hxa⟩ : ∃ a, a = x / 4294967296 := ⟨_, rfl⟩
            obtain ⟨xb, hxb⟩ : ∃ a, a = x / 281474976710656 := ⟨_, rfl⟩
            obtain ⟨xc, hxc⟩ : ∃ a, a = x / 72057594037927936 := ⟨_, rfl⟩
            rw [← hxa] at e4
            rw [← hxb, List.drop_drop] at e2
            rw [← hxc, List.drop_drop, List.drop_drop] at e1
            have va : (x : Int) / 4294967296 = (xa : Int) := by omega
            have vb : (x : Int) / 281474976710656 = (xb : Int) := by omega
            have vc : (x : Int) / 72057594037927936 = (xc : Int) := by omega
            have la : IntKind.u64.wrap (xa : Int) = (xa : Int) := by rw [IntKind.wrap_u64]; omega
            have lb : IntKind.u64.wrap (xb : Int) = (xb : Int) := by rw [IntKind.wrap_u64]; omega
            have lc : IntKind.u64.wrap (xc : Int) = (xc : Int) := by rw [IntKind.wrap_u64]; omega
            clear hxa hxb hxc
            have hiw := rL.extN Y
            have hnr : ∀ k, k < w.heap.size → ¬ One r k := fun k hk he => by have : k = r := he; omega
            have E1 := Lib.hid e1
            have E0 := Lib.hid e0
            have HTl := Lib.hid hTl
            clear e1 e0 hTl rT
            go_wp2_with fail
            have ctr := u64_calls R (by intro h; exact absurd h.2 (by omega)) (by omega)
            with_reducible refine Calls.mono ctr ?_
            clear ctr
            rintro e v1 ⟨rfl, R1, y1⟩
            go_wp2_with fail
            have ctr := u32_calls R1 (by intro h; exact absurd h.2 (by omega)) (by simp; omega)
            with_reducible refine Calls.mono ctr ?_
            clear ctr
            rintro e v2 ⟨rfl, R2, y2⟩
            go_wp2_with fail
            have ctr := u16_calls R2 (by intro h; exact absurd h.2 (by omega)) (by simp; omega)
            with_reducible refine Calls.mono ctr ?_
            clear ctr
            rintro e v3 ⟨rfl, R3', y3⟩
            go_wp2_with fail
            by_cases hlast : K + 1 = 15 * (i + 1)
            · first
                | (exfalso; have := HK0.out; omega)
                | (have hl : (j : Int) - 1 = (i : Int) := by omega
                   have ctr := u8_short R3' (by simp; omega)
                   with_reducible refine Calls.mono ctr ?_
                   clear ctr
                   rintro e v4 ⟨rfl, rfl⟩
                   obtain ⟨_, hcl⟩ := (((hiw.ext y1 hnr).ext y2 hnr).ext y3 hnr).ix hgx
                   go_wp2_with fail
                   refine ⟨⟨i + 1, by omega, by go_num, ?_, ((Y.trans y1 (fun k hk h => hnr k hk h)).trans y2 (fun k hk h => hnr k hk h)).trans y3 (fun k hk h => hnr k hk h)⟩, by simp [intOf]; omega⟩
                   rw [List.drop_of_length_le (by rw [HTl.out]; omega)]
                   rwa [List.eq_nil_of_length_eq_zero (l := ((T.drop 8).drop 4).drop 2) (by simp; omega)] at R3')
            · have e1 := E1.out (by omega)
              try have hl : ¬ ((i : Int) = (j : Int) - 1) := by have := HK1.out; omega
              have ctr := u8_calls R3' (by intro h; exact absurd h.2 (by omega)) (by simp; omega)
              with_reducible refine Calls.mono ctr ?_
              clear ctr
              rintro e v4 ⟨rfl, R4, y4⟩
              obtain ⟨_, hcl⟩ := ((((hiw.ext y1 hnr).ext y2 hnr).ext y3 hnr).ext y4 hnr).ix hgx
              go_wp2_with fail
              exact ⟨⟨i + 1, by omega, by go_num, E0.out ▸ R4, (((Y.trans y1 (fun k hk h => hnr k hk h)).trans y2 (fun k hk h => hnr k hk h)).trans y3 (fun k hk h => hnr k hk h)).trans y4 (fun k hk h => hnr k hk h)⟩, by simp [intOf]; omega⟩
          · obtain rfl : i = j := by omega
            rw [List.drop_of_length_le (by rw [hTl]; omega)] at R
            go_wp2_with fail
            have ctr := rdone_calls R
            with_reducible refine Calls.mono ctr ?_
            clear ctr
            rintro e v4 ⟨rfl, rfl⟩
            go_wp2
            go_ret
            exact ⟨rfl, Y.belowN⟩
end Go.Proofs.Ytkgnhkkmingenaa
