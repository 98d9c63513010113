/- Contracts of package sha: sums. -/
import Derived.Test.YtnmpfbffacljfaaDoorShaW
namespace Go.Proofs.YtnmpfbffacljfaaDoor
open Go.RowKit

@[go_sem ↓] theorem zero_o (w : World) : (zeroValue 82).run Tryd.prog w = .ok (.agg (zrow 32)) w :=
  (zero_of_info (P := Tryd.prog) (t := 82) (n := 32) (by kernel_rfl)).1 w

/-- The bytes of eight numbers, the first n of them. -/
def outk (v : List UInt32) (n : Nat) : Array Value := rowf 32 fun j => if j < n then bv ((v.flatMap fun x => be 4 x.toNat).getD j 0) else .int .u8 0
theorem outk_size (v : List UInt32) (n : Nat) : (outk v n).size = 32 := rowf_size _ _
theorem outk_zero (v : List UInt32) : outk v 0 = zrow 32 := by
  have : outk v 0 = rowf 32 fun _ => .int .u8 0 := rowf_ext fun _ _ => if_neg (by omega)
  rw [this, rowf_const]
  rfl
theorem outk_any (v : List UInt32) {n j : Nat} (h : j < 32) : ∃ x, (outk v n)[j]? = some x := ⟨_, rowf_get h⟩
theorem outk_set (v : List UInt32) (k : Nat) (b : UInt8) (hb : (v.flatMap fun x => be 4 x.toNat).getD k 0 = b) : (outk v k).setIfInBounds k (.int .u8 (b.toNat : Int)) = outk v (k + 1) := by
  unfold outk
  rw [rowf_set]
  refine rowf_ext fun i _ => ?_
  by_cases h : i = k
  · subst h; rw [if_pos rfl, if_pos (by omega), hb]; rfl
  · rw [if_neg h]
    by_cases h2 : i < k
    · rw [if_pos h2, if_pos (by omega)]
    · rw [if_neg h2, if_neg (by omega)]
theorem outk_all (v : List UInt32) (n : Nat) : (outk v n).all (·.oneCell') = true := rowf_all fun j => by
  by_cases h : j < n
  · rw [if_pos h]; rfl
  · rw [if_neg h]; rfl
theorem outk_last (v : List UInt32) (hv : v.length = 8) : outk v 32 = ba (v.flatMap fun x => be 4 x.toNat) := by
  have hl : (v.flatMap fun x => be 4 x.toNat).length = 32 := by rw [flat4_len, hv]
  apply Array.ext_getElem?
  intro i
  by_cases h : i < 32
  · rw [ba_get _ _ (by omega)]
    unfold outk
    rw [rowf_get h, if_pos h]
    rfl
  · rw [Array.getElem?_eq_none (by rw [outk_size]; omega), Array.getElem?_eq_none (by rw [ba_size]; omega)]
theorem be_byte2 (x k : Nat) : ∃ b : UInt8, (x : Int) / 2 ^ (8 * k) % 256 = (b.toNat : Int) ∧ Hid (UInt8.ofNat (x / 256 ^ k) = b) := by
  obtain ⟨b, hb, HB⟩ := be_byte x k
  refine ⟨b, ?_, HB⟩
  rw [IntKind.wrap_u8, show (8 * (k : Int)).toNat = 8 * k from by omega] at hb
  exact hb

/-- A byte of a number of 32 bits. -/
theorem byte32 (x : UInt32) (k : Nat) (hk : k < 4) : ∃ b : UInt8, (un x : Int) / 2 ^ (24 - 8 * k) % 256 = (b.toNat : Int) ∧ Hid (UInt8.ofNat (x.toNat / 256 ^ (3 - k)) = b) := by
  obtain ⟨b, hb, HB⟩ := be_byte2 (un x) (3 - k)
  refine ⟨b, ?_, HB⟩
  rw [show 8 * (3 - k) = 24 - 8 * k from by omega] at hb
  exact hb

set_option maxRecDepth 100000 in
set_option maxHeartbeats 4000000 in
theorem ssum_calls {w : World} {p : Nat} {l : List UInt8} (hs : Strm w p l) (G : Glob w) (hw2 : 2 ≤ w.heap.size) (hlen : l.length ≤ 562949953421312) :
    Calls Tryd.prog 53 #[.pointer (some ⟨p, 0, none⟩)] w fun e w' => e = .returned (.agg (ba (sha l))) ∧ Ext Non w w' := by
  obtain ⟨b, h, part, hb, hh, hp, h1, h2, h3, h4⟩ := hs
  have ls := hb.big_load Tryd.underlying100 rfl (s_info _ (strm_size hh hp))
  have n1 := row_ne (zrow_size 32)
  have n2 := row_ne strm0_size
  have n3 := row_ne (strm_size (b := b) (n := l.length) hh hp)
  have X1 : Ext Non w ((w.alloc (.cells (zrow 32) 82)).alloc (.cells (strm b h part l.length) 100)) := ((Ext.refl _ _).alloc _).alloc _
  have B0 : Blk ((w.alloc (.cells (zrow 32) 82)).alloc (.cells (strm b h part l.length) 100)) w.heap.size 82 (zrow 32) := (Blk.new w _ _).alloc _
  have S1 : Strm ((w.alloc (.cells (zrow 32) 82)).alloc (.cells (strm b h part l.length) 100)) (w.heap.size + 1) l := by
    refine ⟨b, h, part, ?_, hh, hp, h1, h2, h3, h4⟩
    have := Blk.new (w.alloc (.cells (zrow 32) 82)) 100 (strm b h part l.length)
    rwa [World.size_alloc] at this
  have st : (bigStore 100 (.pointer (some ⟨w.heap.size + 1, 0, none⟩)) (.agg (strm b h part l.length))).run Tryd.prog ((w.alloc (.cells (zrow 32) 82)).alloc (.cells strm0 100)) = .ok () ((w.alloc (.cells (zrow 32) 82)).alloc (.cells (strm b h part l.length) 100)) := by
    have b2 := Blk.new (w.alloc (.cells (zrow 32) 82)) 100 strm0
    rw [World.size_alloc] at b2
    rw [Blk.big_store (P := Tryd.prog) b2 (by rw [strm0_size, strm_size hh hp]) (s_info _ (strm_size hh hp)) strm_all]
    have := World.setRow_alloc_new (w.alloc (.cells (zrow 32) 82)) strm0 (strm b h part l.length) 100
    rw [World.size_alloc] at this
    rw [this]
  have ls2 : ∀ cs t, (bigLoad 100 (.pointer (some ⟨p, 0, none⟩))).run Tryd.prog (w.alloc (.cells cs t)) = .ok (.agg (strm b h part l.length)) (w.alloc (.cells cs t)) := fun cs t =>
    (hb.alloc _).big_load Tryd.underlying100 rfl (s_info _ (strm_size hh hp))
  clear ls
  go_enter Tryd.func53, Tryd.ntmps53
  go_wp2_with fail
  clear st ls2 n1 n2 n3
  generalize (w.alloc (.cells (zrow 32) 82)).alloc (.cells (strm b h part l.length) 100) = w1 at *
  clear hb h1 h2 h3 hh hp
  have ctr := begin_strm S1 (G.extN X1)
  with_reducible refine Calls.mono ctr ?_
  clear ctr
  rintro e w2 ⟨⟨v0, rfl⟩, S2, x2⟩
  have X2 : Ext Non w w2 := X1.trans x2 (fun i hi h => by have h : i = w.heap.size + 1 := h; omega)
  have B2 := B0.ext x2 (fun h => by have h : w.heap.size = w.heap.size + 1 := h; omega)
  have hP2 := S2.lt
  clear B0 S1 x2
  obtain ⟨part2, hb2, hp2, ht2, _⟩ := S2
  have cn : w2.cell? ⟨w.heap.size + 1, 73, none⟩ = some (.int .u64 (l.length : Int)) := by rw [hb2.cell, strm_n (hk_len _ _) hp2]
  have hpad := pad_def l
  have S2 : Strm1 w2 (w.heap.size + 1) l := ⟨part2, hb2, hp2, ht2, h4⟩
  clear hb2 hp2 ht2
  obtain ⟨N, hN⟩ : ∃ N, l.length = N := ⟨_, rfl⟩
  rw [hN] at cn hpad hlen
  obtain ⟨z, hz⟩ : ∃ z, (119 - N % 64) % 64 = z := ⟨_, rfl⟩
  rw [hz] at hpad
  obtain ⟨sz, hsz⟩ : ∃ sz, 8 * N = sz := ⟨_, rfl⟩
  rw [hsz] at hpad
  obtain ⟨o, ho⟩ : ∃ o, N % 64 = o := ⟨_, rfl⟩
  have e1 : (N : Int) * 8 = (sz : Int) := by omega
  have e2 : (N : Int) % 64 = (o : Int) := by omega
  have e3 : ((119 : Int) - (o : Int)) % 64 = (z : Int) := by omega
  have hz64 : z < 64 := by omega
  have hsz4 : sz ≤ 4503599627370496 := by omega
  have e4 : ((1 : Int) + (z : Int)).toNat = z + 1 := by omega
  have zc : (zrow 72)[0]? = some (.int .u8 0) := rfl
  have ow0 := own_zeros2 w2 w2.heap.size (Nat.le_refl _) (z + 1) 72 (by omega) (by omega)
  obtain ⟨_, _, _, ow1, ox1⟩ := ow0.set_ (j := 0) (by rw [zeros_length]; omega) 128 128 rfl
  have ew : (w2.alloc (.cells (zrow 72) 5)).setCell (((some (⟨w2.heap.size, 0, none⟩ : Addr)).getD default).add 0) (.int .u8 128) = w2.alloc (.cells ((zrow 72).setIfInBounds 0 (.int .u8 128)) 5) := World.setCell_alloc_at _ _ _ _ _ rfl
  rw [ew] at ow1 ox1
  have ow2 : OwB (w2.alloc (.cells ((zrow 72).setIfInBounds 0 (.int .u8 128)) 5)) w2.heap.size (some ⟨w2.heap.size, 0, none⟩) 72 (128 :: zeros z) := ow1
  have HP := Lib.hid hpad
  have HS := Lib.hid hsz
  have HN := Lib.hid hN
  clear ow0 ow1 ox1 ew hpad hsz hN hz ho
  have z1 : (0 : Int) < (1 : Int) + (z : Int) := by omega
  have z2 : (1 : Int) + (z : Int) ≤ 72 := by omega
  have o119 : (o : Int) ≤ 63 := by omega
  have mk := run_mk8 w2 .i64 .i64 (1 + (z : Int)) 72 (by omega) z2 (by decide)
  rw [e4, show (72 : Int).toNat = 72 from rfl] at mk
  go_wp2_with fail
  go_loopw [5, 6] (fun f t wr => ∃ (k : Nat) (A : Option Addr) (c : Nat) (lf : List UInt8), k ≤ 8 ∧ t = .int .i64 (8 * (k : Int) - 8) ∧ f = .slice A lf.length c ∧ OwB wr w2.heap.size A c lf ∧ Hid (lf ++ be k sz = (128 :: zeros z) ++ be 8 sz) ∧ lf.length ≤ 72 ∧ Ext Non w2 wr) (fun _ t _ => (intOf t + 8).toNat)
  case atStart => exact ⟨8, _, _, 128 :: zeros z, by omega, rfl, by simp [zeros_length], ow2, rfl, by simp [zeros_length]; omega, (Ext.refl _ _).alloc _⟩
  case round =>
    clear ow2 cn e1 e2 e3 e4 mk zc
    obtain ⟨k, A, c, lf, hk, rfl, rfl, how, HF, hlf, hx⟩ := hrel
    cases k with
    | succ k =>
      have e5 : 8 * ((k + 1 : Nat) : Int) - 8 = 8 * (k : Int) := by omega
      rw [e5]
      obtain ⟨b8, hby, HB⟩ := be_byte2 sz k
      have hk8 : k < 8 := by omega
      have hbw : w2.heap.size ≤ wr.heap.size := hx.size
      have hxa : Ext Non wr (wr.alloc (.cells #[.int .u8 (b8.toNat : Int)] 5)) := (Ext.refl _ _).alloc _
      have t0 : (0 : Int) ≤ 8 * (k : Int) := by omega
      have t1 : (8 * (k : Int)).toNat ≤ 64 := by omega
      have t2 : min (8 * (k : Int)).toNat 64 = (8 * (k : Int)).toNat := by omega
      have t3 : 8 * (k : Int) < 64 := by omega
      go_wp2_with (at_builtin; refine wp_ap8 rfl (.tmp 31) (.tmp 36) rfl lf.length rfl (how.alloc _) rfl 1 1 rfl (rd_new1 wr _ b8) rfl (by simp; omega) (by simp; omega) ?_; intro A' c' w3 ho3 hx3 hob)
      have hl3 : (lf ++ [b8]).length = lf.length + 1 := by simp
      have hlk : lf.length + 1 ≤ 72 := by
        have := congrArg List.length HF.out
        simp [be_length, zeros_length] at this
        omega
      refine ⟨⟨k, A', c', lf ++ [b8], by omega, rfl, by rw [hl3], ho3, ?_, by omega, ?_⟩, by simp [intOf]; omega⟩
      · have := HF.out
        have hb := HB.out
        rw [be, hb] at this
        show (lf ++ [b8]) ++ be k sz = _
        rw [← this, List.append_assoc]
        rfl
      · exact (hx.transN hxa).trans hx3 (fun i hi h => by
          have := (how.lt (k := i) h).1
          omega)
    | zero =>
      have hF : lf = (128 :: zeros z) ++ be 8 sz := by have := HF.out; rwa [be, List.append_nil] at this
      have hpl : l ++ lf = pad l := by rw [HP.out, hF]
      have HPL := Lib.hid hpl
      have Sw := S2.extN hx
      have Gw := G.extN (X2.transN hx)
      have hlf2 : l.length + lf.length ≤ 1125899906842624 := by have := HN.out; omega
      have hD : ¬ (ob A = some (w.heap.size + 1)) := fun h => by have := (how.lt h).1; omega
      have hlc := how.len
      have e6 : 8 * ((0 : Nat) : Int) - 8 = -8 := by omega
      rw [e6]
      clear HF hF hpl
      go_wp2_with fail
      have ctr := write_calls Sw.strm Gw (by omega) c lf.length how.rd rfl hlc.1 hD hlf2
      with_reducible refine Calls.mono ctr ?_
      clear ctr
      rintro e w4 ⟨⟨v1, rfl⟩, S4, x4⟩
      rw [HPL.out] at S4
      have X4 : Ext Non w w4 := (X2.transN hx).trans x4 (fun i hi h => by have h : i = w.heap.size + 1 := h; omega)
      have B4 := (B2.extN_ hx).ext x4 (fun h => by have h : w.heap.size = w.heap.size + 1 := h; omega)
      obtain ⟨part4, hb4, _⟩ := S4
      rw [← shn_def] at hb4
      have hv := shn_len l
      have lh := load_h hv hb4
      have hsha := sha_def l
      have HSH := Lib.hid hsha
      obtain ⟨v, hvv⟩ : ∃ v, shn l = v := ⟨_, rfl⟩
      rw [hvv] at hv lh HSH
      rw [← outk_zero v] at B4
      clear hb4 hvv hsha Sw Gw hD how hx x4
      go_wp2_with fail
      clear lh
      go_loopw [42] (fun t wr => ∃ i : Nat, i ≤ 8 ∧ t = .int .i64 i ∧ Blk wr w.heap.size 82 (outk v (4 * i)) ∧ Ext Non w wr) (fun t _ => 8 - (intOf t).toNat)
      case atStart => exact ⟨0, by omega, rfl, B4, X4⟩
      case round =>
        clear B4 X4
        obtain ⟨i, hi, rfl, hg, hx⟩ := hrel
        by_cases hlt : i < 8
        · have ix := fun W => run_index_arr (P := Tryd.prog) W Tryd.underlying97 s32 (Tryd.isAgg35 W) (u32a v) .i64 (i : Int) i rfl hlt _ (u32a_get v i (by omega))
          have HG := flat4_get v i
          obtain ⟨x, hxv⟩ : ∃ x, v.getD i 0 = x := ⟨_, rfl⟩
          rw [hxv] at ix HG
          have HGH := Lib.hid HG
          clear HG hxv
          go_wp2_with fail
          obtain ⟨wo, hwo⟩ : ∃ wo : World, wo = wr := ⟨_, rfl⟩
          rw [← hwo] at hg hx ⊢
          clear hwo
          go_loopw [46] (fun t wr => ∃ k : Nat, k ≤ 4 ∧ t = .int .i64 k ∧ Blk wr w.heap.size 82 (outk v (4 * i + k)) ∧ Ext Non w wr) (fun t _ => 4 - (intOf t).toNat)
          case atStart => exact ⟨0, by omega, rfl, hg, hx⟩
          case round =>
            clear hg hx ix
            obtain ⟨k, hk, rfl, hg, hx⟩ := hrel
            by_cases hk4 : k < 4
            · obtain ⟨b8, hby, HB⟩ := byte32 x k hk4
              have hset := outk_set v (4 * i + k) b8 (by rw [HGH.out k (by omega) hk4]; exact HB.out)
              obtain ⟨y, hy⟩ := outk_any v (n := 4 * i + k) (j := 4 * i + k) (by omega)
              have hc := hg.cell (4 * i + k)
              rw [hy] at hc
              have hf := hg.frozen (4 * i + k)
              have hg2 := hg.set_ (4 * i + k) (.int .u8 (b8.toNat : Int))
              rw [hset] at hg2
              have hx2 : Ext Non w (wr.setCell ⟨w.heap.size, 4 * i + k, none⟩ (.int .u8 (b8.toNat : Int))) := hx.setCell (.inl (Nat.le_refl _)) _
              have t0 : (0 : Int) ≤ 24 - 8 * (k : Int) := by omega
              have t1 : ((4 : Int) * (i : Int) + (k : Int)).toNat = 4 * i + k := by omega
              have t2 : (4 : Int) * (i : Int) + (k : Int) < 32 := by omega
              have t3 : min (24 - 8 * (k : Int)).toNat 32 = (24 - 8 * (k : Int)).toNat := by omega
              clear hset hy
              go_wp2_with fail
              exact ⟨⟨k + 1, by omega, by go_num, hg2, hx2⟩, by simp [intOf]; omega⟩
            · obtain rfl : k = 4 := by omega
              rw [show 4 * i + 4 = 4 * (i + 1) from by omega] at hg
              go_wp2_with fail
              exact ⟨⟨i + 1, by omega, by go_num, hg, hx⟩, by simp [intOf]; omega⟩
        · obtain rfl : i = 8 := by omega
          have hl := hg.big_load Tryd.underlying82 rfl (o_info _ (outk_size v _))
          have hs := hg.big_store rfl (o_info _ (outk_size v _)) (outk_all v _)
          have hb2 := hg.setRow (outk v (4 * 8))
          have x2 : Ext Non w (wr.setRow w.heap.size (outk v (4 * 8))) := hx.setRow (.inl (Nat.le_refl _)) _
          have hlast := outk_last v hv
          rw [show 4 * 8 = 32 from rfl] at hl hs hb2 x2 
          have HLA := Lib.hid hlast
          clear hlast
          go_wp2
          refine bodyPost_ret (hb2.results Tryd.results53 _ rfl Tryd.underlying82 rfl (o_info _ (outk_size v _))) rfl ⟨?_, x2⟩
          rw [HSH.out, HLA.out]
end Go.Proofs.YtnmpfbffacljfaaDoor
