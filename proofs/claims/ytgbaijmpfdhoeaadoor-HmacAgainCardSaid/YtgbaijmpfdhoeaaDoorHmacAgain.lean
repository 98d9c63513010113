/- The law HmacAgain: the same again is the same, and what is handed in stays. -/
import Derived.Test.YtgbaijmpfdhoeaaDoorJoin
import Derived.Test.YtgbaijmpfdhoeaaDoorHmN
import Derived.Test.YtgbaijmpfdhoeaaDoorArr
namespace Go.Proofs.YtgbaijmpfdhoeaaDoor
open Go.RowKit

/-- A part whose first n bytes are turned; one that is turned as a whole. -/
def fl (q : Part) (n : Nat) : Part := ⟨q.a, q.c, xorf q.l 255 n⟩
def flA (q : Part) : Part := ⟨q.a, q.c, xall q.l 255⟩
def tl (P : List Part) (i : Nat) : List Part := (P.take i).map flA ++ P.drop i
def tin (P : List Part) (i : Nat) (q : Part) (n : Nat) : List Part := (P.take i).map flA ++ fl q n :: P.drop (i + 1)
theorem xall_len' (l : List UInt8) (c : UInt8) : (xall l c).length = l.length := by simp [xall]
theorem fl_zero (q : Part) : fl q 0 = q := by
  cases q
  simp [fl, xorf_zero]
theorem fl_all (q : Part) : fl q q.l.length = flA q := by
  cases q
  simp only [fl, flA]
  rw [xorf_all _ _ (Nat.le_refl _)]
theorem flA_flA (q : Part) : flA (flA q) = q := by
  obtain ⟨a, c, l⟩ := q
  simp only [flA, xall, List.map_map]
  congr 1
  conv => rhs; rw [← List.map_id l]
  apply List.map_congr_left
  intro x _
  simp [UInt8.xor_assoc]
theorem tl_in (P : List Part) (i : Nat) (h : i < P.length) : tl P i = tin P i P[i] 0 := by
  unfold tl tin
  rw [fl_zero, ← List.drop_eq_getElem_cons h]
theorem tin_end (P : List Part) (i : Nat) (h : i < P.length) : tin P i P[i] P[i].l.length = tl P (i + 1) := by
  unfold tl tin
  rw [fl_all, List.take_succ_eq_append_getElem h, List.map_append]
  simp
theorem tl_zero (P : List Part) : tl P 0 = P := rfl
theorem tl_all (P : List Part) : tl P P.length = P.map flA := by simp [tl]
theorem flA_val (q : Part) : (flA q).val = q.val := by simp [flA, Part.val, xall_len']
theorem fl_val (q : Part) (n : Nat) : (fl q n).val = q.val := by simp [fl, Part.val, xorf_len]
theorem mapA_val (P : List Part) : (P.map flA).map Part.val = P.map Part.val := by
  rw [List.map_map]
  exact List.map_congr_left (fun q _ => flA_val q)
theorem mapA_mapA (P : List Part) : (P.map flA).map flA = P := by
  rw [List.map_map]
  conv => rhs; rw [← List.map_id P]
  exact List.map_congr_left (fun q _ => flA_flA q)
/-- One byte of one part is written. -/
theorem Owns.turn {w : World} {base m : Nat} {P1 P2 : List Part} {q : Part} (h : Owns w base m (P1 ++ q :: P2)) (j : Nat) (hj : j < q.l.length) (b : UInt8) (n : Int) (hn : (b.toNat : Int) = n) :
    q.a.isSome = true ∧ (∃ u, w.cell? ((q.a.getD default).add j) = some u) ∧ w.frozen? ((q.a.getD default).add j) = false ∧
      Owns (w.setCell ((q.a.getD default).add j) (.int .u8 n)) base m (P1 ++ ⟨q.a, q.c, q.l.set j b⟩ :: P2) ∧ Ext (fun k => ob q.a = some k) w (w.setCell ((q.a.getD default).add j) (.int .u8 n)) := by
  obtain ⟨h1, h2, h3, h4, h5⟩ := (h.each q (by simp)).1.set_ hj b n hn
  refine ⟨h1, h2, h3, ⟨fun p hp => ?_, ?_⟩, h5⟩
  · have hap := h.apart
    rw [List.pairwise_append] at hap
    obtain ⟨_, hq, hx⟩ := hap
    rw [List.pairwise_cons] at hq
    rcases List.mem_append.1 hp with hp | hp
    · have := h.each p (by simp [hp])
      exact ⟨this.1.ext h5 (fun k hk hk' => hx p hp q (by simp) k hk hk'), this.2⟩
    · rcases List.mem_cons.1 hp with rfl | hp
      · exact ⟨h4, by rw [List.length_set]; exact (h.each q (by simp)).2⟩
      · have := h.each p (by simp [hp])
        exact ⟨this.1.ext h5 (fun k hk hk' => hq.1 p hp k hk' hk), this.2⟩
  · have hap := h.apart
    rw [List.pairwise_append] at hap ⊢
    obtain ⟨ha, hq, hx⟩ := hap
    rw [List.pairwise_cons] at hq
    refine ⟨ha, ?_, ?_⟩
    · rw [List.pairwise_cons]
      exact ⟨hq.1, hq.2⟩
    · intro p hp y hy
      rcases List.mem_cons.1 hy with rfl | hy
      · exact hx p hp q (by simp)
      · exact hx p hp y (by simp [hy])

theorem load_sha' {w : World} {g : Nat} {k m : List UInt8} (h : Blk w g 26 (ba (hm k m))) : (bigLoad 26 (.pointer (some ⟨g, 0, none⟩))).run Tryd.prog w = .ok (.agg (ba (hm k m))) w :=
  h.big_load Tryd.underlying26 rfl (o_info _ (by rw [ba_size, hm_len]))
set_option maxRecDepth 100000 in
set_option maxHeartbeats 16000000 in
theorem again_walk (w : World) (G : Glob w) (hw2 : 2 ≤ w.heap.size) (kk : List UInt8) (hkk : kk.length = 32) (lb : List UInt8) (hlb : lb.length ≤ maxLen) (A1 : Option Addr) (len cap : Nat) (hd : Dec Tryd.prog w 30 [.slice A1 len cap]) :
    Calls Tryd.prog 9 #[.agg (ba kk), .string (str lb), .slice A1 len cap] w fun e w' => e = .returned (.bool true) ∧ Below w.heap.size w w' := by
  obtain ⟨qs, hql, hlc, hcm, hqs, r1⟩ := hd.parts
  clear hd
  obtain ⟨n0, hn0⟩ : ∃ n, lb.length = n := ⟨_, rfl⟩
  obtain ⟨k0, hk0, hk0a, hk0b, _⟩ := min_at n0 100 (by omega)
  obtain ⟨a, ha⟩ : ∃ l, lb.take k0 = l := ⟨_, rfl⟩
  have la : a.length = k0 := by rw [← ha]; simp; omega
  have hz : (str lb).size = n0 := by rw [str_size, hn0]
  have hx : (str lb).extract 0 k0 = str a := by rw [str_extract, List.drop_zero, ha]
  have ia : (k0 : Int) ≤ (n0 : Int) := by omega
  clear ha hlb hn0
  have n1 := row_ne (n := 31) (a := ba kk) (by rw [ba_size, hkk])
  have z2 := zrow32_ne
  have z3 := zrow16_ne
  have X0 : Ext Non w (w.alloc (.cells (ba kk) 29)) := (Ext.refl Non w).alloc _
  have K0 := Blk.new w 29 (ba kk)
  have sK := fun W g => run_arr_all (P := Tryd.prog) W Tryd.underlying29 s8 g 0 (by decide)
  go_enter Tryd.func9, Tryd.ntmps9
  go_wp2_with fail
  have ctr := shown_calls (G.extN X0) (by rw [World.size_alloc]; omega)
  with_reducible refine Calls.mono ctr ?_
  clear ctr
  rintro e w1 ⟨rfl, x1⟩
  have K1 := K0.extN_ x1
  have X1 := X0.transN x1
  clear x1 X0 K0
  go_wp2_with fail
  clear hx hz
  have ctr := joined_calls A1 len cap hlc hcm X1 qs hql hqs r1
  with_reducible refine Calls.mono ctr ?_
  clear ctr
  rintro e w3 ⟨ps, k, A, c, T, d, rfl, hpl, hk5, M, o, ot, x3⟩
  have X3 := X1.transN x3
  have K3 := K1.extN_ x3
  have P3 := M.parts o
  have hcap : k ≤ c := by have := o.len.1; rw [List.length_map, hpl] at this; exact this
  have hall : (allOf ps).length ≤ 1000 := Nat.le_trans M.all (by rw [hpl]; exact Nat.mul_le_mul_left 200 hk5)
  have hw3 := X3.size
  have hw1 := X1.size
  have hps : ∀ q ∈ ps, q.l.length ≤ 1000 := fun q hq => Nat.le_trans (M.each q hq).2 (by decide)
  clear hqs r1 hql x3 K1
  go_wp2_with fail
  have ctr := mac_calls (G.extN X3) (by omega) 32 32 ((rd_ba K3).imp (fun i hi _ => hi)) hkk (Nat.le_refl _) (by omega) k c P3 hpl hcap (by omega) (by omega)
  with_reducible refine Calls.mono ctr ?_
  clear ctr
  rintro e w4 ⟨rfl, x4⟩
  have y4 : Ext Non w3 (w4.alloc (.cells (ba (hm kk (allOf ps))) 26)) := x4.alloc _
  have B4 := Blk.new w4 26 (ba (hm kk (allOf ps)))
  have X4 := X3.transN y4
  have K4 := K3.extN_ y4
  have o4 := OwV.extN o y4
  have t4 := OwV.extN ot y4
  have M4 := M.extN y4
  have P4 := M4.parts o4
  have lk := K4.big_load Tryd.underlying29 rfl (key_info _ (by rw [ba_size, hkk]))
  have hw4 := X4.size
  clear x4 X3 K3 o ot M P3 y4
  go_wp2_with fail
  clear lk
  have ctr := derive_calls (G.extN X4) (by omega) kk hkk a (by omega) k c P4 hpl hcap (by omega) hps
  with_reducible refine Calls.mono ctr ?_
  clear ctr
  rintro e w5 ⟨rfl, x5⟩
  obtain ⟨msg, hmsg⟩ : ∃ m, dmsg a (ps.map Part.l) = m := ⟨_, rfl⟩
  rw [hmsg]
  have y5 : Ext Non (w4.alloc (.cells (ba (hm kk (allOf ps))) 26)) (w5.alloc (.cells (ba (hm kk msg)) 29)) := x5.alloc _
  have D5 := Blk.new w5 29 (ba (hm kk msg))
  have B5 := B4.extN_ y5
  have X5 := X4.transN y5
  have K5 := K4.extN_ y5
  have o5 := OwV.extN o4 y5
  have t5 := OwV.extN t4 y5
  have M5 := M4.extN y5
  have P5 := M5.parts o5
  have lk := K5.big_load Tryd.underlying29 rfl (key_info _ (by rw [ba_size, hkk]))
  have hw5 := X5.size
  clear x5 X4 K4 o4 t4 M4 P4 y5 B4
  go_wp2_with fail
  have ctr := short_calls (G.extN X5) (by omega) kk hkk k c P5 hpl hcap (by omega) (by omega)
  with_reducible refine Calls.mono ctr ?_
  clear ctr
  rintro e w6 ⟨rfl, x6⟩
  have y6 : Ext Non (w5.alloc (.cells (ba (hm kk msg)) 29)) (w6.alloc (.cells (ba ((hm kk (allOf ps)).take 16)) 35)) := x6.alloc _
  have E := Blk.new w6 35 (ba ((hm kk (allOf ps)).take 16))
  have D := D5.extN_ y6
  have B := B5.extN_ y6
  have X := X5.transN y6
  have K := K5.extN_ y6
  have o := OwV.extN o5 y6
  have ot := OwV.extN t5 y6
  have M := M5.extN y6
  clear x6 X5 K5 o5 t5 M5 P5 y6 B5 D5 lk
  go_wp2_with fail
  generalize w6.alloc (.cells (ba ((hm kk (allOf ps)).take 16)) 35) = u at *
  generalize w6.heap.size = g3 at *
  generalize w5.heap.size = g2 at *
  generalize w4.heap.size = g1 at *
  obtain ⟨S, hS⟩ : ∃ S : Nat → Prop, S = fun k => ∃ q ∈ ps, ob q.a = some k := ⟨_, rfl⟩
  have sb : ∀ g, S g → w.heap.size ≤ g := fun g h => by
    rw [hS] at h
    obtain ⟨q, hq, he⟩ := h
    have := ((M.each q hq).1.lt he).1
    omega
  have nB : ∀ g t cs, Blk u g t cs → t ≠ 5 → ¬ S g := fun g t cs hb ht h => by
    rw [hS] at h
    obtain ⟨q, hq, he⟩ := h
    obtain ⟨cs', hb', _⟩ := (M.each q hq).1.blk he
    exact Blk.ne_ hb hb' ht rfl
  have nA : ∀ g, ob A = some g → ¬ S g := fun g hg h => by
    obtain ⟨cs, hb⟩ := OwV.blk o hg
    exact nB g _ _ hb (by decide) h
  have nT : ∀ g, ob T = some g → ¬ S g := fun g hg h => by
    obtain ⟨cs, hb⟩ := OwV.blk ot hg
    exact nB g _ _ hb (by decide) h
  have nG : ∀ g, g < 2 → ¬ S g := fun g hg h => by have := sb g h; omega
  have sP : ∀ q ∈ ps, ∀ k, ob q.a = some k → S k := fun q hq k hk => by
    rw [hS]
    exact ⟨q, hq, hk⟩
  clear hS
  have hps' : ∀ q ∈ ps, q.l.length ≤ 1000 := hps
  have sP' := sP
  have o' := o
  go_loopw [14] (fun i wr => ∃ j : Nat, j ≤ k ∧ i = .int .i64 j ∧ Ext S u wr ∧ Owns wr w1.heap.size 200 (tl ps j)) (fun i _ => k - (intOf i).toNat)
  case atStart => exact ⟨0, by omega, rfl, Ext.refl _ _, M⟩
  case round =>
    obtain ⟨j, hj, rfl, Z, MZ⟩ := hrel
    by_cases hlt : j < k
    · have hjp : j < ps.length := by rw [hpl]; exact hlt
      have e1 : (ps.map Part.val)[j]? = some (.slice ps[j].a ps[j].l.length ps[j].c) := by rw [List.getElem?_map, List.getElem?_eq_getElem hjp]; rfl
      rw [tl_in ps j hjp] at MZ
      have hqm : ps[j] ∈ ps := List.getElem_mem hjp
      have hend := tin_end ps j hjp
      have hl200 := hps' ps[j] hqm
      have sq := sP' ps[j] hqm
      generalize ps[j] = q at *
      obtain ⟨qa, qc, ql⟩ := q
      dsimp only at *
      obtain ⟨L, hL⟩ : ∃ L, ql.length = L := ⟨_, rfl⟩
      rw [hL] at e1 hend hl200
      have i1 : (j : Int) < (k : Int) := by omega
      have wj : IntKind.i64.wrap (j : Int) = (j : Int) := by rw [IntKind.wrap_i64]; omega
      have SA := (OwV.rd o'|>.ix e1).1
      have ca : ∀ W, Ext S u W → W.cell? ((A.getD default).add j) = some (.slice qa L qc) := fun W hW => ((OwV.ext o' hW nA).rd.ix e1).2
      go_wp2_with fail
      go_loopw [15] (fun i wr => ∃ n : Nat, n ≤ L ∧ i = .int .i64 n ∧ Ext S u wr ∧ Owns wr w1.heap.size 200 (tin ps j ⟨qa, qc, ql⟩ n)) (fun i _ => L - (intOf i).toNat)
      case atStart => exact ⟨0, by omega, rfl, Z, MZ⟩
      case round =>
        clear Z MZ
        obtain ⟨n, hn, rfl, Z2, MZ2⟩ := hrel
        have c1 := ca _ Z2
        by_cases hnl : n < L
        · have n1' : (n : Int) < (L : Int) := by omega
          have wn : IntKind.i64.wrap (n : Int) = (n : Int) := by rw [IntKind.wrap_i64]; omega
          obtain ⟨hxg, hxs⟩ := xorf_get ql 255 (k := n) (by omega)
          obtain ⟨x, hx⟩ : ∃ x, ql.getD n 0 = x := ⟨_, rfl⟩
          rw [hx] at hxg hxs
          obtain ⟨y, hy⟩ : ∃ y, x ^^^ 255 = y := ⟨_, rfl⟩
          rw [hy] at hxs
          have ex : bits .xor .u8 (x.toNat : Int) 255 = (y.toNat : Int) := by rw [← hy]; exact u8_xor x 255
          have hcell := ((MZ2.each (fl ⟨qa, qc, ql⟩ n) (by simp [tin])).1.rd).ix (k := n) (u := .int .u8 (x.toNat : Int)) (by rw [← hxg, bvs_get _ n (by simp only [fl]; rw [xorf_len]; omega)]; simp [fl, List.getD, xorf_len, show n < ql.length from by omega])
          obtain ⟨hAs, ⟨uu, hcc⟩, hfr, MN, xN⟩ := MZ2.turn n (by simp only [fl]; rw [xorf_len]; omega) y _ rfl
          have MN' : Owns (wr.setCell ((qa.getD default).add n) (.int .u8 (y.toNat : Int))) w1.heap.size 200 (tin ps j ⟨qa, qc, ql⟩ (n + 1)) := by
            have := MN
            simp only [fl] at this
            rw [hxs] at this
            exact this
          have ZN : Ext S u (wr.setCell ((qa.getD default).add n) (.int .u8 (y.toNat : Int))) := Z2.trans xN (fun i _ h => sq i h)
          have cx1 : wr.cell? ((qa.getD default).add n) = some (.int .u8 (x.toNat : Int)) := hcell.2
          have hA2 : qa.isSome = true := hAs
          have hfr' : wr.frozen? ((qa.getD default).add n) = false := hfr
          clear hfr
          have HMN := Lib.hid MN'
          have HZN := Lib.hid ZN
          clear hxg hxs hx hy hcell MN MZ2 MN' ZN xN hcc hAs
          go_wp2_with fail
          refine wp_region_tail 14 (by kernel_rfl) (by kernel_rfl) ?_
          simp only [List.take_succ_cons, List.take_zero, List.drop_succ_cons, List.drop_zero]
          repeat still_step
          refine wpStill_nil ?_
          go_wp2_with fail
          exact ⟨⟨n + 1, by omega, by go_num, HZN.out.drew, HMN.out.extN (Ext.refl Non _).drew⟩, by simp [intOf]; omega⟩
        · obtain rfl : n = L := by omega
          have n1' : ¬ (n : Int) < (n : Int) := by omega
          have MJ : Owns wr w1.heap.size 200 (tl ps (j + 1)) := by rw [← hend]; exact MZ2
          clear MZ2
          go_wp2_with fail
          exact ⟨⟨j + 1, by omega, by go_num, Z2, MJ⟩, by simp [intOf]; omega⟩
    · obtain rfl : k = j := by omega
      have i9 : ¬ (k : Int) < (k : Int) := by omega
      obtain ⟨fs, hfs⟩ : ∃ fs, ps.map flA = fs := ⟨_, rfl⟩
      have MF : Owns wr w1.heap.size 200 fs := by
        rw [← hpl, tl_all, hfs] at MZ
        exact MZ
      have hfl : fs.length = k := by rw [← hfs, List.length_map, hpl]
      have hfv : fs.map Part.val = ps.map Part.val := by rw [← hfs]; exact mapA_val ps
      have hff : fs.map flA = ps := by rw [← hfs]; exact mapA_mapA ps
      have oz : OwV 22 wr w1.heap.size A c (fs.map Part.val) := by rw [hfv]; exact OwV.ext o Z nA
      have Pz := MF.parts oz
      have Kz := K.ext Z (nB _ _ _ K (by decide))
      have Gz : Glob wr := (G.extN X).ext Z (nG _ (by decide)) (nG _ (by decide))
      have hzz : 2 ≤ wr.heap.size := by have := Z.size; have := X.size; omega
      have hallf : (allOf fs).length ≤ 1000 := Nat.le_trans MF.all (by rw [hfl]; exact Nat.mul_le_mul_left 200 hk5)
      go_wp2_with fail
      have ctr := mac_calls Gz hzz 32 32 ((rd_ba Kz).imp (fun i hi _ => hi)) hkk (Nat.le_refl _) (by omega) k c Pz hfl hcap (by omega) (by omega)
      with_reducible refine Calls.mono ctr ?_
      clear ctr
      rintro e w8 ⟨rfl, x8⟩
      have Z8 := Z.transN x8
      have M8 := MF.extN x8
      have hps' : ∀ q ∈ fs, q.l.length ≤ 1000 := fun q hq => Nat.le_trans (MF.each q hq).2 (by decide)
      have sP' : ∀ q ∈ fs, ∀ k, ob q.a = some k → S k := fun q hq k hk => by
        rw [← hfs] at hq
        obtain ⟨p, hp, rfl⟩ := List.mem_map.1 hq
        exact sP p hp k hk
      have o' : OwV 22 u w1.heap.size A c (fs.map Part.val) := by rw [hfv]; exact o
      clear Pz Kz Gz hzz hallf oz MF MZ Z x8 hfv
      go_wp2_with fail
      go_loopw [16] (fun i wr => ∃ j : Nat, j ≤ k ∧ i = .int .i64 j ∧ Ext S u wr ∧ Owns wr w1.heap.size 200 (tl fs j)) (fun i _ => k - (intOf i).toNat)
      case atStart => exact ⟨0, by omega, rfl, Z8, M8⟩
      case round =>
        obtain ⟨j, hj, rfl, Z, MZ⟩ := hrel
        by_cases hlt : j < k
        · have hjf : j < fs.length := by rw [hfl]; exact hlt
          have hjps : j < ps.length := by omega
          have hpj : ps[j].l = xall fs[j].l 255 := by
            have : ps[j] = flA fs[j] := by
              simp only [← hff]
              rw [List.getElem_map]
            rw [this]
            rfl
          have et : (ps.map ptxt)[j]? = some (.string (str (xall fs[j].l 255))) := by rw [List.getElem?_map, List.getElem?_eq_getElem hjps, ← hpj]; rfl
          clear hpj
          have hjp : j < fs.length := by rw [hfl]; exact hlt
          have e1 : (fs.map Part.val)[j]? = some (.slice fs[j].a fs[j].l.length fs[j].c) := by rw [List.getElem?_map, List.getElem?_eq_getElem hjp]; rfl
          rw [tl_in fs j hjp] at MZ
          have hqm : fs[j] ∈ fs := List.getElem_mem hjp
          have hend := tin_end fs j hjp
          have hl200 := hps' fs[j] hqm
          have sq := sP' fs[j] hqm
          generalize fs[j] = q at *
          obtain ⟨qa, qc, ql⟩ := q
          dsimp only at *
          obtain ⟨L, hL⟩ : ∃ L, ql.length = L := ⟨_, rfl⟩
          rw [hL] at e1 hend hl200
          have i1 : (j : Int) < (k : Int) := by omega
          have wj : IntKind.i64.wrap (j : Int) = (j : Int) := by rw [IntKind.wrap_i64]; omega
          have SA := (OwV.rd o'|>.ix e1).1
          have ca : ∀ W, Ext S u W → W.cell? ((A.getD default).add j) = some (.slice qa L qc) := fun W hW => ((OwV.ext o' hW nA).rd.ix e1).2
          go_wp2_with fail
          go_loopw [17] (fun i wr => ∃ n : Nat, n ≤ L ∧ i = .int .i64 n ∧ Ext S u wr ∧ Owns wr w1.heap.size 200 (tin fs j ⟨qa, qc, ql⟩ n)) (fun i _ => L - (intOf i).toNat)
          case atStart => exact ⟨0, by omega, rfl, Z, MZ⟩
          case round =>
            clear Z MZ
            obtain ⟨n, hn, rfl, Z2, MZ2⟩ := hrel
            have c1 := ca _ Z2
            by_cases hnl : n < L
            · have n1' : (n : Int) < (L : Int) := by omega
              have wn : IntKind.i64.wrap (n : Int) = (n : Int) := by rw [IntKind.wrap_i64]; omega
              obtain ⟨hxg, hxs⟩ := xorf_get ql 255 (k := n) (by omega)
              obtain ⟨x, hx⟩ : ∃ x, ql.getD n 0 = x := ⟨_, rfl⟩
              rw [hx] at hxg hxs
              obtain ⟨y, hy⟩ : ∃ y, x ^^^ 255 = y := ⟨_, rfl⟩
              rw [hy] at hxs
              have ex : bits .xor .u8 (x.toNat : Int) 255 = (y.toNat : Int) := by rw [← hy]; exact u8_xor x 255
              have hcell := ((MZ2.each (fl ⟨qa, qc, ql⟩ n) (by simp [tin])).1.rd).ix (k := n) (u := .int .u8 (x.toNat : Int)) (by rw [← hxg, bvs_get _ n (by simp only [fl]; rw [xorf_len]; omega)]; simp [fl, List.getD, xorf_len, show n < ql.length from by omega])
              obtain ⟨hAs, ⟨uu, hcc⟩, hfr, MN, xN⟩ := MZ2.turn n (by simp only [fl]; rw [xorf_len]; omega) y _ rfl
              have MN' : Owns (wr.setCell ((qa.getD default).add n) (.int .u8 (y.toNat : Int))) w1.heap.size 200 (tin fs j ⟨qa, qc, ql⟩ (n + 1)) := by
                have := MN
                simp only [fl] at this
                rw [hxs] at this
                exact this
              have ZN : Ext S u (wr.setCell ((qa.getD default).add n) (.int .u8 (y.toNat : Int))) := Z2.trans xN (fun i _ h => sq i h)
              have cx1 : wr.cell? ((qa.getD default).add n) = some (.int .u8 (x.toNat : Int)) := hcell.2
              have hA2 : qa.isSome = true := hAs
              have hfr' : wr.frozen? ((qa.getD default).add n) = false := hfr
              clear hfr
              have HMN := Lib.hid MN'
              have HZN := Lib.hid ZN
              clear hxg hxs hx hy hcell MN MZ2 MN' ZN xN hcc hAs
              go_wp2_with fail
              refine wp_region_tail 14 (by kernel_rfl) (by kernel_rfl) ?_
              simp only [List.take_succ_cons, List.take_zero, List.drop_succ_cons, List.drop_zero]
              repeat still_step
              refine wpStill_nil ?_
              go_wp2_with fail
              exact ⟨⟨n + 1, by omega, by go_num, HZN.out.drew, HMN.out.extN (Ext.refl Non _).drew⟩, by simp [intOf]; omega⟩
            · obtain rfl : n = L := by omega
              have n1' : ¬ (n : Int) < (n : Int) := by omega
              have MJ : Owns wr w1.heap.size 200 (tl fs (j + 1)) := by rw [← hend]; exact MZ2
              clear MZ2
              have hmem : fl ⟨qa, qc, ql⟩ n ∈ tl fs (j + 1) := by rw [← hend]; simp [tin]
              have mj := (MJ.each _ hmem).1
              simp only [fl] at mj
              rw [xorf_all _ _ (by omega)] at mj
              have hxl : (xall ql 255).length = n := by rw [xall_len']; exact hL
              have cv : ∀ W, Ext Non wr W → (convert 22 9 (.slice qa n qc)).run Tryd.prog W = .ok (.string (str (xall ql 255))) W := fun W hW =>
                run_convert_rd W 22 9 5 Tryd.underlying22 Tryd.underlying9 Tryd.underlying5 ((mj.extN hW).rd) n qc hxl
              have cA : ∀ W, Ext Non wr W → W.cell? ((A.getD default).add j) = some (.slice qa n qc) := fun W hW => ca W (Z2.transN hW)
              have ST := (OwV.rd ot |>.ix et).1
              have cT : ∀ W, Ext Non wr W → W.cell? ((T.getD default).add j) = some (.string (str (xall ql 255))) := fun W hW => ((OwV.ext ot (Z2.transN hW) nT).rd.ix et).2
              clear mj hmem hend et
              go_wp2_with fail
              refine wp_region_seq Non ((0, true) :: (1, true) :: (2, true) :: (3, true) :: (4, true) :: (5, true) :: (6, true) :: (7, true) :: (8, true) :: (9, true) :: []) (by kernel_rfl) (by kernel_rfl) (by kernel_rfl) ?_
              iterate 10 (refine wpSeq_quiet rfl rfl ?_; apply Exists.intro; refine ⟨?_, ?_⟩; (intro W hW; have u1 := cA W hW.drewL; have u2 := cT W hW.drewL; have u3 := cv W hW.drewL; go_simp; try with_reducible rfl); (intro K hK; simp only [Act.put, List.setIfInBounds_toArray, List.set_cons_zero, List.set_cons_succ]; refine hK _ ?_; clear hK K))
              refine wpSeq_end ?_
              clear cA cT cv
              have Z3 := Z2.drew
              have M3 := MJ.extN (Ext.refl Non wr).drew
              go_wp2_with fail
              exact ⟨⟨j + 1, by omega, by go_num, Z3, M3⟩, by simp [intOf]; omega⟩
        · obtain rfl : k = j := by omega
          have i8 : ¬ (k : Int) < (k : Int) := by omega
          have MF2 : Owns wr w1.heap.size 200 ps := by
            rw [← hfl, tl_all, hff] at MZ
            exact MZ
          have of := OwV.ext o Z nA
          have Kf := K.ext Z (nB _ _ _ K (by decide))
          have Bf := B.ext Z (nB _ _ _ B (by decide))
          have Df := D.ext Z (nB _ _ _ D (by decide))
          have Ef := E.ext Z (nB _ _ _ E (by decide))
          have Gf : Glob wr := (G.extN X).ext Z (nG _ (by decide)) (nG _ (by decide))
          have hzf : 2 ≤ wr.heap.size := by have := Z.size; have := X.size; omega
          have Xf : Ext Non w wr := X.trans Z (fun i hi h => by have := sb i h; omega)
          have lk := fun W (x : Ext Non wr W) => (Kf.extN_ x).big_load (P := Tryd.prog) Tryd.underlying29 rfl (key_info _ (by rw [ba_size, hkk]))
          have lB := fun W (x : Ext Non wr W) => load_sha' (Bf.extN_ x)
          have lD := fun W (x : Ext Non wr W) => (Df.extN_ x).big_load (P := Tryd.prog) Tryd.underlying29 rfl (key_info _ (by rw [ba_size, hm_len]))
          have lE := fun W (x : Ext Non wr W) => (Ef.extN_ x).big_load (P := Tryd.prog) Tryd.underlying35 rfl (mac_info _ (by rw [ba_size, m16_len]))
          clear M8 Z8 MZ Z o' B D E K o ot M nA nT nB nG sb sP sP' hps'
          go_wp2_with fail
          have Pf := MF2.parts of
          have e0 : (hm kk (allOf ps) == hm kk (allOf ps)) = true := beq_self_eq_true _
          have e1 : (hm kk msg == hm kk msg) = true := beq_self_eq_true _
          have e2 : ((hm kk (allOf ps)).take 16 == (hm kk (allOf ps)).take 16) = true := beq_self_eq_true _
          refine wp_region_seq Non ((0, true) :: (1, true) :: (2, true) :: (3, true) :: (5, true) :: (4, false) :: (6, true) :: (7, true) :: (8, true) :: (9, true) :: (10, true) :: (11, true) :: (13, true) :: (12, false) :: (14, true) :: (15, true) :: (16, true) :: (17, true) :: (18, true) :: (20, true) :: (19, false) :: (21, true) :: (22, true) :: (23, true) :: []) (by kernel_rfl) (by kernel_rfl) (by kernel_rfl) ?_
          iterate 5 (refine wpSeq_quiet rfl rfl ?_; apply Exists.intro; refine ⟨?_, ?_⟩; (intro W hW; have u1 := lB W hW.drewL; go_simp; try with_reducible rfl); (intro K hK; simp only [Act.put, List.setIfInBounds_toArray, List.set_cons_zero, List.set_cons_succ]; refine hK _ ?_; clear hK K))
          refine wpSeq_call rfl rfl (fun K hK => ?_)
          go_simp
          have ctr := mac_calls (w := wr.drew) (Gf.extN (Ext.refl Non wr).drew) hzf 32 32 ((rd_ba Kf.drew).imp (fun i hi _ => hi)) hkk (Nat.le_refl _) (by omega) k c ((MF2.extN (Ext.refl Non wr).drew).parts (OwV.extN of (Ext.refl Non wr).drew)) hpl hcap (by omega) (by omega)
          with_reducible refine Calls.mono ctr ?_
          clear ctr
          rintro e w9 ⟨rfl, x9⟩
          go_simp
          refine hK _ _ x9 ?_
          clear hK K
          have y9 := (Ext.refl Non wr).drew.transN x9
          iterate 7 (refine wpSeq_quiet rfl rfl ?_; apply Exists.intro; refine ⟨?_, ?_⟩; (intro W hW; have u1 := lk W (y9.transN hW); have u2 := lD W (y9.transN hW); go_simp; try with_reducible rfl); (intro K hK; simp only [Act.put, List.setIfInBounds_toArray, List.set_cons_zero, List.set_cons_succ]; refine hK _ ?_; clear hK K))
          refine wpSeq_call rfl rfl (fun K hK => ?_)
          go_simp
          have ctr := derive_calls (Gf.extN y9) (Nat.le_trans hzf y9.size) kk hkk a (by omega) k c ((MF2.extN y9).parts (OwV.extN of y9)) hpl hcap (by omega) hps
          with_reducible refine Calls.mono ctr ?_
          clear ctr
          rintro e w10 ⟨rfl, x10⟩
          go_simp
          refine hK _ _ x10 ?_
          clear hK K
          have y10 := y9.transN x10
          iterate 6 (refine wpSeq_quiet rfl rfl ?_; apply Exists.intro; refine ⟨?_, ?_⟩; (intro W hW; have u1 := lk W (y10.transN hW); have u2 := lE W (y10.transN hW); go_simp; try with_reducible rfl); (intro K hK; simp only [Act.put, List.setIfInBounds_toArray, List.set_cons_zero, List.set_cons_succ]; refine hK _ ?_; clear hK K))
          refine wpSeq_call rfl rfl (fun K hK => ?_)
          go_simp
          have ctr := short_calls (Gf.extN y10) (Nat.le_trans hzf y10.size) kk hkk k c ((MF2.extN y10).parts (OwV.extN of y10)) hpl hcap (by omega) (by omega)
          with_reducible refine Calls.mono ctr ?_
          clear ctr
          rintro e w11 ⟨rfl, x11⟩
          go_simp
          refine hK _ _ x11 ?_
          clear hK K
          have y11 := y10.transN x11
          iterate 3 (refine wpSeq_quiet rfl rfl ?_; apply Exists.intro; refine ⟨?_, ?_⟩; (intro W hW; go_simp; try with_reducible rfl); (intro K hK; simp only [Act.put, List.setIfInBounds_toArray, List.set_cons_zero, List.set_cons_succ]; refine hK _ ?_; clear hK K))
          refine wpSeq_end ?_
          have Xe := Xf.transN y11
          go_wp2_with fail
          go_ret
          exact ⟨rfl, Xe.belowN⟩
end Go.Proofs.YtgbaijmpfdhoeaaDoor
