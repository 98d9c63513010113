/- The law HmacRecipe: a code is two sums; for any two rows of bytes. -/
import Derived.Test.YtgbaijmpfdhoeaaDoorHmN
import Derived.Test.YtgbaijmpfdhoeaaDoorSeqT
namespace Go.Proofs.YtgbaijmpfdhoeaaDoor
open Go.RowKit

/-- The key that fills a block: what is padded. -/
def kshort (key : List UInt8) : List UInt8 := if 64 < key.length then sha key else key
theorem kshort_len (key : List UInt8) : (kshort key).length ≤ 64 := by
  unfold kshort
  split
  · rw [sha_len]; decide
  · omega
theorem kpad_short (key : List UInt8) : kpad key = kshort key ++ zeros (64 - (kshort key).length) := rfl
theorem kpad_kshort (key : List UInt8) : kpad (kshort key) = kpad key := by
  have h := kshort_len key
  rw [kpad_short key]
  unfold kpad
  rw [if_neg (by omega)]
theorem hm_kshort (key m : List UInt8) : hm (kshort key) m = hm key m := by
  unfold hm
  rw [kpad_kshort]

/-- Two parts, as a slice literal has them. -/
theorem two_parts {w : World} {A B : Option Addr} {l m : List UInt8} {n c k d : Nat} (hr : Rd w (· < w.heap.size) A (bvs l)) (hn : l.length = n) (hc : n ≤ c) (hr' : Rd w (· < w.heap.size) B (bvs m)) (hn' : m.length = k) (hc' : k ≤ d) :
    (∀ q ∈ ([⟨A, c, l⟩, ⟨B, d, m⟩] : List Part), Rd w (· < w.heap.size) q.a (bvs q.l) ∧ q.l.length ≤ q.c) ∧ Hid ((([⟨A, c, l⟩, ⟨B, d, m⟩] : List Part).map Part.val).toArray = #[.slice A n c, .slice B k d]) ∧ Hid (allOf [⟨A, c, l⟩, ⟨B, d, m⟩] = l ++ m) := by
  refine ⟨fun q hq => ?_, ?_, ?_⟩
  · simp only [List.mem_cons, List.not_mem_nil, or_false] at hq
    rcases hq with rfl | rfl
    · exact ⟨hr, by show l.length ≤ c; omega⟩
    · exact ⟨hr', by show m.length ≤ d; omega⟩
  · show _ = _
    simp [Part.val, hn, hn']
  · show _ = _
    simp [allOf]
set_option maxRecDepth 100000 in
set_option maxHeartbeats 4000000 in
theorem recipe_walk (A0 : Option Addr) (n0 c0 : Nat) (l0 : List UInt8) (A1 : Option Addr) (n1 c1 : Nat) (l1 : List UInt8) (w : World) (G : Glob w) (hw2 : 2 ≤ w.heap.size)
    (hl0 : l0.length = n0) (hc0 : n0 ≤ c0) (r0 : Rd w (· < w.heap.size) A0 (bvs l0)) (hl1 : l1.length = n1) (hc1 : n1 ≤ c1) (r1 : Rd w (· < w.heap.size) A1 (bvs l1)) :
    Calls Tryd.prog 4 #[.slice A0 n0 c0, .slice A1 n1 c1] w fun e w' => e = .returned (.bool true) ∧ Below w.heap.size w w' := by
  obtain ⟨k0, hk0, hk0a, hk0b, _⟩ := min_at n0 200 (by omega)
  obtain ⟨a, ha⟩ : ∃ l, l0.take k0 = l := ⟨_, rfl⟩
  have ra : Rd w (· < w.heap.size) A0 (bvs a) := by rw [← ha, bvs_take5]; exact r0.take k0
  have la : a.length = k0 := by rw [← ha]; simp; omega
  have ma : k0 ≤ c0 := by omega
  have ia : (k0 : Int) ≤ (c0 : Int) := by omega
  clear ha r0 hl0
  obtain ⟨k1, hk1, hk1a, hk1b, _⟩ := min_at n1 500 (by omega)
  obtain ⟨b, hb⟩ : ∃ l, l1.take k1 = l := ⟨_, rfl⟩
  have rb : Rd w (· < w.heap.size) A1 (bvs b) := by rw [← hb, bvs_take5]; exact r1.take k1
  have lb : b.length = k1 := by rw [← hb]; simp; omega
  have mb : k1 ≤ c1 := by omega
  have ib : (k1 : Int) ≤ (c1 : Int) := by omega
  clear hb r1 hl1
  have z2 := zrow32_ne
  obtain ⟨pB, VB, EB⟩ := one_part rb lb mb
  have hbl : (allOf [⟨A1, c1, b⟩]).length ≤ 562949953421000 := by rw [EB.out]; omega
  go_enter Tryd.func4, Tryd.ntmps4
  go_wp2_with fail
  have ctr := shown_calls G hw2
  with_reducible refine Calls.mono ctr ?_
  clear ctr
  rintro e w1 ⟨rfl, x1⟩
  have O1 : OwB (w1.alloc (.cells #[] 5)) w1.heap.size (some ⟨w1.heap.size, 0, none⟩) 0 [] := World.ownsRow_made w1 #[] 0 (Nat.le_refl _) (by simp [maxLen]) rfl
  have X1 : Ext Non w (w1.alloc (.cells #[] 5)) := x1.alloc _
  have hs1 : w1.heap.size ≤ (w1.alloc (.cells #[] 5)).heap.size := by rw [World.size_alloc]; omega
  have hx1 := x1.size
  go_upto_if 28 with (at_builtin; refine wp_ap8 rfl (.tmp 23) (.tmp 24) rfl 0 rfl O1 rfl k0 c0 rfl (ra.extN X1) la (by simp; omega) hs1 ?_; intro A2 c2 w2 o2 x2 hob2)
  rw [List.nil_append] at o2
  have X2 : Ext Non w w2 := X1.trans x2 (fun i hi h => by
    have h : w1.heap.size = i := Option.some.inj h
    omega)
  have hw12 : w1.heap.size ≤ w2.heap.size := Nat.le_trans hs1 x2.size
  have ho2 := o2.len.1
  rw [la] at ho2
  clear X1 O1 hs1 x2 hob2 x1
  go_cut [6] from 28 (fun s6 wc => ∃ (A : Option Addr) (k c : Nat), s6 = .slice A k c ∧ (kshort a).length = k ∧ OwB wc w1.heap.size A c (kshort a) ∧ Ext Non w wc)
  case first =>
    by_cases h64 : 64 < k0
    · have i64 : (64 : Int) < (k0 : Int) := by omega
      have hks : kshort a = sha a := by unfold kshort; rw [if_pos (by omega)]
      have HKS := Lib.hid hks
      have sl := fun W g => run_arr_all (P := Tryd.prog) W Tryd.underlying26 s8 g 0 (by decide)
      obtain ⟨pO, VO, EO⟩ := one_part (w := w2) (o2.rd.imp (fun i hi _ => hi)) la ho2
      clear hks
      go_wp2_with fail
      have ctr := sumN_calls (Ext.refl Non w2) (G.extN X2) (by have := X2.size; omega) [⟨A2, c2, a⟩] pO 1 rfl (by rw [EO.out]; omega) (by decide) #[.slice A2 k0 c2] VO.out (Ext.refl Non _) a EO.out
      with_reducible refine Calls.mono ctr ?_
      clear ctr
      rintro e w3 ⟨rfl, x3⟩
      have X3 := (X2.alloc (.cells #[.slice A2 k0 c2] 22)).transN x3
      have hw3 : w1.heap.size ≤ w3.heap.size := by
        have h1 := x3.size
        rw [World.size_alloc] at h1
        omega
      have B4 := (Blk.new w3 26 (ba (sha a))).alloc (.cells #[] 5)
      have O4 : OwB ((w3.alloc (.cells (ba (sha a)) 26)).alloc (.cells #[] 5)) (w3.heap.size + 1) (some ⟨w3.heap.size + 1, 0, none⟩) 0 [] := by
        have := World.ownsRow_made (e := 5) (size := 1) (w3.alloc (.cells (ba (sha a)) 26)) #[] 0 (Nat.le_refl _) (by simp [maxLen]) rfl
        rw [World.size_alloc] at this
        exact this
      have X4 : Ext Non w ((w3.alloc (.cells (ba (sha a)) 26)).alloc (.cells #[] 5)) := (X3.alloc _).alloc _
      have hs4 : w3.heap.size + 1 ≤ ((w3.alloc (.cells (ba (sha a)) 26)).alloc (.cells #[] 5)).heap.size := by rw [World.size_alloc, World.size_alloc]; omega
      have e3 : (hm (sha a) b == hm a b) = true := by
        rw [← HKS.out, hm_kshort]
        exact beq_self_eq_true _
      clear x3 o2
      go_wp2_with (at_builtin; refine wp_ap8 rfl (.tmp 32) (.tmp 33) rfl 0 rfl O4 rfl 32 32 rfl (rd_ba B4) (sha_len a) (by rw [sha_len]; decide) hs4 ?_; intro A5 c5 w5 o5 x5 hob5)
      rw [List.nil_append] at o5
      have X5 : Ext Non w w5 := X4.trans x5 (fun i hi h => by
        have h : w3.heap.size + 1 = i := Option.some.inj h
        omega)
      have hc5 := o5.len.1
      rw [sha_len] at hc5
      have ctr := macN_calls X5 G hw2 [⟨A1, c1, b⟩] pB 1 rfl (by decide) #[.slice A1 k1 c1] VB.out (Ext.refl Non _) 32 c5 ((o5.alloc (.cells #[.slice A1 k1 c1] 22)).rd.imp (fun i hi _ => hi)) (sha_len a) hc5 (by decide) hbl b EB.out
      with_reducible refine Calls.mono ctr ?_
      clear ctr
      rintro e w6 ⟨rfl, x6⟩
      have y6 : Ext Non w5 w6 := ((Ext.refl Non w5).alloc (.cells #[.slice A1 k1 c1] 22)).transN x6
      have X6 := X5.transN y6
      have o6 := o5.extN y6
      clear x6 X5 o5 X4 O4 hs4 B4 x5 hob5 X3
      go_wp2_with fail
      have ctr := macN_calls X6 G hw2 [⟨A1, c1, b⟩] pB 1 rfl (by decide) #[.slice A1 k1 c1] VB.out (Ext.refl Non _) k0 c0 ((ra.extN (X6.alloc (.cells #[.slice A1 k1 c1] 22))).imp (fun k _ hk => Nat.lt_of_lt_of_le hk (X6.alloc (.cells #[.slice A1 k1 c1] 22)).size)) la ma (by omega) hbl b EB.out
      with_reducible refine Calls.mono ctr ?_
      clear ctr
      rintro e w7 ⟨rfl, x7⟩
      have y7 : Ext Non w6 w7 := ((Ext.refl Non w6).alloc (.cells #[.slice A1 k1 c1] 22)).transN x7
      have X7 := X6.transN y7
      have o7 := o6.extN y7
      go_wp2_with fail
      go_meet
      case rel => exact ⟨A5, 32, c5, by rfl, by rw [HKS.out]; exact sha_len a, by rw [HKS.out]; exact o7.lower (fun i hi => by have := (o7.lt hi).1; omega), X7⟩
    · have i64 : ¬ (64 : Int) < (k0 : Int) := by omega
      have hks : kshort a = a := by unfold kshort; rw [if_neg (by omega)]
      have HKS := Lib.hid hks
      clear hks
      go_wp2_with fail
      go_meet
      case rel => exact ⟨A2, k0, c2, rfl, by rw [HKS.out]; exact la, by rw [HKS.out]; exact o2, X2⟩
  case rest =>
    obtain ⟨A, k, c, rfl, hkl, o, X⟩ := hcut
    have hk64 := kshort_len a
    rw [hkl] at hk64
    have hkp : kpad a = kshort a ++ zeros (64 - k) := by rw [kpad_short, hkl]
    have HKP := Lib.hid hkp
    generalize kshort a = ks at *
    have B1 := (Blk.new wc 5 (zrow 64)).alloc (.cells (zrow 64) 5)
    have B2 := Blk.new (wc.alloc (.cells (zrow 64) 5)) 5 (zrow 64)
    rw [World.size_alloc] at B2
    have hwc := X.size
    have X2' : Ext Non w ((wc.alloc (.cells (zrow 64) 5)).alloc (.cells (zrow 64) 5)) := (X.alloc _).alloc _
    have o2' := (o.alloc (.cells (zrow 64) 5)).alloc (.cells (zrow 64) 5)
    have hmin : Nat.min k 64 = k := Nat.min_eq_left hk64
    obtain ⟨w3, hcp1, B3, x3⟩ := copy_ba (dst := zeros 64) B1 o2'.rd 64 k c k (zeros_length 64) hkl hmin.symm
    have e1 : ks.take k ++ (zeros 64).drop k = kpad a := by rw [HKP.out, List.take_of_length_le (by omega), zeros_drop]
    rw [e1] at B3
    have hoA : ∀ i, ob A = some i → i < wc.heap.size := fun i hi => (o.lt hi).2
    have o3 := o2'.ext x3 (fun i hi h => by have := hoA i hi; have h : i = wc.heap.size := h; omega)
    have C3 := B2.ext x3 (fun h => by have h : wc.heap.size + 1 = wc.heap.size := h; omega)
    have X3 : Ext Non w w3 := X2'.trans x3 (fun i hi h => by have h : i = wc.heap.size := h; omega)
    obtain ⟨w4, hcp2, C4, x4⟩ := copy_ba (dst := zeros 64) C3 o3.rd 64 k c k (zeros_length 64) hkl hmin.symm
    rw [e1] at C4
    have B4 := B3.ext x4 (fun h => by have h : wc.heap.size = wc.heap.size + 1 := h; omega)
    have X4 : Ext Non w w4 := X3.trans x4 (fun i hi h => by have h : i = wc.heap.size + 1 := h; omega)
    clear hkp B1 B2 X2' o2' B3 o3 C3 X3 x3 x4 o X hmin e1 hoA
    go_wp2_with fail
    clear hcp1 hcp2
    have hKL := kpad_len a
    generalize hg1 : wc.heap.size = g1 at *
    have hg1w : w.heap.size ≤ g1 := hwc
    go_loopw [10] (fun i wr => ∃ q : Nat, q ≤ 64 ∧ i = .int .i64 q ∧ Blk wr g1 5 (ba (xorf (kpad a) 54 q)) ∧ Blk wr (g1 + 1) 5 (ba (xorf (kpad a) 92 q)) ∧ Ext Non w wr) (fun i _ => 64 - (intOf i).toNat)
    case atStart => exact ⟨0, by omega, rfl, by rw [xorf_zero]; exact B4, by rw [xorf_zero]; exact C4, X4⟩
    case round =>
      clear B4 C4 X4
      obtain ⟨q, hq, rfl, B, C, X⟩ := hrel
      by_cases hlt : q < 64
      · obtain ⟨hg, hs⟩ := xorf_get (kpad a) 54 (k := q) (by omega)
        obtain ⟨hg', hs'⟩ := xorf_get (kpad a) 92 (k := q) (by omega)
        obtain ⟨x, hx⟩ : ∃ x, (kpad a).getD q 0 = x := ⟨_, rfl⟩
        obtain ⟨y, hy⟩ : ∃ y, x ^^^ 54 = y := ⟨_, rfl⟩
        obtain ⟨z, hz⟩ : ∃ z, x ^^^ 92 = z := ⟨_, rfl⟩
        rw [hx] at hg hs hg' hs'
        rw [hy] at hs
        rw [hz] at hs'
        have c1' : wr.cell? ⟨g1, q, none⟩ = some (.int .u8 (x.toNat : Int)) := by rw [B.cell, ba_get _ _ (by rw [xorf_len]; omega), hg]
        have f1 := B.frozen q
        have e1 : bits .xor .u8 (x.toNat : Int) 54 = (y.toNat : Int) := by rw [← hy]; exact u8_xor x 54
        have e2 : bits .xor .u8 (x.toNat : Int) 92 = (z.toNat : Int) := by rw [← hz]; exact u8_xor x 92
        have B2 := B.set_ q (.int .u8 (y.toNat : Int))
        rw [ba_set, hs] at B2
        have C1 := C.far (p := ⟨g1, q, none⟩) (by show g1 + 1 ≠ g1; omega) (.int .u8 (y.toNat : Int))
        have X2 : Ext Non w (wr.setCell ⟨g1, q, none⟩ (.int .u8 (y.toNat : Int))) := X.setCell (p := ⟨g1, q, none⟩) (.inl hg1w) _
        generalize hv : wr.setCell ⟨g1, q, none⟩ (.int .u8 (y.toNat : Int)) = v at B2 C1 X2
        have c2' : v.cell? ⟨g1 + 1, q, none⟩ = some (.int .u8 (x.toNat : Int)) := by rw [C1.cell, ba_get _ _ (by rw [xorf_len]; omega), hg']
        have f2 := C1.frozen q
        have C2 := C1.set_ q (.int .u8 (z.toNat : Int))
        rw [ba_set, hs'] at C2
        have B3 := B2.far (p := ⟨g1 + 1, q, none⟩) (by show g1 ≠ g1 + 1; omega) (.int .u8 (z.toNat : Int))
        have X3 : Ext Non w (v.setCell ⟨g1 + 1, q, none⟩ (.int .u8 (z.toNat : Int))) := X2.setCell (p := ⟨g1 + 1, q, none⟩) (.inl (Nat.le_succ_of_le hg1w)) _
        have i1 : (q : Int) < 64 := by omega
        clear hg hs hg' hs' hx hy hz B C X
        go_wp2_with fail
        exact ⟨⟨q + 1, by omega, by go_num, B3, C2, X3⟩, by simp [intOf]; omega⟩
      · obtain rfl : q = 64 := by omega
        rw [xorf_all _ _ (by omega)] at B C
        go_wp2_with fail
        obtain ⟨pS, VS, ES⟩ := two_parts (w := wr) (A := some ⟨g1, 0, none⟩) (B := A1) (l := xall (kpad a) 54) (m := b) (n := 64) (c := 64) (k := k1) (d := c1) ((rd_ba B).imp (fun k hk _ => hk)) (by rw [xall_len, kpad_len]) (Nat.le_refl _) ((rb.extN X).imp (fun k _ hk => Nat.lt_of_lt_of_le hk X.size)) lb mb
        go_wp2_with fail
        have ctr := sumN_calls (w := wr) (v := wr) (Ext.refl Non wr) (G.extN X) (by have := X.size; omega) [⟨some ⟨g1, 0, none⟩, 64, xall (kpad a) 54⟩, ⟨A1, c1, b⟩] pS 2 rfl (by rw [ES.out]; rw [List.length_append, xall_len, kpad_len]; omega) (by decide) #[.slice (some ⟨g1, 0, none⟩) 64 64, .slice A1 k1 c1] VS.out (Ext.refl Non _) (xall (kpad a) 54 ++ b) ES.out
        with_reducible refine Calls.mono ctr ?_
        clear ctr
        rintro e w5 ⟨rfl, x5⟩
        have y5 : Ext Non wr w5 := ((Ext.refl Non wr).alloc (.cells #[.slice (some ⟨g1, 0, none⟩) 64 64, .slice A1 k1 c1] 22)).transN x5
        obtain ⟨F, hF⟩ : ∃ F, sha (xall (kpad a) 54 ++ b) = F := ⟨_, rfl⟩
        have lF : F.length = 32 := by rw [← hF]; exact sha_len _
        have B6 := Blk.new w5 26 (ba F)
        have C6 := (C.extN_ y5).alloc (.cells (ba F) 26)
        have X6 : Ext Non w (w5.alloc (.cells (ba F) 26)) := (X.transN y5).alloc _
        have hst : (bigStore 26 (.pointer (some ⟨w5.heap.size, 0, none⟩)) (.agg (ba F))).run Tryd.prog (w5.alloc (.cells (zrow 32) 26)) = .ok () (w5.alloc (.cells (ba F) 26)) := by rw [← hF]; exact store_sha w5 _
        have hsh : sha (xall (kpad a) 92 ++ F) = hm a b := by rw [← hF]; rfl
        have HSH := Lib.hid hsh
        rw [hF]
        clear pS VS ES B C X x5 y5 hsh hF
        have sl := fun W g => run_arr_all (P := Tryd.prog) W Tryd.underlying26 s8 g 0 (by decide)
        go_upto_region 20 with (fail)
        generalize hu : w5.alloc (.cells (ba F) 26) = u at *
        generalize w5.heap.size = gf at *
        have Gu := G.extN X6
        have hu2 : 2 ≤ u.heap.size := by have := X6.size; omega
        have ru : Rd u (· < u.heap.size) A0 (bvs a) := (ra.extN X6).imp (fun k _ hk => Nat.lt_of_lt_of_le hk X6.size)
        have rbu : Rd u (· < u.heap.size) A1 (bvs b) := (rb.extN X6).imp (fun k _ hk => Nat.lt_of_lt_of_le hk X6.size)
        have rk : ∀ W, Ext Non u W → Rd W (· < W.heap.size) A0 (bvs a) := fun W x => (ru.extN x).imp (fun k _ hk => Nat.lt_of_lt_of_le hk x.size)
        obtain ⟨pB, VB, EB⟩ := one_part rbu lb mb
        obtain ⟨pS, VS, ES⟩ := two_parts (w := u) (A := some ⟨g1 + 1, 0, none⟩) (B := some ⟨gf, 0, none⟩) (l := xall (kpad a) 92) (m := F) (n := 64) (c := 64) (k := 32) (d := 32) ((rd_ba C6).imp (fun k hk _ => hk)) (by rw [xall_len, kpad_len]) (Nat.le_refl _) ((rd_ba B6).imp (fun k hk _ => hk)) lF (Nat.le_refl _)
        have hSl : (allOf [⟨some ⟨g1 + 1, 0, none⟩, 64, xall (kpad a) 92⟩, ⟨some ⟨gf, 0, none⟩, 32, F⟩]).length ≤ 562949953421312 := by rw [ES.out, List.length_append, xall_len, kpad_len]; omega
        have r0 : Ext Non u u := Ext.refl Non u
        clear ra rb hst
        refine wp_region_tree Non (.q 0 (.q 1 (.q 2 (.q 3 (.q 6 (.q 7 (.b 4 (.b 5 (.c 8 (.c 9 (.q 10 (.q 11 (.q 12 .stop))))) 8 (.c 5 (.c 9 (.q 10 (.q 11 (.q 12 .stop)))))) 8 (.c 4 (.c 5 (.c 9 (.q 10 (.q 11 (.q 12 .stop))))))))))))) (by kernel_rfl) (by kernel_rfl) (by kernel_rfl) ?_
        iterate 6 (refine wpTree_quiet rfl rfl ?_; apply Exists.intro; refine ⟨?_, ?_⟩; (intro W hW; go_simp; try with_reducible rfl); (intro K hK; simp only [Act.put, List.setIfInBounds_toArray, List.set_cons_zero, List.set_cons_succ]; refine hK _ ?_; clear hK K))
        refine wpTree_both rfl rfl rfl rfl ?_ ?_
        · intro K hK
          go_simp
          refine hK _ _ (Ext.allocD u _) ?_
          clear hK K
          refine wpTree_both rfl rfl rfl rfl ?_ ?_
          · have ctr := macN_calls (w := u) (v := u) r0 Gu hu2 [⟨A1, c1, b⟩] pB 1 rfl (by decide) #[.slice A1 k1 c1] VB.out ((Ext.refl Non (u.alloc (.cells #[.slice A1 k1 c1] 22))).drew) k0 c0 (rk _ (r0.alloc (.cells #[.slice A1 k1 c1] 22)).drew) la ma (by omega) hbl b EB.out
            try rw [World.size_alloc] at ctr
            intro K hK
            go_simp
            with_reducible refine Calls.mono ctr ?_
            clear ctr
            rintro e u2 ⟨rfl, x6⟩
            go_simp
            refine hK _ _ x6 ?_
            clear hK K
            have xu2 : Ext Non u u2 := (r0.alloc (.cells #[.slice A1 k1 c1] 22)).drew.transN x6
            refine wpTree_call rfl rfl (fun K hK => ?_)
            go_simp
            refine hK _ _ ((Ext.refl Non u2).alloc _) ?_
            clear hK K
            have ctr := sumN_calls (w := u) (v := u2) xu2 Gu hu2 [⟨some ⟨g1 + 1, 0, none⟩, 64, xall (kpad a) 92⟩, ⟨some ⟨gf, 0, none⟩, 32, F⟩] pS 2 rfl hSl (by decide) #[.slice (some ⟨g1 + 1, 0, none⟩) 64 64, .slice (some ⟨gf, 0, none⟩) 32 32] VS.out (Ext.refl Non (u2.alloc (.cells #[.slice (some ⟨g1 + 1, 0, none⟩) 64 64, .slice (some ⟨gf, 0, none⟩) 32 32] 22))) (xall (kpad a) 92 ++ F) ES.out
            rw [HSH.out] at ctr
            try rw [World.size_alloc] at ctr
            refine wpTree_call rfl rfl (fun K hK => ?_)
            go_simp
            with_reducible refine Calls.mono ctr ?_
            clear ctr
            rintro e u3 ⟨rfl, x7⟩
            go_simp
            refine hK _ _ x7 ?_
            clear hK K
            iterate 3 (refine wpTree_quiet rfl rfl ?_; apply Exists.intro; refine ⟨?_, ?_⟩; (intro W hW; go_simp; try with_reducible rfl); (intro K hK; simp only [Act.put, List.setIfInBounds_toArray, List.set_cons_zero, List.set_cons_succ]; refine hK _ ?_; clear hK K))
            refine wpTree_end ?_
            have X9 := X6.transN (Ext.transN (xu2.alloc (.cells #[.slice (some ⟨g1 + 1, 0, none⟩) 64 64, .slice (some ⟨gf, 0, none⟩) 32 32] 22)) x7)
            go_wp2_with fail
            go_ret
            exact ⟨by simp, X9.belowN⟩
          · intro K hK
            go_simp
            refine hK _ _ (Ext.allocD (u.alloc (.cells #[.slice A1 k1 c1] 22)) _) ?_
            clear hK K
            have ctr := macN_calls (w := u) (v := u) r0 Gu hu2 [⟨A1, c1, b⟩] pB 1 rfl (by decide) #[.slice A1 k1 c1] VB.out (((Ext.refl Non (u.alloc (.cells #[.slice A1 k1 c1] 22))).alloc (.cells #[.slice (some ⟨g1 + 1, 0, none⟩) 64 64, .slice (some ⟨gf, 0, none⟩) 32 32] 22)).drew) k0 c0 (rk _ ((r0.alloc (.cells #[.slice A1 k1 c1] 22)).alloc (.cells #[.slice (some ⟨g1 + 1, 0, none⟩) 64 64, .slice (some ⟨gf, 0, none⟩) 32 32] 22)).drew) la ma (by omega) hbl b EB.out
            try rw [World.size_alloc] at ctr
            refine wpTree_call rfl rfl (fun K hK => ?_)
            go_simp
            with_reducible refine Calls.mono ctr ?_
            clear ctr
            rintro e u2 ⟨rfl, x6⟩
            go_simp
            refine hK _ _ x6 ?_
            clear hK K
            have ctr := sumN_calls (w := u) (v := (u.alloc (.cells #[.slice A1 k1 c1] 22))) (r0.alloc _) Gu hu2 [⟨some ⟨g1 + 1, 0, none⟩, 64, xall (kpad a) 92⟩, ⟨some ⟨gf, 0, none⟩, 32, F⟩] pS 2 rfl hSl (by decide) #[.slice (some ⟨g1 + 1, 0, none⟩) 64 64, .slice (some ⟨gf, 0, none⟩) 32 32] VS.out ((Ext.refl Non ((u.alloc (.cells #[.slice A1 k1 c1] 22)).alloc (.cells #[.slice (some ⟨g1 + 1, 0, none⟩) 64 64, .slice (some ⟨gf, 0, none⟩) 32 32] 22))).drew.transN x6) (xall (kpad a) 92 ++ F) ES.out
            rw [HSH.out] at ctr
            try rw [World.size_alloc] at ctr
            refine wpTree_call rfl rfl (fun K hK => ?_)
            go_simp
            with_reducible refine Calls.mono ctr ?_
            clear ctr
            rintro e u3 ⟨rfl, x7⟩
            go_simp
            refine hK _ _ x7 ?_
            clear hK K
            iterate 3 (refine wpTree_quiet rfl rfl ?_; apply Exists.intro; refine ⟨?_, ?_⟩; (intro W hW; go_simp; try with_reducible rfl); (intro K hK; simp only [Act.put, List.setIfInBounds_toArray, List.set_cons_zero, List.set_cons_succ]; refine hK _ ?_; clear hK K))
            refine wpTree_end ?_
            have X9 := X6.transN (Ext.transN (((r0.alloc (.cells #[.slice A1 k1 c1] 22)).alloc (.cells #[.slice (some ⟨g1 + 1, 0, none⟩) 64 64, .slice (some ⟨gf, 0, none⟩) 32 32] 22)).drew.transN x6) x7)
            go_wp2_with fail
            go_ret
            exact ⟨by simp, X9.belowN⟩
        · intro K hK
          go_simp
          refine hK _ _ (Ext.allocD u _) ?_
          clear hK K
          refine wpTree_call rfl rfl (fun K hK => ?_)
          go_simp
          refine hK _ _ (Ext.allocD (u.alloc (.cells #[.slice (some ⟨g1 + 1, 0, none⟩) 64 64, .slice (some ⟨gf, 0, none⟩) 32 32] 22)) _) ?_
          clear hK K
          have ctr := macN_calls (w := u) (v := (u.alloc (.cells #[.slice (some ⟨g1 + 1, 0, none⟩) 64 64, .slice (some ⟨gf, 0, none⟩) 32 32] 22))) (r0.alloc _) Gu hu2 [⟨A1, c1, b⟩] pB 1 rfl (by decide) #[.slice A1 k1 c1] VB.out ((Ext.refl Non ((u.alloc (.cells #[.slice (some ⟨g1 + 1, 0, none⟩) 64 64, .slice (some ⟨gf, 0, none⟩) 32 32] 22)).alloc (.cells #[.slice A1 k1 c1] 22))).drew) k0 c0 (rk _ ((r0.alloc (.cells #[.slice (some ⟨g1 + 1, 0, none⟩) 64 64, .slice (some ⟨gf, 0, none⟩) 32 32] 22)).alloc (.cells #[.slice A1 k1 c1] 22)).drew) la ma (by omega) hbl b EB.out
          try rw [World.size_alloc] at ctr
          refine wpTree_call rfl rfl (fun K hK => ?_)
          go_simp
          with_reducible refine Calls.mono ctr ?_
          clear ctr
          rintro e u2 ⟨rfl, x6⟩
          go_simp
          refine hK _ _ x6 ?_
          clear hK K
          have ctr := sumN_calls (w := u) (v := u) r0 Gu hu2 [⟨some ⟨g1 + 1, 0, none⟩, 64, xall (kpad a) 92⟩, ⟨some ⟨gf, 0, none⟩, 32, F⟩] pS 2 rfl hSl (by decide) #[.slice (some ⟨g1 + 1, 0, none⟩) 64 64, .slice (some ⟨gf, 0, none⟩) 32 32] VS.out (((Ext.refl Non (u.alloc (.cells #[.slice (some ⟨g1 + 1, 0, none⟩) 64 64, .slice (some ⟨gf, 0, none⟩) 32 32] 22))).alloc (.cells #[.slice A1 k1 c1] 22)).drew.transN x6) (xall (kpad a) 92 ++ F) ES.out
          rw [HSH.out] at ctr
          try rw [World.size_alloc] at ctr
          refine wpTree_call rfl rfl (fun K hK => ?_)
          go_simp
          with_reducible refine Calls.mono ctr ?_
          clear ctr
          rintro e u3 ⟨rfl, x7⟩
          go_simp
          refine hK _ _ x7 ?_
          clear hK K
          iterate 3 (refine wpTree_quiet rfl rfl ?_; apply Exists.intro; refine ⟨?_, ?_⟩; (intro W hW; go_simp; try with_reducible rfl); (intro K hK; simp only [Act.put, List.setIfInBounds_toArray, List.set_cons_zero, List.set_cons_succ]; refine hK _ ?_; clear hK K))
          refine wpTree_end ?_
          have X9 := X6.transN (Ext.transN (((r0.alloc (.cells #[.slice (some ⟨g1 + 1, 0, none⟩) 64 64, .slice (some ⟨gf, 0, none⟩) 32 32] 22)).alloc (.cells #[.slice A1 k1 c1] 22)).drew.transN x6) x7)
          go_wp2_with fail
          go_ret
          exact ⟨by simp, X9.belowN⟩
end Go.Proofs.YtgbaijmpfdhoeaaDoor
