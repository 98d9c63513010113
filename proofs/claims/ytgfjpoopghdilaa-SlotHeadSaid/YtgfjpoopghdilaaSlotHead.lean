/- The law SlotHead: a head of slots is these slots. -/
import Derived.Test.YtgfjpoopghdilaaSlotOwn
import Derived.Test.YtgfjpoopghdilaaSlotBack
namespace Go.Proofs.Ytgfjpoopghdilaa
open Go.RowKit

/-- The head of slots, one behind the other. -/
def hdb (ls : List Sl) : List UInt8 := ls.flatMap slb ++ zeros (320 - 64 * ls.length)
section
variable {ls : List Sl}
theorem flatb_len (h : ∀ s ∈ ls, s.ok) : (ls.flatMap slb).length = 64 * ls.length := by
  induction ls with
  | nil => rfl
  | cons s t ih => rw [List.flatMap_cons, List.length_append, slb_len (h s (by simp)), ih (fun x hx => h x (by simp [hx])), List.length_cons]; omega
theorem hdb_len (h : ∀ s ∈ ls, s.ok) (h5 : ls.length ≤ 5) : (hdb ls).length = 320 := by
  unfold hdb
  rw [List.length_append, flatb_len h, zeros_length]
  omega
theorem hdb_drop (h : ∀ s ∈ ls, s.ok) (Z : List UInt8) (j : Nat) (hj : j ≤ ls.length) : (ls.flatMap slb ++ Z).drop (64 * j) = (ls.drop j).flatMap slb ++ Z := by
  induction ls generalizing j with
  | nil =>
    have : j = 0 := by simpa using hj
    subst this
    rfl
  | cons s t ih =>
    cases j with
    | zero => rfl
    | succ j =>
      have hl := slb_len (h s (by simp))
      rw [List.flatMap_cons, List.append_assoc, List.drop_append, List.drop_of_length_le (by omega), List.nil_append, hl, show 64 * (j + 1) - 64 = 64 * j from by omega]
      exact ih (fun x hx => h x (by simp [hx])) j (by simpa using hj)
theorem part_lt (h : ∀ s ∈ ls, s.ok) (j : Nat) (hj : j < ls.length) : ((hdb ls).drop (64 * j)).take 64 = slb ls[j] := by
  unfold hdb
  rw [hdb_drop h _ j (by omega), List.drop_eq_getElem_cons hj, List.flatMap_cons, List.append_assoc, List.take_append_of_le_length (by rw [slb_len (h _ (List.getElem_mem hj))]; omega),
    List.take_of_length_le (by rw [slb_len (h _ (List.getElem_mem hj))]; omega)]
theorem part_ge (h : ∀ s ∈ ls, s.ok) (j : Nat) (hj : ls.length ≤ j) (h5 : j < 5) : ((hdb ls).drop (64 * j)).take 64 = zeros 64 := by
  unfold hdb
  rw [List.drop_append, List.drop_of_length_le (by rw [flatb_len h]; omega), List.nil_append, flatb_len h]
  unfold zeros
  rw [List.drop_replicate, List.take_replicate]
  congr 1
  omega
theorem hdb_snoc (h : ∀ s ∈ ls, s.ok) (t : Sl) (h5 : ls.length < 5) : hdb (ls ++ [t]) = ls.flatMap slb ++ (slb t ++ (zeros (320 - 64 * ls.length)).drop 64) := by
  unfold hdb
  rw [List.flatMap_append, List.append_assoc]
  congr 1
  have e1 : [t].flatMap slb = slb t := by simp
  rw [e1]
  congr 1
  unfold zeros
  rw [List.drop_replicate, List.length_append]
  congr 1
end
theorem dec_zeros : dece (zeros 64) = 0 ∧ decs (zeros 64) = sl0 := by decide +kernel
@[go_sem ↓] theorem zero_hd (w : World) : (zeroValue 47).run Try.prog w = .ok (.agg (zrow 320)) w :=
  (zero_of_info (P := Try.prog) (t := 47) (n := 320) (by kernel_rfl)).1 w
theorem pk_splice {s : Pk} (h : s.ok) (l : List UInt8) (hl : l.length = 320) : splice (pkL s) 34 (bvs l) = pkL { s with head := l } := by
  have h1 : (pkh s ++ bvs s.nonce ++ bvs s.mac).length = 34 := by simp [pkh, bvs_length, h.nonce, h.mac]
  rw [pkL_2 s, pkL_2 { s with head := l }]
  unfold splice
  rw [bvs_length, hl, List.take_append_of_le_length (by omega), List.take_of_length_le (by omega), List.drop_append, h1, List.drop_of_length_le (by omega), List.nil_append, show 34 + 320 - 34 = 320 from by omega, List.drop_append, bvs_length, h.head, List.drop_of_length_le (by rw [bvs_length, h.head]; omega), Nat.sub_self, List.drop_zero, List.nil_append]
  simp [pkh]
theorem store_head {w : World} {g : Nat} {s : Pk} (hb : Blk w g 50 (pk s)) (h : s.ok) (l : List UInt8) (hl : l.length = 320) :
    ∃ w', (bigStore 47 (.pointer (some ⟨g, 34, none⟩)) (.agg (ba l))).run Try.prog w = .ok () w' ∧ Blk w' g 50 (pk { s with head := l }) ∧ Ext (One g) w w' := by
  have st := run_storeAt_mid (P := Try.prog) w g 34 47 (ba l) (by rw [ba_size, hl]; exact hb.there 34 320 (by rw [pk_size h]; decide)) (info_hd _ (by rw [ba_size, hl])) (ba_all l)
  refine ⟨_, st, ?_, Ext.setCells (S := One g) (Ext.refl _ w) g (.inr rfl) (bvs l) 34 (Ext.refl _ w)⟩
  have := Blk.setCells (bvs l) 34 (cs := pkL s) hb (by
    have := pk_size h
    simp only [pk, List.size_toArray] at this
    rw [this, bvs_length, hl]
    decide)
  rw [pk_splice h l hl] at this
  exact this
/-- A packet whose head is known by its beginning. -/
theorem pk_cut (s : Pk) (H : List UInt8) (a b : List UInt8) (e : H = a ++ b) : pkL { s with head := H } = (pkh s ++ bvs s.nonce ++ bvs s.mac ++ bvs a) ++ (bvs b ++ bvs s.body) := by
  rw [pkL_2, e]
  simp [pkh, bvs]
theorem pkh_ok {s : Pk} (h : s.ok) {H : List UInt8} (hH : H.length = 320) : ({ s with head := H } : Pk).ok := ⟨h.who, h.epoch, h.nonce, h.mac, hH, h.body⟩

set_option maxRecDepth 100000 in
set_option maxHeartbeats 16000000 in
theorem head_walk (w : World) (A0 : Option Addr) (n0 c0 : Nat) (hin : ∀ i, i < n0 → A0.isSome = true ∧ ∃ t : Sl, t.ok ∧ (A0.getD default).block < w.heap.size ∧ ∀ j u, (slL t)[j]? = some u → w.cell? (((A0.getD default).add (i * 40)).add j) = some u) {s : Pk} (hs : s.ok) (hn0 : n0 ≤ maxLen) :
    Calls Try.prog 9 #[.slice A0 n0 c0, .agg (pk s)] w fun e w' => e = .returned (.bool true) ∧ Below w.heap.size w w' := by
  simp only [maxLen] at hn0
  have np := pk_ne s
  have nz := row_ne (zrow_size 64)
  have nh := row_ne (zrow_size 320)
  have n0p := pk_ne pk0
  have nsl := sl_ne sl0
  have B0 := Blk.new w 50 (pk s)
  have X0 : Ext Non w (w.alloc (.cells (pk s) 50)) := (Ext.refl Non w).alloc _
  go_enter Try.func9, Try.ntmps9
  go_upto_region 1 with (fail)
  generalize w.alloc (.cells (pk s) 50) = v at *
  have hgv : w.heap.size < v.heap.size := B0.lt
  go_wp2_with fail
  have ctr := shown_calls v
  with_reducible refine Calls.mono ctr ?_
  clear ctr
  rintro e w1 ⟨rfl, x1⟩
  obtain ⟨w2, st, B2, x2⟩ := store_head (B0.extN_ x1) hs (zeros 320) (zeros_length 320)
  have st' : (bigStore 47 (.pointer (some ⟨w.heap.size, 34, none⟩)) (.agg (zrow 320))).run Try.prog w1 = .ok () w2 := st
  have X2 : Ext Non w w2 := (X0.transN x1).trans x2 (fun i hi h => by have h : i = w.heap.size := h; omega)
  have Y2 : v.heap.size ≤ w2.heap.size := Nat.le_trans x1.size x2.size
  clear st x1 x2 B0 X0
  go_wp2_with fail
  clear st'
  go_loopw [6, 7] (fun own i wr => ∃ (j : Nat) (ls : List Sl) (A : Option Addr) (c : Nat), i = .int .i64 j ∧ own = .slice A ls.length c ∧ j ≤ n0 ∧ ls.length ≤ 5 ∧ OwS wr v.heap.size A c ls ∧ (∀ t ∈ ls, right t = true) ∧ Blk wr w.heap.size 50 (pk { s with head := hdb ls }) ∧ Ext Non w wr ∧ v.heap.size ≤ wr.heap.size) (fun _ i _ => n0 - (intOf i).toNat)
  case atStart => exact ⟨0, [], none, 0, rfl, rfl, by omega, by simp, OwS.nil _ _, (fun _ h => by cases h), B2, X2, Y2⟩
  case round =>
    clear B2 X2 Y2
    obtain ⟨j, ls, A, c, rfl, rfl, hj, h5, O, hR, B, X, Y⟩ := hrel
    have okh := pkh_ok hs (hdb_len O.1 h5)
    by_cases hlt : j < n0 ∧ ls.length < 5
    · obtain ⟨h1, h2⟩ := hlt
      have i1 : (j : Int) < (n0 : Int) := by omega
      have i2 : (ls.length : Int) < 5 := by omega
      obtain ⟨hA, t, ht, hAb, hcell⟩ := hin j h1
      have ldt := fun W (x : Ext Non w W) => load_any ht ((A0.getD default).add (j * 40)) (fun k u hu => x.cell (hcell k u hu) (fun h => h))
      have ld1 := ldt wr X
      have nt := sl_ne t
      obtain ⟨k, hk⟩ : ∃ k, ls.length = k := ⟨_, rfl⟩
      have hj64 : (0 : Int) ≤ 64 * (k : Int) := by omega
      have w64 : IntKind.i64.wrap (64 * (k : Int)) = 64 * (k : Int) := by rw [IntKind.wrap_i64]; omega
      have hk5 : k < 5 := by omega
      go_wp2_with fail
      have ctr := encode_calls wr ht
      with_reducible refine Calls.mono ctr ?_
      clear ctr
      rintro e w3 ⟨rfl, x3⟩
      have L3 := encb_len ht
      have n3 := ba64_ne L3
      have st3 := store_b64 w3 L3
      have X3 : Ext Non wr (w3.alloc (.cells (ba (encb t)) 33)) := x3.alloc _
      have E3 := Blk.new w3 33 (ba (encb t))
      clear ld1 x3
      rcases ence_cases t with ⟨r, e⟩ | ⟨r, e⟩
      · rw [e]
        have u3s := X3.size
        go_upto_region 9 with (fail)
        have he : encb t = slb t := by unfold encb; rw [if_pos r]
        clear st3
        generalize w3.alloc (.cells (ba (encb t)) 33) = u3 at *
        generalize w3.heap.size = g3 at *
        have B3 := B.extN_ X3
        have hk64 : 64 * k < 320 := by omega
        have sh := fun W => run_arr_lo (P := Try.prog) W Try.underlying47 s8 w.heap.size 34 .i64 (64 * (k : Int)) (64 * k) (by omega) hk64
        have sb := fun W => run_arr_all (P := Try.prog) W Try.underlying33 s8 g3 0 (by decide)
        have hcut1 := pk_cut s (hdb ls) (ls.flatMap slb) (zeros (320 - 64 * ls.length)) rfl
        have B4 : Blk u3.drew w.heap.size 50 ((pkh s ++ bvs s.nonce ++ bvs s.mac ++ bvs (ls.flatMap slb)) ++ (bvs (zeros (320 - 64 * ls.length)) ++ bvs s.body)).toArray := by
          rw [← hcut1]
          exact B3.drew
        have hpl : (pkh s ++ bvs s.nonce ++ bvs s.mac ++ bvs (ls.flatMap slb)).length = 34 + 64 * k := by
          rw [List.length_append, bvs_length, flatb_len O.1, hk]
          simp [pkh, bvs_length, hs.nonce, hs.mac]
        have hsl := slb_len ht
        have E4 : Rd u3.drew (fun k => k = g3) (some ⟨g3, 0, none⟩) (bvs (slb t)) := by
          have := (rd_arr E3.drew : Rd u3.drew (fun k => k = g3) (some ⟨g3, 0, none⟩) (bvs (encb t)))
          rwa [he] at this
        obtain ⟨w4, hcp, B5, x4⟩ := copy_in B4 E4 (34 + 64 * k) (320 - 64 * k) 64 64 64 hpl (by rw [zeros_length, hk]) hsl (Nat.min_eq_left (by omega)).symm
        have B6 : Blk w4 w.heap.size 50 (pk { s with head := hdb (ls ++ [t]) }) := by
          have hsn := hdb_snoc O.1 t (by omega)
          rw [List.take_of_length_le (by omega)] at B5
          have := pk_cut s (hdb (ls ++ [t])) (ls.flatMap slb) (slb t ++ (zeros (320 - 64 * ls.length)).drop 64) hsn
          unfold pk
          rw [this]
          exact B5
        have hgr := B.lt
        have O3 := (O.extN X3)
        have O4 : OwS w4 v.heap.size A c ls := (OwS.extN O3 (Ext.refl Non u3).drew).ext x4 (fun i hi h => by
          have := (O.lt hi).1
          have h : i = w.heap.size := h
          omega)
        have X4 : Ext Non w w4 := (X.transN X3).drew.trans x4 (fun i hi h => by have h : i = w.heap.size := h; omega)
        have Y4 : v.heap.size ≤ w4.heap.size := Nat.le_trans (Nat.le_trans Y X3.size) x4.size
        have ld4 := ldt w4 X4
        clear B4 B5 E4 E3 B3 O3 O X3 X B he hsl hcut1 hpl
        refine wp_region_seq (One w.heap.size) ((0, true) :: (1, true) :: (2, true) :: (3, true) :: (4, true) :: (5, true) :: (6, false) :: []) (by kernel_rfl) (by kernel_rfl) (by kernel_rfl) ?_
        iterate 6 (refine wpSeq_quiet rfl rfl ?_; apply Exists.intro; refine ⟨?_, ?_⟩; (intro W hW; go_simp; try with_reducible rfl); (intro K hK; simp only [Act.put, List.setIfInBounds_toArray, List.set_cons_zero, List.set_cons_succ]; refine hK _ ?_; clear hK K))
        refine wpSeq_call rfl rfl (fun K hK => ?_)
        go_simp
        refine hK _ _ x4 ?_
        clear hK K hcp sh sb x4
        refine wpSeq_end ?_
        have O5 := OwS.extN O4 ((Ext.refl Non w4).alloc (.cells (sl t) 32))
        have X5 : Ext Non w (w4.alloc (.cells (sl t) 32)) := X4.alloc _
        have B7 := B6.alloc (.cells (sl t) 32)
        have hb5 : v.heap.size ≤ (w4.alloc (.cells (sl t) 32)).heap.size := by rw [World.size_alloc]; omega
        have r5 : Rd (w4.alloc (.cells (sl t) 32)) (fun k => k = w4.heap.size) (some ⟨w4.heap.size, 0, none⟩) (slL t) := by
          have := Rd.of_blk (D := fun k => k = w4.heap.size) (Blk.new w4 32 (sl t)) rfl 0 40
          have e2 : (((sl t).toList).drop 0).take 40 = slL t := by
            rw [List.drop_zero, List.take_of_length_le (by simp [sl, slL_len ht])]
            rfl
          rwa [e2] at this
        go_wp2_with (at_builtin; refine wp_apS rfl (.tmp 47) (.tmp 52) rfl k rfl O5 hk 1 rfl ht r5 (by omega) hb5 ?_; intro A6 c6 w6 o6 x6 hob6)
        have hA6 : ∀ i, ob A = some i → v.heap.size ≤ i := fun i hi => (O4.lt hi).1
        have X6 := X5.trans x6 (fun i hi h => by have := hA6 i h; omega)
        have B8 := B7.ext x6 (fun h => by have := hA6 _ h; omega)
        have Y6 : v.heap.size ≤ w6.heap.size := Nat.le_trans hb5 x6.size
        have hlen6 : (ls ++ [t]).length = k + 1 := by rw [List.length_append, hk]; rfl
        have hR6 : ∀ q ∈ ls ++ [t], right q = true := fun q hq => by
          rcases List.mem_append.1 hq with h | h
          · exact hR q h
          · rw [List.mem_singleton.1 h]; exact r
        have HL6 := Lib.hid hlen6
        clear hlen6
        go_wp2_with fail
        exact ⟨⟨j + 1, ls ++ [t], A6, c6, by go_num, by rw [HL6.out], by omega, by rw [HL6.out]; omega, o6, hR6, B8, X6, Y6⟩, by simp [intOf]; omega⟩
      · rw [e]
        have O3 := O.extN X3
        have B3 := B.extN_ X3
        have Xw := X.transN X3
        have Yw := Nat.le_trans Y X3.size
        go_wp2_with fail
        exact ⟨⟨j + 1, ls, A, c, by go_num, by rw [hk], by omega, by omega, O3, hR, B3, Xw, Yw⟩, by simp [intOf]; omega⟩
    · have hpk := pkb_len okh
      have npk := pk_ne { s with head := hdb ls }
      obtain ⟨k, hk⟩ : ∃ k, ls.length = k := ⟨_, rfl⟩
      have hk5 : k ≤ 5 := by omega
      have ld := load_pk B okh
      by_cases hjn : j < n0
      · have i1 : (j : Int) < (n0 : Int) := by omega
        have i2 : ¬ (k : Int) < 5 := by omega
        go_wp2_with fail
        have ctr := pack_calls wr okh
        with_reducible refine Calls.mono ctr ?_
        clear ctr
        rintro e w3 ⟨A3, d3, rfl, O3, x3⟩
        clear ld
        go_wp2_with fail
        have ctr := unpack_calls d3 O3.rd hpk
        with_reducible refine Calls.mono ctr ?_
        clear ctr
        rintro e w4 ⟨rfl, x4⟩
        rw [rdpk_pkb okh]
        have st4 := store_pk w4 okh
        have X4 : Ext Non wr (w4.alloc (.cells (pk { s with head := hdb ls }) 50)) := (x3.transN x4).alloc _
        have Q4 := Blk.new w4 50 (pk { s with head := hdb ls })
        have l4 := load_pk Q4 okh
        have l5 := load_pk (B.extN_ X4) okh
        have q1 := fun W => neq_pk W okh okh
        rw [show decide (({ s with head := hdb ls } : Pk) = { s with head := hdb ls }) = true from decide_eq_true rfl] at q1
        have O4 := O.extN X4
        have XW := X.transN X4
        clear x3 x4 O3 X B O
        go_wp2_with fail
        clear l4 l5 st4
        generalize w4.alloc (.cells (pk { s with head := hdb ls }) 50) = u at *
        generalize w4.heap.size = g4 at *
        clear X4
        go_loopw [12] (fun i wr => ∃ m : Nat, m ≤ 5 ∧ i = .int .i64 m ∧ Ext Non u wr) (fun i _ => 5 - (intOf i).toNat)
        case atStart => exact ⟨0, by omega, rfl, Ext.refl _ _⟩
        case round =>
          obtain ⟨m, hm, rfl, Z⟩ := hrel
          by_cases hm5 : m < 5
          · have j1 : (m : Int) < 5 := by omega
            have wm : IntKind.i64.wrap (64 * (m : Int)) = 64 * (m : Int) := by rw [IntKind.wrap_i64]; omega
            have hm64 : 64 * m < 320 := by omega
            have sh := fun W => run_arr_lo (P := Try.prog) W Try.underlying47 s8 g4 34 .i64 (64 * (m : Int)) (64 * m) (by omega) hm64
            obtain ⟨P, hP⟩ : ∃ P, ((hdb ls).drop (64 * m)).take 64 = P := ⟨_, rfl⟩
            have hl3 := hdb_len O4.1 h5
            go_wp2_with fail
            have Z1 : Ext Non u (wr.alloc (.cells (zrow 64) 33)) := Z.alloc _
            have D1 : Blk (wr.alloc (.cells (zrow 64) 33)).drew wr.heap.size 33 (([] : List Value) ++ (bvs (zeros 64) ++ [])).toArray := by
              rw [List.append_nil]
              exact (Blk.new wr 33 (zrow 64)).drew
            have sb := fun W => run_arr_all (P := Try.prog) W Try.underlying33 s8 wr.heap.size 0 (by decide)
            have hcut := pk_cut s (hdb ls) ((hdb ls).take (64 * m)) ((hdb ls).drop (64 * m)) (List.take_append_drop _ _).symm
            have S1 : Rd (wr.alloc (.cells (zrow 64) 33)).drew (fun k => k = g4) (some ⟨g4, 34 + 64 * m, none⟩) (bvs ((hdb ls).drop (64 * m))) :=
              Blk.sub (Q4.extN_ Z1.drew) _ _ _ hcut (34 + 64 * m) (by simp [pkh, bvs_length, hs.nonce, hs.mac, hl3]; omega)
            obtain ⟨w2, hcp, B2, y2⟩ := copy_in D1 S1 0 64 (320 - 64 * m) (320 - 64 * m) 64 rfl (zeros_length 64) (by rw [List.length_drop, hl3]) (Nat.min_eq_right (by omega)).symm
            have hPl : P.length = 64 := by
              rw [← hP, List.length_take, List.length_drop, hl3]
              omega
            have B3 : Blk w2 wr.heap.size 33 (ba P) := by
              have e : ([] : List Value) ++ (bvs (((hdb ls).drop (64 * m)).take 64 ++ (zeros 64).drop 64) ++ []) = bvs P := by
                rw [hP]
                simp [zeros]
              rw [e] at B2
              exact B2
            have Z2 : Ext Non u w2 := Z1.drew.trans y2 (fun i hi h => by
              have h : i = wr.heap.size := h
              have := Z.size
              omega)
            clear D1 S1 hcut B2 Z1
            refine wp_region_seq (One wr.heap.size) ((0, true) :: (1, true) :: (2, true) :: (3, true) :: (4, true) :: (5, false) :: []) (by kernel_rfl) (by kernel_rfl) (by kernel_rfl) ?_
            iterate 5 (refine wpSeq_quiet rfl rfl ?_; apply Exists.intro; refine ⟨?_, ?_⟩; (intro W hW; go_simp; try with_reducible rfl); (intro K hK; simp only [Act.put, List.setIfInBounds_toArray, List.set_cons_zero, List.set_cons_succ]; refine hK _ ?_; clear hK K))
            refine wpSeq_call rfl rfl (fun K hK => ?_)
            go_simp
            refine hK _ _ y2 ?_
            clear hK K hcp sh sb y2
            refine wpSeq_end ?_
            have lP := load_b64 B3 hPl
            have nP := ba64_ne hPl
            go_wp2_with fail
            have ctr := decode_calls w2 hPl
            with_reducible refine Calls.mono ctr ?_
            clear ctr
            rintro e w5 ⟨rfl, z5⟩
            have okd := decs_ok hPl
            have nd := sl_ne (decs P)
            have Z5 : Ext Non u (w5.alloc (.cells (sl (decs P)) 32)) := (Z2.transN z5).alloc _
            have E5 := Blk.new w5 32 (sl (decs P))
            clear lP z5 B3 Z2 Z
            by_cases hmk : m < k
            · have hPs : P = slb (ls[m]'(by omega)) := by rw [← hP]; exact part_lt O4.1 m (by omega)
              have hin' := List.getElem_mem (l := ls) (n := m) (by omega)
              have hde := dec_enc (O4.1 _ hin') (hR _ hin')
              have heb : encb (ls[m]'(by omega)) = slb (ls[m]'(by omega)) := by unfold encb; rw [if_pos (hR _ hin')]
              rw [heb, ← hPs] at hde
              obtain ⟨tt, htt⟩ : ∃ tt, ls[m]'(by omega) = tt := ⟨_, rfl⟩
              rw [htt] at hde
              rw [hde.1, hde.2]
              rw [hde.2] at okd nd Z5 E5
              have hA := ((O4.extN Z5).load m (by omega)).1
              have mi : (m : Int) < (k : Int) := by omega
              have mi3 : ¬ (k : Int) ≤ (m : Int) := by omega
              have mi4 : decide (k ≤ m) = false := decide_eq_false (by omega)
              have O5 := O4.extN Z5
              go_upto_region 20 with (fail)
              generalize w5.alloc (.cells (sl tt) 32) = v5 at *
              generalize w5.heap.size = g5 at *
              have lo : ∀ W, Ext Non v5 W → (bigLoad 32 (.pointer (some ((A.getD default).add (m * 40))))).run Try.prog W = .ok (.agg (sl tt)) W := fun W x => by
                have := ((O5.extN x).load m (by omega)).2
                rwa [htt] at this
              have lz := fun W (x : Ext Non v5 W) => load_sl okd (E5.extN_ x)
              have q2 := fun W => neq_sl W okd okd
              rw [show decide (tt = tt) = true from decide_eq_true rfl] at q2
              clear hPs heb htt hP hin' hde
              refine wp_region_seq Non ((0, true) :: (1, true) :: (2, true) :: (3, true) :: (4, true) :: (5, true) :: (6, true) :: (7, true) :: (8, true) :: (9, true) :: (10, true) :: (11, true) :: (12, true) :: (13, true) :: (14, true) :: (15, true) :: (16, true) :: (17, true) :: (18, true) :: (19, true) :: (20, true) :: (21, true) :: (22, true) :: (23, true) :: (24, true) :: (25, true) :: (26, true) :: []) (by kernel_rfl) (by kernel_rfl) (by kernel_rfl) ?_
              iterate 22 (refine wpSeq_quiet rfl rfl ?_; apply Exists.intro; refine ⟨?_, ?_⟩; (intro W hW; have u1 := lz W hW.drewL; have u2 := lo W hW.drewL; go_simp; try with_reducible rfl); (intro K hK; simp only [Act.put, List.setIfInBounds_toArray, List.set_cons_zero, List.set_cons_succ]; refine hK _ ?_; clear hK K))
              iterate 3 (refine wpSeq_skip rfl rfl (fun K hK => ?_); simp only [Act.put, List.setIfInBounds_toArray, List.set_cons_zero, List.set_cons_succ]; refine hK _ ?_; clear hK K)
              iterate 2 (refine wpSeq_quiet rfl rfl ?_; apply Exists.intro; refine ⟨?_, ?_⟩; (intro W hW; go_simp; try with_reducible rfl); (intro K hK; simp only [Act.put, List.setIfInBounds_toArray, List.set_cons_zero, List.set_cons_succ]; refine hK _ ?_; clear hK K))
              refine wpSeq_end ?_
              have Z6 := Z5.drew
              clear lo lz E5
              go_wp2_with fail
              exact ⟨⟨m + 1, by omega, by go_num, Z6⟩, by simp [intOf]; omega⟩
            · have hPs : P = zeros 64 := by rw [← hP]; exact part_ge O4.1 m (by omega) hm5
              have mi : ¬ (m : Int) < (k : Int) := by omega
              have mi2 : (k : Int) ≤ (m : Int) := by omega
              have hde := dec_zeros
              rw [← hPs] at hde
              rw [hde.1, hde.2]
              rw [hde.2] at okd nd Z5 E5
              clear hPs hP hde
              go_upto_region 20 with (fail)
              generalize w5.alloc (.cells (sl sl0) 32) = v5 at *
              generalize w5.heap.size = g5 at *
              have lz := fun W (x : Ext Non v5 W) => load_sl okd (E5.extN_ x)
              have q2 := fun W => neq_sl W okd okd
              rw [show decide (sl0 = sl0) = true from decide_eq_true rfl] at q2
              refine wp_region_seq Non ((0, true) :: (1, true) :: (2, true) :: (3, true) :: (4, true) :: (5, true) :: (6, true) :: (7, true) :: (8, true) :: (9, true) :: (10, true) :: (11, true) :: (12, true) :: (13, true) :: (14, true) :: (15, true) :: (16, true) :: (17, true) :: (18, true) :: (19, true) :: (20, true) :: (21, true) :: (22, true) :: (23, true) :: (24, true) :: (25, true) :: (26, true) :: []) (by kernel_rfl) (by kernel_rfl) (by kernel_rfl) ?_
              iterate 8 (refine wpSeq_quiet rfl rfl ?_; apply Exists.intro; refine ⟨?_, ?_⟩; (intro W hW; go_simp; try with_reducible rfl); (intro K hK; simp only [Act.put, List.setIfInBounds_toArray, List.set_cons_zero, List.set_cons_succ]; refine hK _ ?_; clear hK K))
              iterate 6 (refine wpSeq_skip rfl rfl (fun K hK => ?_); simp only [Act.put, List.setIfInBounds_toArray, List.set_cons_zero, List.set_cons_succ]; refine hK _ ?_; clear hK K)
              iterate 13 (refine wpSeq_quiet rfl rfl ?_; apply Exists.intro; refine ⟨?_, ?_⟩; (intro W hW; have u1 := lz W hW.drewL; go_simp; try with_reducible rfl); (intro K hK; simp only [Act.put, List.setIfInBounds_toArray, List.set_cons_zero, List.set_cons_succ]; refine hK _ ?_; clear hK K))
              refine wpSeq_end ?_
              have Z6 := Z5.drew
              clear lz E5
              go_wp2_with fail
              exact ⟨⟨m + 1, by omega, by go_num, Z6⟩, by simp [intOf]; omega⟩
          · obtain rfl : m = 5 := by omega
            have Zf := XW.transN Z
            go_wp2_with fail
            go_ret
            exact ⟨rfl, Zf.belowN⟩
      · have i1 : ¬ (j : Int) < (n0 : Int) := by omega
        go_wp2_with fail
        have ctr := pack_calls wr okh
        with_reducible refine Calls.mono ctr ?_
        clear ctr
        rintro e w3 ⟨A3, d3, rfl, O3, x3⟩
        clear ld
        go_wp2_with fail
        have ctr := unpack_calls d3 O3.rd hpk
        with_reducible refine Calls.mono ctr ?_
        clear ctr
        rintro e w4 ⟨rfl, x4⟩
        rw [rdpk_pkb okh]
        have st4 := store_pk w4 okh
        have X4 : Ext Non wr (w4.alloc (.cells (pk { s with head := hdb ls }) 50)) := (x3.transN x4).alloc _
        have Q4 := Blk.new w4 50 (pk { s with head := hdb ls })
        have l4 := load_pk Q4 okh
        have l5 := load_pk (B.extN_ X4) okh
        have q1 := fun W => neq_pk W okh okh
        rw [show decide (({ s with head := hdb ls } : Pk) = { s with head := hdb ls }) = true from decide_eq_true rfl] at q1
        have O4 := O.extN X4
        have XW := X.transN X4
        clear x3 x4 O3 X B O
        go_wp2_with fail
        clear l4 l5 st4
        generalize w4.alloc (.cells (pk { s with head := hdb ls }) 50) = u at *
        generalize w4.heap.size = g4 at *
        clear X4
        go_loopw [12] (fun i wr => ∃ m : Nat, m ≤ 5 ∧ i = .int .i64 m ∧ Ext Non u wr) (fun i _ => 5 - (intOf i).toNat)
        case atStart => exact ⟨0, by omega, rfl, Ext.refl _ _⟩
        case round =>
          obtain ⟨m, hm, rfl, Z⟩ := hrel
          by_cases hm5 : m < 5
          · have j1 : (m : Int) < 5 := by omega
            have wm : IntKind.i64.wrap (64 * (m : Int)) = 64 * (m : Int) := by rw [IntKind.wrap_i64]; omega
            have hm64 : 64 * m < 320 := by omega
            have sh := fun W => run_arr_lo (P := Try.prog) W Try.underlying47 s8 g4 34 .i64 (64 * (m : Int)) (64 * m) (by omega) hm64
            obtain ⟨P, hP⟩ : ∃ P, ((hdb ls).drop (64 * m)).take 64 = P := ⟨_, rfl⟩
            have hl3 := hdb_len O4.1 h5
            go_wp2_with fail
            have Z1 : Ext Non u (wr.alloc (.cells (zrow 64) 33)) := Z.alloc _
            have D1 : Blk (wr.alloc (.cells (zrow 64) 33)).drew wr.heap.size 33 (([] : List Value) ++ (bvs (zeros 64) ++ [])).toArray := by
              rw [List.append_nil]
              exact (Blk.new wr 33 (zrow 64)).drew
            have sb := fun W => run_arr_all (P := Try.prog) W Try.underlying33 s8 wr.heap.size 0 (by decide)
            have hcut := pk_cut s (hdb ls) ((hdb ls).take (64 * m)) ((hdb ls).drop (64 * m)) (List.take_append_drop _ _).symm
            have S1 : Rd (wr.alloc (.cells (zrow 64) 33)).drew (fun k => k = g4) (some ⟨g4, 34 + 64 * m, none⟩) (bvs ((hdb ls).drop (64 * m))) :=
              Blk.sub (Q4.extN_ Z1.drew) _ _ _ hcut (34 + 64 * m) (by simp [pkh, bvs_length, hs.nonce, hs.mac, hl3]; omega)
            obtain ⟨w2, hcp, B2, y2⟩ := copy_in D1 S1 0 64 (320 - 64 * m) (320 - 64 * m) 64 rfl (zeros_length 64) (by rw [List.length_drop, hl3]) (Nat.min_eq_right (by omega)).symm
            have hPl : P.length = 64 := by
              rw [← hP, List.length_take, List.length_drop, hl3]
              omega
            have B3 : Blk w2 wr.heap.size 33 (ba P) := by
              have e : ([] : List Value) ++ (bvs (((hdb ls).drop (64 * m)).take 64 ++ (zeros 64).drop 64) ++ []) = bvs P := by
                rw [hP]
                simp [zeros]
              rw [e] at B2
              exact B2
            have Z2 : Ext Non u w2 := Z1.drew.trans y2 (fun i hi h => by
              have h : i = wr.heap.size := h
              have := Z.size
              omega)
            clear D1 S1 hcut B2 Z1
            refine wp_region_seq (One wr.heap.size) ((0, true) :: (1, true) :: (2, true) :: (3, true) :: (4, true) :: (5, false) :: []) (by kernel_rfl) (by kernel_rfl) (by kernel_rfl) ?_
            iterate 5 (refine wpSeq_quiet rfl rfl ?_; apply Exists.intro; refine ⟨?_, ?_⟩; (intro W hW; go_simp; try with_reducible rfl); (intro K hK; simp only [Act.put, List.setIfInBounds_toArray, List.set_cons_zero, List.set_cons_succ]; refine hK _ ?_; clear hK K))
            refine wpSeq_call rfl rfl (fun K hK => ?_)
            go_simp
            refine hK _ _ y2 ?_
            clear hK K hcp sh sb y2
            refine wpSeq_end ?_
            have lP := load_b64 B3 hPl
            have nP := ba64_ne hPl
            go_wp2_with fail
            have ctr := decode_calls w2 hPl
            with_reducible refine Calls.mono ctr ?_
            clear ctr
            rintro e w5 ⟨rfl, z5⟩
            have okd := decs_ok hPl
            have nd := sl_ne (decs P)
            have Z5 : Ext Non u (w5.alloc (.cells (sl (decs P)) 32)) := (Z2.transN z5).alloc _
            have E5 := Blk.new w5 32 (sl (decs P))
            clear lP z5 B3 Z2 Z
            by_cases hmk : m < k
            · have hPs : P = slb (ls[m]'(by omega)) := by rw [← hP]; exact part_lt O4.1 m (by omega)
              have hin' := List.getElem_mem (l := ls) (n := m) (by omega)
              have hde := dec_enc (O4.1 _ hin') (hR _ hin')
              have heb : encb (ls[m]'(by omega)) = slb (ls[m]'(by omega)) := by unfold encb; rw [if_pos (hR _ hin')]
              rw [heb, ← hPs] at hde
              obtain ⟨tt, htt⟩ : ∃ tt, ls[m]'(by omega) = tt := ⟨_, rfl⟩
              rw [htt] at hde
              rw [hde.1, hde.2]
              rw [hde.2] at okd nd Z5 E5
              have hA := ((O4.extN Z5).load m (by omega)).1
              have mi : (m : Int) < (k : Int) := by omega
              have mi3 : ¬ (k : Int) ≤ (m : Int) := by omega
              have mi4 : decide (k ≤ m) = false := decide_eq_false (by omega)
              have O5 := O4.extN Z5
              go_upto_region 20 with (fail)
              generalize w5.alloc (.cells (sl tt) 32) = v5 at *
              generalize w5.heap.size = g5 at *
              have lo : ∀ W, Ext Non v5 W → (bigLoad 32 (.pointer (some ((A.getD default).add (m * 40))))).run Try.prog W = .ok (.agg (sl tt)) W := fun W x => by
                have := ((O5.extN x).load m (by omega)).2
                rwa [htt] at this
              have lz := fun W (x : Ext Non v5 W) => load_sl okd (E5.extN_ x)
              have q2 := fun W => neq_sl W okd okd
              rw [show decide (tt = tt) = true from decide_eq_true rfl] at q2
              clear hPs heb htt hP hin' hde
              refine wp_region_seq Non ((0, true) :: (1, true) :: (2, true) :: (3, true) :: (4, true) :: (5, true) :: (6, true) :: (7, true) :: (8, true) :: (9, true) :: (10, true) :: (11, true) :: (12, true) :: (13, true) :: (14, true) :: (15, true) :: (16, true) :: (17, true) :: (18, true) :: (19, true) :: (20, true) :: (21, true) :: (22, true) :: (23, true) :: (24, true) :: (25, true) :: (26, true) :: []) (by kernel_rfl) (by kernel_rfl) (by kernel_rfl) ?_
              iterate 22 (refine wpSeq_quiet rfl rfl ?_; apply Exists.intro; refine ⟨?_, ?_⟩; (intro W hW; have u1 := lz W hW.drewL; have u2 := lo W hW.drewL; go_simp; try with_reducible rfl); (intro K hK; simp only [Act.put, List.setIfInBounds_toArray, List.set_cons_zero, List.set_cons_succ]; refine hK _ ?_; clear hK K))
              iterate 3 (refine wpSeq_skip rfl rfl (fun K hK => ?_); simp only [Act.put, List.setIfInBounds_toArray, List.set_cons_zero, List.set_cons_succ]; refine hK _ ?_; clear hK K)
              iterate 2 (refine wpSeq_quiet rfl rfl ?_; apply Exists.intro; refine ⟨?_, ?_⟩; (intro W hW; go_simp; try with_reducible rfl); (intro K hK; simp only [Act.put, List.setIfInBounds_toArray, List.set_cons_zero, List.set_cons_succ]; refine hK _ ?_; clear hK K))
              refine wpSeq_end ?_
              have Z6 := Z5.drew
              clear lo lz E5
              go_wp2_with fail
              exact ⟨⟨m + 1, by omega, by go_num, Z6⟩, by simp [intOf]; omega⟩
            · have hPs : P = zeros 64 := by rw [← hP]; exact part_ge O4.1 m (by omega) hm5
              have mi : ¬ (m : Int) < (k : Int) := by omega
              have mi2 : (k : Int) ≤ (m : Int) := by omega
              have hde := dec_zeros
              rw [← hPs] at hde
              rw [hde.1, hde.2]
              rw [hde.2] at okd nd Z5 E5
              clear hPs hP hde
              go_upto_region 20 with (fail)
              generalize w5.alloc (.cells (sl sl0) 32) = v5 at *
              generalize w5.heap.size = g5 at *
              have lz := fun W (x : Ext Non v5 W) => load_sl okd (E5.extN_ x)
              have q2 := fun W => neq_sl W okd okd
              rw [show decide (sl0 = sl0) = true from decide_eq_true rfl] at q2
              refine wp_region_seq Non ((0, true) :: (1, true) :: (2, true) :: (3, true) :: (4, true) :: (5, true) :: (6, true) :: (7, true) :: (8, true) :: (9, true) :: (10, true) :: (11, true) :: (12, true) :: (13, true) :: (14, true) :: (15, true) :: (16, true) :: (17, true) :: (18, true) :: (19, true) :: (20, true) :: (21, true) :: (22, true) :: (23, true) :: (24, true) :: (25, true) :: (26, true) :: []) (by kernel_rfl) (by kernel_rfl) (by kernel_rfl) ?_
              iterate 8 (refine wpSeq_quiet rfl rfl ?_; apply Exists.intro; refine ⟨?_, ?_⟩; (intro W hW; go_simp; try with_reducible rfl); (intro K hK; simp only [Act.put, List.setIfInBounds_toArray, List.set_cons_zero, List.set_cons_succ]; refine hK _ ?_; clear hK K))
              iterate 6 (refine wpSeq_skip rfl rfl (fun K hK => ?_); simp only [Act.put, List.setIfInBounds_toArray, List.set_cons_zero, List.set_cons_succ]; refine hK _ ?_; clear hK K)
              iterate 13 (refine wpSeq_quiet rfl rfl ?_; apply Exists.intro; refine ⟨?_, ?_⟩; (intro W hW; have u1 := lz W hW.drewL; go_simp; try with_reducible rfl); (intro K hK; simp only [Act.put, List.setIfInBounds_toArray, List.set_cons_zero, List.set_cons_succ]; refine hK _ ?_; clear hK K))
              refine wpSeq_end ?_
              have Z6 := Z5.drew
              clear lz E5
              go_wp2_with fail
              exact ⟨⟨m + 1, by omega, by go_num, Z6⟩, by simp [intOf]; omega⟩
          · obtain rfl : m = 5 := by omega
            have Zf := XW.transN Z
            go_wp2_with fail
            go_ret
            exact ⟨rfl, Zf.belowN⟩
end Go.Proofs.Ytgfjpoopghdilaa
