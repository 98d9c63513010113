/- The document's answer for layer 10: Read. -/
import Derived.Test.YtgfjpoopghdilaaRef10R
import Derived.Test.YtgfjpoopghdilaaSeqT
namespace Go.Proofs.Ytgfjpoopghdilaa
open Go.RowKit

@[go_sem ↓] theorem big_load_x (x : Value) : Instr.loadAt 27 x = bigLoad 27 x := rfl
@[go_sem ↓] theorem big_store_x (x v : Value) : Instr.storeAt 27 x v = bigStore 27 x v := rfl
theorem info_x {l : List UInt8} (h : l.length = 16) : (Try.prog.info? 27).map (·.size) = some (ba l).size := by rw [ba_size, h]; kernel_rfl
@[go_sem ↓] theorem zero_x (w : World) : (zeroValue 27).run Try.prog w = .ok (.agg (zrow 16)) w :=
  (zero_of_info (P := Try.prog) (t := 27) (n := 16) (by kernel_rfl)).1 w
theorem fill_set (l : List UInt8) (j : Nat) (hj : j < l.length) : (l.take j ++ zeros (l.length - j)).set j (l.getD j 0) = l.take (j + 1) ++ zeros (l.length - (j + 1)) := by
  have h1 : (l.take j).length = j := by simp; omega
  obtain ⟨k, hk⟩ : ∃ k, l.length - j = k + 1 := ⟨l.length - j - 1, by omega⟩
  rw [List.set_append_right _ _ (by omega), h1, Nat.sub_self, hk, show l.length - (j + 1) = k from by omega, List.take_succ_eq_append_getElem hj, List.append_assoc]
  congr 1
  simp [zeros, List.replicate_succ, List.getD, hj]
set_option maxRecDepth 100000 in
set_option maxHeartbeats 2000000 in
theorem sixteen_calls (w : World) {l : List UInt8} (hl : l.length = 16) : Calls Try.prog 35 #[.string (str l)] w fun e w' => e = .returned (.agg (ba l)) ∧ Ext Non w w' := by
  have nz := row_ne (zrow_size 16)
  have A0 := (Blk.new w 27 (zrow 16)).alloc (.cells (zrow 16) 27)
  have B0 := Blk.new (w.alloc (.cells (zrow 16) 27)) 27 (zrow 16)
  have X0 : Ext Non w ((w.alloc (.cells (zrow 16) 27)).alloc (.cells (zrow 16) 27)) := ((Ext.refl Non w).alloc _).alloc _
  have st := B0.big_store (P := Try.prog) (ty := 27) (cs' := zrow 16) rfl (info_x (zeros_length 16)) (ba_all (zeros 16))
  rw [World.size_alloc] at B0 st
  have A1 := A0.setRow_far (g' := w.heap.size + 1) (by omega) (zrow 16)
  have B1 := B0.setRow (zrow 16)
  have X1 := X0.setRow (.inl (Nat.le_succ _)) (g := w.heap.size + 1) (zrow 16)
  clear A0 B0 X0
  go_enter Try.func35, Try.ntmps35
  go_wp2_with fail
  clear st
  generalize ((w.alloc (.cells (zrow 16) 27)).alloc (.cells (zrow 16) 27)).setRow (w.heap.size + 1) (zrow 16) = v at *
  have hz : (l.take 0 ++ zeros (l.length - 0)) = zeros 16 := by rw [hl]; rfl
  go_loopw [4] (fun i wr => ∃ j : Nat, j ≤ 16 ∧ i = .int .i64 j ∧ Blk wr w.heap.size 27 (zrow 16) ∧ Blk wr (w.heap.size + 1) 27 (ba (l.take j ++ zeros (l.length - j))) ∧ Ext Non w wr) (fun i _ => 16 - (intOf i).toNat)
  case atStart => exact ⟨0, by omega, rfl, A1, by rw [hz]; exact B1, X1⟩
  case round =>
    clear A1 B1 X1
    obtain ⟨j, hj, rfl, A, B, X⟩ := hrel
    by_cases hlt : j < 16
    · have hs := fill_set l j (by omega)
      have hll : (l.take j ++ zeros (l.length - j)).length = 16 := by simp [zeros]; omega
      have cj : wr.cell? ⟨w.heap.size + 1, j, none⟩ = some (.int .u8 (((l.take j ++ zeros (l.length - j)).getD j 0).toNat : Int)) := by rw [B.cell, ba_get _ _ (by omega)]
      have fj := B.frozen j
      have B2 := B.set_ j (.int .u8 ((l.getD j 0).toNat : Int))
      rw [ba_set, hs] at B2
      have A2 := A.far (p := ⟨w.heap.size + 1, j, none⟩) (by show w.heap.size ≠ w.heap.size + 1; omega) (.int .u8 ((l.getD j 0).toNat : Int))
      have X2 := X.setCell (p := ⟨w.heap.size + 1, j, none⟩) (.inl (Nat.le_succ _)) (.int .u8 ((l.getD j 0).toNat : Int))
      have hg : l.getD j 0 = l[j]'(by omega) := by simp [List.getD, show j < l.length from by omega]
      rw [hg] at B2 A2 X2
      have hsz : (str l).size = 16 := by rw [str_size, hl]
      have e : ∀ h, (str l)[j]'h = l[j]'(by omega) := fun h => rfl
      have i1 : (j : Int) < 16 := by omega
      clear hs hg A B X
      go_wp2_with fail
      exact ⟨⟨j + 1, by omega, by go_num, A2, B2, X2⟩, by simp [intOf]; omega⟩
    · obtain rfl : j = 16 := by omega
      have e : l.take 16 ++ zeros (l.length - 16) = l := by rw [hl, List.take_of_length_le (by omega)]; simp [zeros]
      rw [e] at B
      have ld := B.big_load (P := Try.prog) (ty := 27) Try.underlying27 rfl (info_x hl)
      have st := A.big_store (P := Try.prog) (ty := 27) (cs' := ba l) (by rw [zrow_size, ba_size, hl]) (info_x hl) (ba_all l)
      have A2 := A.setRow (ba l)
      have X2 := X.setRow (.inl (Nat.le_refl _)) (g := w.heap.size) (ba l)
      clear B A X
      go_wp2_with fail
      exact bodyPost_ret (A2.results Try.results35 _ rfl Try.underlying27 rfl (info_x hl)) rfl ⟨rfl, X2⟩

theorem foldl_put (o : Nat) (post : List Value) : ∀ (L D pre : List Value) (k : Nat), pre.length = o + k → D.length = L.length →
    List.foldl (fun (cs : Array Value) (x : Value × Nat) => cs.setIfInBounds (o + x.2) x.1) (pre ++ (D ++ post)).toArray (L.zipIdx k) = (pre ++ (L ++ post)).toArray
  | [], [], pre, k, _, _ => rfl
  | x :: L, d :: D, pre, k, hp, hd => by
    have hd' : D.length = L.length := by simpa using hd
    have e : (pre ++ (d :: D ++ post)).toArray.setIfInBounds (o + k) x = ((pre ++ [x]) ++ (D ++ post)).toArray := by
      rw [List.setIfInBounds_toArray, List.set_append_right _ _ (by omega), hp, Nat.sub_self]
      simp
    rw [List.zipIdx_cons, List.foldl_cons, e, foldl_put o post L D (pre ++ [x]) (k + 1) (by simp; omega) hd']
    simp
  | [], _ :: _, _, _, _, hd => by simp at hd
  | _ :: _, [], _, _, _, hd => by simp at hd
theorem foldl_ba (o : Nat) (pre post : List Value) (l dst : List UInt8) (hp : pre.length = o) (n : Nat) (hn : l.length = n) (hd : dst.length = n) :
    Array.foldl (fun (cs : Array Value) (x : Value × Nat) => cs.setIfInBounds (o + x.snd) x.fst) (pre ++ (bvs dst ++ post)).toArray (ba l).zipIdx 0 n = (pre ++ (bvs l ++ post)).toArray := by
  have h := foldl_put o post (bvs l) (bvs dst) pre 0 (by omega) (by rw [bvs_length, bvs_length, hn, hd])
  have hs : n = (ba l).zipIdx.size := by simp [ba_size, hn]
  rw [hs, ← Array.foldl_toList]
  rw [show (ba l).zipIdx.toList = (bvs l).zipIdx 0 from by simp [ba]]
  exact h
theorem sl_putn {s : Sl} (h : s.ok) (no : List UInt8) (hn : no.length = 16) : Array.foldl (fun (cs : Array Value) (x : Value × Nat) => cs.setIfInBounds (5 + x.snd) x.fst) (sl s) (ba no).zipIdx 0 16 = sl { s with nonce := no } := by
  have := foldl_ba 5 [.bool s.last, .int .u16 s.next, .int .u16 s.box, .int .u16 s.who, .int .u32 s.epoch] (bvs s.mac ++ [.int .u64 s.lo, .int .u64 s.hi, .int .u32 s.delay]) no s.nonce rfl 16 hn h.nonce
  rw [← slL_nonce s] at this
  have e := slL_nonce { s with nonce := no }
  simp only at e
  rw [← e] at this
  exact this
theorem sl_putm {s : Sl} (h : s.ok) (mc : List UInt8) (hm : mc.length = 16) : Array.foldl (fun (cs : Array Value) (x : Value × Nat) => cs.setIfInBounds (21 + x.snd) x.fst) (sl s) (ba mc).zipIdx 0 16 = sl { s with mac := mc } := by
  have := foldl_ba 21 ([.bool s.last, .int .u16 s.next, .int .u16 s.box, .int .u16 s.who, .int .u32 s.epoch] ++ bvs s.nonce) [.int .u64 s.lo, .int .u64 s.hi, .int .u32 s.delay] mc s.mac (by simp [bvs_length, h.nonce]) 16 hm h.mac
  rw [← slL_mac s] at this
  have e := slL_mac { s with mac := mc }
  simp only at e
  rw [← e] at this
  exact this
theorem slb_rdsl {l : List UInt8} (hl : l.length = 64) : slb (rdsl l) = l ↔ (num (l.take 1) ≤ 1 ∧ l.drop 61 = zeros 3) := by
  have s2 : ∀ (a k : Nat), (l.drop a).take k ++ l.drop (a + k) = l.drop a := by
    intro a k
    rw [← List.drop_drop, List.take_append_drop]
  obtain ⟨M, hM⟩ : ∃ M, (l.drop 1).take 2 ++ (l.drop 3).take 8 ++ (l.drop 11).take 8 ++ (l.drop 19).take 4 ++ (l.drop 23).take 2 ++ (l.drop 25).take 4 ++ (l.drop 29).take 16 ++ (l.drop 45).take 16 = M := ⟨_, rfl⟩
  have h1 : M ++ l.drop 61 = l.drop 1 := by
    rw [← hM]
    simp only [List.append_assoc]
    rw [s2 45 16, s2 29 16, s2 25 4, s2 23 2, s2 19 4, s2 11 8, s2 3 8, s2 1 2]
  have h2 : slb (rdsl l) = be 1 (if num (l.take 1) == 1 then 1 else 0) ++ (M ++ zeros 3) := by
    have et : (if (num (l.take 1) == 1) = true then (if (num (l.take 1) == 1) = true then num ((l.drop 1).take 2) else 0) else (if (num (l.take 1) == 1) = true then 0 else num ((l.drop 1).take 2))) = num ((l.drop 1).take 2) := by
      split <;> rfl
    unfold slb rdsl
    simp only [et]
    rw [be_num 2 _ (by simp; omega), be_num 8 _ (by simp; omega), be_num 8 _ (by simp; omega), be_num 4 _ (by simp; omega), be_num 2 _ (by simp; omega), be_num 4 _ (by simp; omega), ← hM]
    simp only [List.append_assoc]
  have h3 : l = be 1 (num (l.take 1)) ++ (M ++ l.drop 61) := by
    rw [be_num 1 _ (by simp; omega), h1, List.take_append_drop]
  have hk := num_lt 1 (l.take 1) (by simp; omega)
  generalize num (l.take 1) = k at *
  rw [h2]
  constructor
  · intro h
    rw [h3] at h
    obtain ⟨e1, e2⟩ := List.append_inj h (by rw [be_length, be_length])
    have e3 := (List.append_inj_right e2 rfl)
    have e4 := congrArg num e1
    rw [num_be, num_be, Nat.mod_eq_of_lt (show k < 256 ^ 1 from hk)] at e4
    constructor
    · by_cases hk1 : k = 1
      · omega
      · rw [if_neg (by simpa using hk1)] at e4
        simp at e4
        omega
    · rw [h3, List.drop_append, be_length, List.drop_of_length_le (by rw [be_length]; decide), List.nil_append]
      have hM61 : M.length = 60 := by
        have := congrArg List.length h1
        simp [hl] at this
        omega
      rw [show 61 - 1 = M.length from by omega, List.drop_left]
      rw [← e3]
  · rintro ⟨a, b⟩
    rw [← b]
    have e : (if (k == 1) = true then 1 else 0) = k := by
      split
      · rename_i h
        simp at h
        omega
      · rename_i h
        simp at h
        omega
    rw [e]
    exact h3.symm
theorem extract_part (l : List UInt8) (a b k : Nat) (hab : a + k = b) (m : List UInt8) (hm : (l.drop a).take k = m) : (str l).extract a b = str m := by
  rw [str_extract, List.drop_take, ← hm]
  congr 2
  omega
set_option maxRecDepth 100000 in
set_option maxHeartbeats 8000000 in
theorem rread_calls (w : World) {l : List UInt8} (hl : l.length = 64) : Calls Try.prog 18 #[.string (str l)] w fun e w' => e = .returned (.tuple #[.agg (sl (decs l)), .int .i64 (dece l : Nat)]) ∧ Ext Non w w' := by
  have ne := sl_ne sl0
  have hsz : (str l).size = 64 := by rw [str_size, hl]
  have A0 := Blk.new w 32 (sl sl0)
  have X0 : Ext Non w (w.alloc (.cells (sl sl0) 32)) := (Ext.refl Non w).alloc _
  obtain ⟨mtw, hmtw⟩ : ∃ m, (l.drop 1).take 2 = m := ⟨_, rfl⟩
  have ltw : mtw.length = 2 := by rw [← hmtw]; simp; omega
  have xtw := extract_part l 1 3 2 rfl mtw hmtw
  have btw := num_lt 2 mtw ltw
  obtain ⟨tw, htw⟩ : ∃ n, num mtw = n := ⟨_, rfl⟩
  rw [htw] at btw
  obtain ⟨mlo, hmlo⟩ : ∃ m, (l.drop 3).take 8 = m := ⟨_, rfl⟩
  have llo : mlo.length = 8 := by rw [← hmlo]; simp; omega
  have xlo := extract_part l 3 11 8 rfl mlo hmlo
  have blo := num_lt 8 mlo llo
  obtain ⟨lo, hlo⟩ : ∃ n, num mlo = n := ⟨_, rfl⟩
  rw [hlo] at blo
  obtain ⟨mhi, hmhi⟩ : ∃ m, (l.drop 11).take 8 = m := ⟨_, rfl⟩
  have lhi : mhi.length = 8 := by rw [← hmhi]; simp; omega
  have xhi := extract_part l 11 19 8 rfl mhi hmhi
  have bhi := num_lt 8 mhi lhi
  obtain ⟨hi, hhi⟩ : ∃ n, num mhi = n := ⟨_, rfl⟩
  rw [hhi] at bhi
  obtain ⟨mdl, hmdl⟩ : ∃ m, (l.drop 19).take 4 = m := ⟨_, rfl⟩
  have ldl : mdl.length = 4 := by rw [← hmdl]; simp; omega
  have xdl := extract_part l 19 23 4 rfl mdl hmdl
  have bdl := num_lt 4 mdl ldl
  obtain ⟨dl, hdl⟩ : ∃ n, num mdl = n := ⟨_, rfl⟩
  rw [hdl] at bdl
  obtain ⟨mwh, hmwh⟩ : ∃ m, (l.drop 23).take 2 = m := ⟨_, rfl⟩
  have lwh : mwh.length = 2 := by rw [← hmwh]; simp; omega
  have xwh := extract_part l 23 25 2 rfl mwh hmwh
  have bwh := num_lt 2 mwh lwh
  obtain ⟨wh, hwh⟩ : ∃ n, num mwh = n := ⟨_, rfl⟩
  rw [hwh] at bwh
  obtain ⟨mep, hmep⟩ : ∃ m, (l.drop 25).take 4 = m := ⟨_, rfl⟩
  have lep : mep.length = 4 := by rw [← hmep]; simp; omega
  have xep := extract_part l 25 29 4 rfl mep hmep
  have bep := num_lt 4 mep lep
  obtain ⟨ep, hep⟩ : ∃ n, num mep = n := ⟨_, rfl⟩
  rw [hep] at bep
  obtain ⟨no, hmno⟩ : ∃ m, (l.drop 29).take 16 = m := ⟨_, rfl⟩
  have lno : no.length = 16 := by rw [← hmno]; simp; omega
  have xno := extract_part l 29 45 16 rfl no hmno
  have ano : ba no ≠ #[] := row_ne (n := 15) (by rw [ba_size, lno])
  obtain ⟨mc, hmmc⟩ : ∃ m, (l.drop 45).take 16 = m := ⟨_, rfl⟩
  have lmc : mc.length = 16 := by rw [← hmmc]; simp; omega
  have xmc := extract_part l 45 61 16 rfl mc hmmc
  have amc : ba mc ≠ #[] := row_ne (n := 15) (by rw [ba_size, lmc])
  have wdl : IntKind.u32.wrap (dl : Int) = (dl : Int) := by rw [IntKind.wrap_u32]; omega
  have wwh : IntKind.u16.wrap (wh : Int) = (wh : Int) := by rw [IntKind.wrap_u16]; omega
  have wep : IntKind.u32.wrap (ep : Int) = (ep : Int) := by rw [IntKind.wrap_u32]; omega
  have wtw : IntKind.u16.wrap (tw : Int) = (tw : Int) := by rw [IntKind.wrap_u16]; omega
  obtain ⟨c0, hc0⟩ : ∃ c, l[0]'(by omega) = c := ⟨_, rfl⟩
  have e0 : ∀ h, (str l)[0]'h = c0 := fun h => hc0
  obtain ⟨kd, hkd⟩ : ∃ k, c0.toNat = k := ⟨_, rfl⟩
  have hk8 : kd < 256 := by rw [← hkd]; exact c0.toNat_lt
  go_enter Try.func18, Try.ntmps18
  go_upto_region 1 with (fail)
  generalize w.alloc (.cells (sl sl0) 32) = v at *
  go_cut [4] from 7 (fun c4 wc => ∃ g, c4 = .pointer (some ⟨g, 0, none⟩) ∧ Blk wc g 32 (sl ⟨((kd : Int) == 1), 0, 0, wh, ep, no, mc, lo, hi, dl⟩) ∧ v.heap.size ≤ g ∧ Ext Non v wc)
  case first =>
    obtain ⟨d, hd⟩ : ∃ d, ((kd : Int) == 1) = d := ⟨_, rfl⟩
    have z16 := zeros_length 16
    have okA : ∀ (wh ep lo hi dl : Nat) (no mc : List UInt8), wh < 65536 → ep < 4294967296 → lo < 18446744073709551616 → hi < 18446744073709551616 → dl < 4294967296 → no.length = 16 → mc.length = 16 → (⟨d, 0, 0, wh, ep, no, mc, lo, hi, dl⟩ : Sl).ok :=
      fun wh ep lo hi dl no mc h1 h2 h3 h4 h5 h6 h7 => ⟨Nat.succ_pos _, Nat.succ_pos _, h1, h2, h6, h7, h3, h4, h5⟩
    have p16 : (0 : Nat) < 65536 := by decide
    have p32 : (0 : Nat) < 4294967296 := by decide
    have p64 : (0 : Nat) < 18446744073709551616 := by decide
    have ok1 := okA 0 0 0 0 0 _ _ p16 p32 p64 p64 p32 z16 z16
    have ok2 := okA 0 0 lo 0 0 _ _ p16 p32 blo p64 p32 z16 z16
    have ok3 := okA 0 0 lo hi 0 _ _ p16 p32 blo bhi p32 z16 z16
    have ok4 := okA 0 0 lo hi dl _ _ p16 p32 blo bhi bdl z16 z16
    have ok5 := okA wh 0 lo hi dl _ _ bwh p32 blo bhi bdl z16 z16
    have ok6 := okA wh ep lo hi dl _ _ bwh bep blo bhi bdl z16 z16
    have ok7 := okA wh ep lo hi dl _ _ bwh bep blo bhi bdl lno z16
    have ok8 := okA wh ep lo hi dl _ _ bwh bep blo bhi bdl lno lmc
    have z40 := sl_size sl0_ok
    have zno : (ba no).size = 16 := by rw [ba_size, lno]
    have zmc : (ba mc).size = 16 := by rw [ba_size, lmc]
    have z7 := sl_size ok7
    have eC : ((((((sl sl0).setIfInBounds 0 (.bool d)).setIfInBounds 37 (.int .u64 lo)).setIfInBounds 38 (.int .u64 hi)).setIfInBounds 39 (.int .u32 dl)).setIfInBounds 3 (.int .u16 wh)).setIfInBounds 4 (.int .u32 ep) = sl ⟨d, 0, 0, wh, ep, zeros 16, zeros 16, lo, hi, dl⟩ := by
      rw [sl_set0]
      refine (congrArg (fun a : Array Value => ((((a.setIfInBounds 38 (.int .u64 hi)).setIfInBounds 39 (.int .u32 dl)).setIfInBounds 3 (.int .u16 wh)).setIfInBounds 4 (.int .u32 ep))) (sl_set37 ok1 lo)).trans ?_
      refine (congrArg (fun a : Array Value => (((a.setIfInBounds 39 (.int .u32 dl)).setIfInBounds 3 (.int .u16 wh)).setIfInBounds 4 (.int .u32 ep))) (sl_set38 ok2 hi)).trans ?_
      refine (congrArg (fun a : Array Value => ((a.setIfInBounds 3 (.int .u16 wh)).setIfInBounds 4 (.int .u32 ep))) (sl_set39 ok3 dl)).trans ?_
      refine (congrArg (fun a : Array Value => (a.setIfInBounds 4 (.int .u32 ep))) (sl_set3 _ wh)).trans ?_
      exact sl_set4 _ ep
    have eN := sl_putn ok6 no lno
    have eM := sl_putm ok7 mc lmc
    simp only at eN eM
    clear okA ok1 ok2 ok3 ok4 ok5 ok6 ok7 p16 p32 p64
    refine wp_region_tree (Frm v.heap.size) (.q 0 (.q 1 (.q 2 (.q 3 (.q 4 (.q 6 (.q 7 (.q 9 (.q 10 (.q 13 (.q 14 (.q 17 (.q 18 (.q 21 (.q 22 (.q 24 (.q 25 (.b 5 (.b 8 (.b 11 (.q 12 (.b 15 (.q 16 (.b 19 (.q 20 (.b 23 (.b 26 (.q 27 (.c 28 (.c 29 .stop))) 28 (.c 26 (.q 27 (.c 29 .stop)))) 28 (.c 23 (.c 26 (.q 27 (.c 29 .stop)))))) 28 (.c 19 (.q 20 (.c 23 (.c 26 (.q 27 (.c 29 .stop)))))))) 28 (.c 15 (.q 16 (.c 19 (.q 20 (.c 23 (.c 26 (.q 27 (.c 29 .stop)))))))))) 28 (.c 11 (.q 12 (.c 15 (.q 16 (.c 19 (.q 20 (.c 23 (.c 26 (.q 27 (.c 29 .stop))))))))))) 28 (.c 8 (.c 11 (.q 12 (.c 15 (.q 16 (.c 19 (.q 20 (.c 23 (.c 26 (.q 27 (.c 29 .stop)))))))))))) 28 (.c 5 (.c 8 (.c 11 (.q 12 (.c 15 (.q 16 (.c 19 (.q 20 (.c 23 (.c 26 (.q 27 (.c 29 .stop)))))))))))))))))))))))))))))) (by kernel_rfl) (by kernel_rfl) (by kernel_rfl) ?_
    iterate 17 (refine wpTree_quiet rfl rfl ?_; apply Exists.intro; refine ⟨?_, ?_⟩; (intro W hW; go_simp; try with_reducible rfl); (intro K hK; simp only [Act.put, List.setIfInBounds_toArray, List.set_cons_zero, List.set_cons_succ]; refine hK _ ?_; clear hK K))
    refine wpTree_both rfl rfl rfl rfl ?_ ?_
    · intro K hK
      go_simp
      have ctr := number_calls v.drew mlo (by rw [llo]; decide)
      with_reducible refine Calls.mono ctr ?_
      clear ctr
      rintro e u ⟨rfl, rfl⟩
      go_simp
      refine hK _ _ (Ext.refl _ _) ?_
      clear hK K
      refine wpTree_both rfl rfl rfl rfl ?_ ?_
      · intro K hK
        go_simp
        have ctr := number_calls v.drew mhi (by rw [lhi]; decide)
        with_reducible refine Calls.mono ctr ?_
        clear ctr
        rintro e u ⟨rfl, rfl⟩
        go_simp
        refine hK _ _ (Ext.refl _ _) ?_
        clear hK K
        refine wpTree_both rfl rfl rfl rfl ?_ ?_
        · intro K hK
          go_simp
          have ctr := number_calls v.drew mdl (by rw [ldl]; decide)
          with_reducible refine Calls.mono ctr ?_
          clear ctr
          rintro e u ⟨rfl, rfl⟩
          go_simp
          refine hK _ _ (Ext.refl _ _) ?_
          clear hK K
          iterate 1 (refine wpTree_quiet rfl rfl ?_; apply Exists.intro; refine ⟨?_, ?_⟩; (intro W hW; go_simp; try with_reducible rfl); (intro K hK; simp only [Act.put, List.setIfInBounds_toArray, List.set_cons_zero, List.set_cons_succ]; refine hK _ ?_; clear hK K))
          refine wpTree_both rfl rfl rfl rfl ?_ ?_
          · intro K hK
            go_simp
            have ctr := number_calls v.drew mwh (by rw [lwh]; decide)
            with_reducible refine Calls.mono ctr ?_
            clear ctr
            rintro e u ⟨rfl, rfl⟩
            go_simp
            refine hK _ _ (Ext.refl _ _) ?_
            clear hK K
            iterate 1 (refine wpTree_quiet rfl rfl ?_; apply Exists.intro; refine ⟨?_, ?_⟩; (intro W hW; go_simp; try with_reducible rfl); (intro K hK; simp only [Act.put, List.setIfInBounds_toArray, List.set_cons_zero, List.set_cons_succ]; refine hK _ ?_; clear hK K))
            refine wpTree_both rfl rfl rfl rfl ?_ ?_
            · intro K hK
              go_simp
              have ctr := number_calls v.drew mep (by rw [lep]; decide)
              with_reducible refine Calls.mono ctr ?_
              clear ctr
              rintro e u ⟨rfl, rfl⟩
              go_simp
              refine hK _ _ (Ext.refl _ _) ?_
              clear hK K
              iterate 1 (refine wpTree_quiet rfl rfl ?_; apply Exists.intro; refine ⟨?_, ?_⟩; (intro W hW; go_simp; try with_reducible rfl); (intro K hK; simp only [Act.put, List.setIfInBounds_toArray, List.set_cons_zero, List.set_cons_succ]; refine hK _ ?_; clear hK K))
              refine wpTree_both rfl rfl rfl rfl ?_ ?_
              · intro K hK
                go_simp
                have ctr := sixteen_calls v.drew lno
                with_reducible refine Calls.mono ctr ?_
                clear ctr
                rintro e u5 ⟨rfl, x5⟩
                go_simp
                refine hK _ _ x5.offN ?_
                clear hK K
                refine wpTree_both rfl rfl rfl rfl ?_ ?_
                · intro K hK
                  go_simp
                  have ctr := sixteen_calls u5 lmc
                  with_reducible refine Calls.mono ctr ?_
                  clear ctr
                  rintro e u6 ⟨rfl, x6⟩
                  go_simp
                  refine hK _ _ x6.offN ?_
                  clear hK K
                  iterate 1 (refine wpTree_quiet rfl rfl ?_; apply Exists.intro; refine ⟨?_, ?_⟩; (intro W hW; go_simp; try with_reducible rfl); (intro K hK; simp only [Act.put, List.setIfInBounds_toArray, List.set_cons_zero, List.set_cons_succ]; refine hK _ ?_; clear hK K))
                  refine wpTree_call rfl rfl (fun K hK => ?_)
                  go_simp
                  refine hK _ _ ((Ext.refl (Frm v.heap.size) u6).alloc _) ?_
                  clear hK K
                  have BF := (Blk.new u6 32 (sl sl0))
                  have XF := (((((Ext.refl Non v).drew).transN x5).transN x6).alloc (.cells (sl sl0) 32))
                  have st := BF.big_store (P := Try.prog) (ty := 32) (cs' := sl ⟨d, 0, 0, wh, ep, no, mc, lo, hi, dl⟩) (by rw [z40]; exact (sl_size ok8).symm) (sl_inf ok8) (sl_all _)
                  have hgF : v.heap.size ≤ u6.heap.size := ((((Ext.refl Non v).drew).transN x5).transN x6).size
                  refine wpTree_call rfl rfl (fun K hK => ?_)
                  go_simp
                  refine hK _ _ (Ext.setRow (Ext.refl (Frm v.heap.size) _) (.inr hgF) _) ?_
                  clear hK K
                  refine wpTree_end ?_
                  go_wp2_with fail
                  go_meet
                  case rel => exact ⟨_, rfl, (by rw [hd]; exact BF.setRow _), hgF, XF.setRow (.inl hgF) _⟩
                · intro K hK
                  go_simp
                  refine hK _ _ ((Ext.refl (Frm v.heap.size) u5).alloc _) ?_
                  clear hK K
                  refine wpTree_call rfl rfl (fun K hK => ?_)
                  go_simp
                  have ctr := sixteen_calls (u5.alloc (.cells (sl sl0) 32)) lmc
                  with_reducible refine Calls.mono ctr ?_
                  clear ctr
                  rintro e u6 ⟨rfl, x6⟩
                  go_simp
                  refine hK _ _ x6.offN ?_
                  clear hK K
                  iterate 1 (refine wpTree_quiet rfl rfl ?_; apply Exists.intro; refine ⟨?_, ?_⟩; (intro W hW; go_simp; try with_reducible rfl); (intro K hK; simp only [Act.put, List.setIfInBounds_toArray, List.set_cons_zero, List.set_cons_succ]; refine hK _ ?_; clear hK K))
                  have BF := ((Blk.new u5 32 (sl sl0)).extN_ x6)
                  have XF := (((((Ext.refl Non v).drew).transN x5).alloc (.cells (sl sl0) 32)).transN x6)
                  have st := BF.big_store (P := Try.prog) (ty := 32) (cs' := sl ⟨d, 0, 0, wh, ep, no, mc, lo, hi, dl⟩) (by rw [z40]; exact (sl_size ok8).symm) (sl_inf ok8) (sl_all _)
                  have hgF : v.heap.size ≤ u5.heap.size := (((Ext.refl Non v).drew).transN x5).size
                  refine wpTree_call rfl rfl (fun K hK => ?_)
                  go_simp
                  refine hK _ _ (Ext.setRow (Ext.refl (Frm v.heap.size) _) (.inr hgF) _) ?_
                  clear hK K
                  refine wpTree_end ?_
                  go_wp2_with fail
                  go_meet
                  case rel => exact ⟨_, rfl, (by rw [hd]; exact BF.setRow _), hgF, XF.setRow (.inl hgF) _⟩
              · intro K hK
                go_simp
                refine hK _ _ (Ext.allocW v _) ?_
                clear hK K
                refine wpTree_call rfl rfl (fun K hK => ?_)
                go_simp
                have ctr := sixteen_calls (v.alloc (.cells (sl sl0) 32)).drew lno
                with_reducible refine Calls.mono ctr ?_
                clear ctr
                rintro e u5 ⟨rfl, x5⟩
                go_simp
                refine hK _ _ x5.offN ?_
                clear hK K
                refine wpTree_call rfl rfl (fun K hK => ?_)
                go_simp
                have ctr := sixteen_calls u5 lmc
                with_reducible refine Calls.mono ctr ?_
                clear ctr
                rintro e u6 ⟨rfl, x6⟩
                go_simp
                refine hK _ _ x6.offN ?_
                clear hK K
                iterate 1 (refine wpTree_quiet rfl rfl ?_; apply Exists.intro; refine ⟨?_, ?_⟩; (intro W hW; go_simp; try with_reducible rfl); (intro K hK; simp only [Act.put, List.setIfInBounds_toArray, List.set_cons_zero, List.set_cons_succ]; refine hK _ ?_; clear hK K))
                have BF := (((Blk.new v 32 (sl sl0)).drew.extN_ x5).extN_ x6)
                have XF := ((((Ext.refl Non v).alloc (.cells (sl sl0) 32)).drew.transN x5).transN x6)
                have st := BF.big_store (P := Try.prog) (ty := 32) (cs' := sl ⟨d, 0, 0, wh, ep, no, mc, lo, hi, dl⟩) (by rw [z40]; exact (sl_size ok8).symm) (sl_inf ok8) (sl_all _)
                have hgF : v.heap.size ≤ v.heap.size := (Nat.le_refl _)
                refine wpTree_call rfl rfl (fun K hK => ?_)
                go_simp
                refine hK _ _ (Ext.setRow (Ext.refl (Frm v.heap.size) _) (.inr hgF) _) ?_
                clear hK K
                refine wpTree_end ?_
                go_wp2_with fail
                go_meet
                case rel => exact ⟨_, rfl, (by rw [hd]; exact BF.setRow _), hgF, XF.setRow (.inl hgF) _⟩
            · intro K hK
              go_simp
              refine hK _ _ (Ext.allocW v _) ?_
              clear hK K
              refine wpTree_call rfl rfl (fun K hK => ?_)
              go_simp
              have ctr := number_calls (v.alloc (.cells (sl sl0) 32)).drew mep (by rw [lep]; decide)
              with_reducible refine Calls.mono ctr ?_
              clear ctr
              rintro e u ⟨rfl, rfl⟩
              go_simp
              refine hK _ _ (Ext.refl _ _) ?_
              clear hK K
              iterate 1 (refine wpTree_quiet rfl rfl ?_; apply Exists.intro; refine ⟨?_, ?_⟩; (intro W hW; go_simp; try with_reducible rfl); (intro K hK; simp only [Act.put, List.setIfInBounds_toArray, List.set_cons_zero, List.set_cons_succ]; refine hK _ ?_; clear hK K))
              refine wpTree_call rfl rfl (fun K hK => ?_)
              go_simp
              have ctr := sixteen_calls (v.alloc (.cells (sl sl0) 32)).drew lno
              with_reducible refine Calls.mono ctr ?_
              clear ctr
              rintro e u5 ⟨rfl, x5⟩
              go_simp
              refine hK _ _ x5.offN ?_
              clear hK K
              refine wpTree_call rfl rfl (fun K hK => ?_)
              go_simp
              have ctr := sixteen_calls u5 lmc
              with_reducible refine Calls.mono ctr ?_
              clear ctr
              rintro e u6 ⟨rfl, x6⟩
              go_simp
              refine hK _ _ x6.offN ?_
              clear hK K
              iterate 1 (refine wpTree_quiet rfl rfl ?_; apply Exists.intro; refine ⟨?_, ?_⟩; (intro W hW; go_simp; try with_reducible rfl); (intro K hK; simp only [Act.put, List.setIfInBounds_toArray, List.set_cons_zero, List.set_cons_succ]; refine hK _ ?_; clear hK K))
              have BF := (((Blk.new v 32 (sl sl0)).drew.extN_ x5).extN_ x6)
              have XF := ((((Ext.refl Non v).alloc (.cells (sl sl0) 32)).drew.transN x5).transN x6)
              have st := BF.big_store (P := Try.prog) (ty := 32) (cs' := sl ⟨d, 0, 0, wh, ep, no, mc, lo, hi, dl⟩) (by rw [z40]; exact (sl_size ok8).symm) (sl_inf ok8) (sl_all _)
              have hgF : v.heap.size ≤ v.heap.size := (Nat.le_refl _)
              refine wpTree_call rfl rfl (fun K hK => ?_)
              go_simp
              refine hK _ _ (Ext.setRow (Ext.refl (Frm v.heap.size) _) (.inr hgF) _) ?_
              clear hK K
              refine wpTree_end ?_
              go_wp2_with fail
              go_meet
              case rel => exact ⟨_, rfl, (by rw [hd]; exact BF.setRow _), hgF, XF.setRow (.inl hgF) _⟩
          · intro K hK
            go_simp
            refine hK _ _ (Ext.allocW v _) ?_
            clear hK K
            refine wpTree_call rfl rfl (fun K hK => ?_)
            go_simp
            have ctr := number_calls (v.alloc (.cells (sl sl0) 32)).drew mwh (by rw [lwh]; decide)
            with_reducible refine Calls.mono ctr ?_
            clear ctr
            rintro e u ⟨rfl, rfl⟩
            go_simp
            refine hK _ _ (Ext.refl _ _) ?_
            clear hK K
            iterate 1 (refine wpTree_quiet rfl rfl ?_; apply Exists.intro; refine ⟨?_, ?_⟩; (intro W hW; go_simp; try with_reducible rfl); (intro K hK; simp only [Act.put, List.setIfInBounds_toArray, List.set_cons_zero, List.set_cons_succ]; refine hK _ ?_; clear hK K))
            refine wpTree_call rfl rfl (fun K hK => ?_)
            go_simp
            have ctr := number_calls (v.alloc (.cells (sl sl0) 32)).drew mep (by rw [lep]; decide)
            with_reducible refine Calls.mono ctr ?_
            clear ctr
            rintro e u ⟨rfl, rfl⟩
            go_simp
            refine hK _ _ (Ext.refl _ _) ?_
            clear hK K
            iterate 1 (refine wpTree_quiet rfl rfl ?_; apply Exists.intro; refine ⟨?_, ?_⟩; (intro W hW; go_simp; try with_reducible rfl); (intro K hK; simp only [Act.put, List.setIfInBounds_toArray, List.set_cons_zero, List.set_cons_succ]; refine hK _ ?_; clear hK K))
            refine wpTree_call rfl rfl (fun K hK => ?_)
            go_simp
            have ctr := sixteen_calls (v.alloc (.cells (sl sl0) 32)).drew lno
            with_reducible refine Calls.mono ctr ?_
            clear ctr
            rintro e u5 ⟨rfl, x5⟩
            go_simp
            refine hK _ _ x5.offN ?_
            clear hK K
            refine wpTree_call rfl rfl (fun K hK => ?_)
            go_simp
            have ctr := sixteen_calls u5 lmc
            with_reducible refine Calls.mono ctr ?_
            clear ctr
            rintro e u6 ⟨rfl, x6⟩
            go_simp
            refine hK _ _ x6.offN ?_
            clear hK K
            iterate 1 (refine wpTree_quiet rfl rfl ?_; apply Exists.intro; refine ⟨?_, ?_⟩; (intro W hW; go_simp; try with_reducible rfl); (intro K hK; simp only [Act.put, List.setIfInBounds_toArray, List.set_cons_zero, List.set_cons_succ]; refine hK _ ?_; clear hK K))
            have BF := (((Blk.new v 32 (sl sl0)).drew.extN_ x5).extN_ x6)
            have XF := ((((Ext.refl Non v).alloc (.cells (sl sl0) 32)).drew.transN x5).transN x6)
            have st := BF.big_store (P := Try.prog) (ty := 32) (cs' := sl ⟨d, 0, 0, wh, ep, no, mc, lo, hi, dl⟩) (by rw [z40]; exact (sl_size ok8).symm) (sl_inf ok8) (sl_all _)
            have hgF : v.heap.size ≤ v.heap.size := (Nat.le_refl _)
            refine wpTree_call rfl rfl (fun K hK => ?_)
            go_simp
            refine hK _ _ (Ext.setRow (Ext.refl (Frm v.heap.size) _) (.inr hgF) _) ?_
            clear hK K
            refine wpTree_end ?_
            go_wp2_with fail
            go_meet
            case rel => exact ⟨_, rfl, (by rw [hd]; exact BF.setRow _), hgF, XF.setRow (.inl hgF) _⟩
        · intro K hK
          go_simp
          refine hK _ _ (Ext.allocW v _) ?_
          clear hK K
          refine wpTree_call rfl rfl (fun K hK => ?_)
          go_simp
          have ctr := number_calls (v.alloc (.cells (sl sl0) 32)).drew mdl (by rw [ldl]; decide)
          with_reducible refine Calls.mono ctr ?_
          clear ctr
          rintro e u ⟨rfl, rfl⟩
          go_simp
          refine hK _ _ (Ext.refl _ _) ?_
          clear hK K
          iterate 1 (refine wpTree_quiet rfl rfl ?_; apply Exists.intro; refine ⟨?_, ?_⟩; (intro W hW; go_simp; try with_reducible rfl); (intro K hK; simp only [Act.put, List.setIfInBounds_toArray, List.set_cons_zero, List.set_cons_succ]; refine hK _ ?_; clear hK K))
          refine wpTree_call rfl rfl (fun K hK => ?_)
          go_simp
          have ctr := number_calls (v.alloc (.cells (sl sl0) 32)).drew mwh (by rw [lwh]; decide)
          with_reducible refine Calls.mono ctr ?_
          clear ctr
          rintro e u ⟨rfl, rfl⟩
          go_simp
          refine hK _ _ (Ext.refl _ _) ?_
          clear hK K
          iterate 1 (refine wpTree_quiet rfl rfl ?_; apply Exists.intro; refine ⟨?_, ?_⟩; (intro W hW; go_simp; try with_reducible rfl); (intro K hK; simp only [Act.put, List.setIfInBounds_toArray, List.set_cons_zero, List.set_cons_succ]; refine hK _ ?_; clear hK K))
          refine wpTree_call rfl rfl (fun K hK => ?_)
          go_simp
          have ctr := number_calls (v.alloc (.cells (sl sl0) 32)).drew mep (by rw [lep]; decide)
          with_reducible refine Calls.mono ctr ?_
          clear ctr
          rintro e u ⟨rfl, rfl⟩
          go_simp
          refine hK _ _ (Ext.refl _ _) ?_
          clear hK K
          iterate 1 (refine wpTree_quiet rfl rfl ?_; apply Exists.intro; refine ⟨?_, ?_⟩; (intro W hW; go_simp; try with_reducible rfl); (intro K hK; simp only [Act.put, List.setIfInBounds_toArray, List.set_cons_zero, List.set_cons_succ]; refine hK _ ?_; clear hK K))
          refine wpTree_call rfl rfl (fun K hK => ?_)
          go_simp
          have ctr := sixteen_calls (v.alloc (.cells (sl sl0) 32)).drew lno
          with_reducible refine Calls.mono ctr ?_
          clear ctr
          rintro e u5 ⟨rfl, x5⟩
          go_simp
          refine hK _ _ x5.offN ?_
          clear hK K
          refine wpTree_call rfl rfl (fun K hK => ?_)
          go_simp
          have ctr := sixteen_calls u5 lmc
          with_reducible refine Calls.mono ctr ?_
          clear ctr
          rintro e u6 ⟨rfl, x6⟩
          go_simp
          refine hK _ _ x6.offN ?_
          clear hK K
          iterate 1 (refine wpTree_quiet rfl rfl ?_; apply Exists.intro; refine ⟨?_, ?_⟩; (intro W hW; go_simp; try with_reducible rfl); (intro K hK; simp only [Act.put, List.setIfInBounds_toArray, List.set_cons_zero, List.set_cons_succ]; refine hK _ ?_; clear hK K))
          have BF := (((Blk.new v 32 (sl sl0)).drew.extN_ x5).extN_ x6)
          have XF := ((((Ext.refl Non v).alloc (.cells (sl sl0) 32)).drew.transN x5).transN x6)
          have st := BF.big_store (P := Try.prog) (ty := 32) (cs' := sl ⟨d, 0, 0, wh, ep, no, mc, lo, hi, dl⟩) (by rw [z40]; exact (sl_size ok8).symm) (sl_inf ok8) (sl_all _)
          have hgF : v.heap.size ≤ v.heap.size := (Nat.le_refl _)
          refine wpTree_call rfl rfl (fun K hK => ?_)
          go_simp
          refine hK _ _ (Ext.setRow (Ext.refl (Frm v.heap.size) _) (.inr hgF) _) ?_
          clear hK K
          refine wpTree_end ?_
          go_wp2_with fail
          go_meet
          case rel => exact ⟨_, rfl, (by rw [hd]; exact BF.setRow _), hgF, XF.setRow (.inl hgF) _⟩
      · intro K hK
        go_simp
        refine hK _ _ (Ext.allocW v _) ?_
        clear hK K
        refine wpTree_call rfl rfl (fun K hK => ?_)
        go_simp
        have ctr := number_calls (v.alloc (.cells (sl sl0) 32)).drew mhi (by rw [lhi]; decide)
        with_reducible refine Calls.mono ctr ?_
        clear ctr
        rintro e u ⟨rfl, rfl⟩
        go_simp
        refine hK _ _ (Ext.refl _ _) ?_
        clear hK K
        refine wpTree_call rfl rfl (fun K hK => ?_)
        go_simp
        have ctr := number_calls (v.alloc (.cells (sl sl0) 32)).drew mdl (by rw [ldl]; decide)
        with_reducible refine Calls.mono ctr ?_
        clear ctr
        rintro e u ⟨rfl, rfl⟩
        go_simp
        refine hK _ _ (Ext.refl _ _) ?_
        clear hK K
        iterate 1 (refine wpTree_quiet rfl rfl ?_; apply Exists.intro; refine ⟨?_, ?_⟩; (intro W hW; go_simp; try with_reducible rfl); (intro K hK; simp only [Act.put, List.setIfInBounds_toArray, List.set_cons_zero, List.set_cons_succ]; refine hK _ ?_; clear hK K))
        refine wpTree_call rfl rfl (fun K hK => ?_)
        go_simp
        have ctr := number_calls (v.alloc (.cells (sl sl0) 32)).drew mwh (by rw [lwh]; decide)
        with_reducible refine Calls.mono ctr ?_
        clear ctr
        rintro e u ⟨rfl, rfl⟩
        go_simp
        refine hK _ _ (Ext.refl _ _) ?_
        clear hK K
        iterate 1 (refine wpTree_quiet rfl rfl ?_; apply Exists.intro; refine ⟨?_, ?_⟩; (intro W hW; go_simp; try with_reducible rfl); (intro K hK; simp only [Act.put, List.setIfInBounds_toArray, List.set_cons_zero, List.set_cons_succ]; refine hK _ ?_; clear hK K))
        refine wpTree_call rfl rfl (fun K hK => ?_)
        go_simp
        have ctr := number_calls (v.alloc (.cells (sl sl0) 32)).drew mep (by rw [lep]; decide)
        with_reducible refine Calls.mono ctr ?_
        clear ctr
        rintro e u ⟨rfl, rfl⟩
        go_simp
        refine hK _ _ (Ext.refl _ _) ?_
        clear hK K
        iterate 1 (refine wpTree_quiet rfl rfl ?_; apply Exists.intro; refine ⟨?_, ?_⟩; (intro W hW; go_simp; try with_reducible rfl); (intro K hK; simp only [Act.put, List.setIfInBounds_toArray, List.set_cons_zero, List.set_cons_succ]; refine hK _ ?_; clear hK K))
        refine wpTree_call rfl rfl (fun K hK => ?_)
        go_simp
        have ctr := sixteen_calls (v.alloc (.cells (sl sl0) 32)).drew lno
        with_reducible refine Calls.mono ctr ?_
        clear ctr
        rintro e u5 ⟨rfl, x5⟩
        go_simp
        refine hK _ _ x5.offN ?_
        clear hK K
        refine wpTree_call rfl rfl (fun K hK => ?_)
        go_simp
        have ctr := sixteen_calls u5 lmc
        with_reducible refine Calls.mono ctr ?_
        clear ctr
        rintro e u6 ⟨rfl, x6⟩
        go_simp
        refine hK _ _ x6.offN ?_
        clear hK K
        iterate 1 (refine wpTree_quiet rfl rfl ?_; apply Exists.intro; refine ⟨?_, ?_⟩; (intro W hW; go_simp; try with_reducible rfl); (intro K hK; simp only [Act.put, List.setIfInBounds_toArray, List.set_cons_zero, List.set_cons_succ]; refine hK _ ?_; clear hK K))
        have BF := (((Blk.new v 32 (sl sl0)).drew.extN_ x5).extN_ x6)
        have XF := ((((Ext.refl Non v).alloc (.cells (sl sl0) 32)).drew.transN x5).transN x6)
        have st := BF.big_store (P := Try.prog) (ty := 32) (cs' := sl ⟨d, 0, 0, wh, ep, no, mc, lo, hi, dl⟩) (by rw [z40]; exact (sl_size ok8).symm) (sl_inf ok8) (sl_all _)
        have hgF : v.heap.size ≤ v.heap.size := (Nat.le_refl _)
        refine wpTree_call rfl rfl (fun K hK => ?_)
        go_simp
        refine hK _ _ (Ext.setRow (Ext.refl (Frm v.heap.size) _) (.inr hgF) _) ?_
        clear hK K
        refine wpTree_end ?_
        go_wp2_with fail
        go_meet
        case rel => exact ⟨_, rfl, (by rw [hd]; exact BF.setRow _), hgF, XF.setRow (.inl hgF) _⟩
    · intro K hK
      go_simp
      refine hK _ _ (Ext.allocW v _) ?_
      clear hK K
      refine wpTree_call rfl rfl (fun K hK => ?_)
      go_simp
      have ctr := number_calls (v.alloc (.cells (sl sl0) 32)).drew mlo (by rw [llo]; decide)
      with_reducible refine Calls.mono ctr ?_
      clear ctr
      rintro e u ⟨rfl, rfl⟩
      go_simp
      refine hK _ _ (Ext.refl _ _) ?_
      clear hK K
      refine wpTree_call rfl rfl (fun K hK => ?_)
      go_simp
      have ctr := number_calls (v.alloc (.cells (sl sl0) 32)).drew mhi (by rw [lhi]; decide)
      with_reducible refine Calls.mono ctr ?_
      clear ctr
      rintro e u ⟨rfl, rfl⟩
      go_simp
      refine hK _ _ (Ext.refl _ _) ?_
      clear hK K
      refine wpTree_call rfl rfl (fun K hK => ?_)
      go_simp
      have ctr := number_calls (v.alloc (.cells (sl sl0) 32)).drew mdl (by rw [ldl]; decide)
      with_reducible refine Calls.mono ctr ?_
      clear ctr
      rintro e u ⟨rfl, rfl⟩
      go_simp
      refine hK _ _ (Ext.refl _ _) ?_
      clear hK K
      iterate 1 (refine wpTree_quiet rfl rfl ?_; apply Exists.intro; refine ⟨?_, ?_⟩; (intro W hW; go_simp; try with_reducible rfl); (intro K hK; simp only [Act.put, List.setIfInBounds_toArray, List.set_cons_zero, List.set_cons_succ]; refine hK _ ?_; clear hK K))
      refine wpTree_call rfl rfl (fun K hK => ?_)
      go_simp
      have ctr := number_calls (v.alloc (.cells (sl sl0) 32)).drew mwh (by rw [lwh]; decide)
      with_reducible refine Calls.mono ctr ?_
      clear ctr
      rintro e u ⟨rfl, rfl⟩
      go_simp
      refine hK _ _ (Ext.refl _ _) ?_
      clear hK K
      iterate 1 (refine wpTree_quiet rfl rfl ?_; apply Exists.intro; refine ⟨?_, ?_⟩; (intro W hW; go_simp; try with_reducible rfl); (intro K hK; simp only [Act.put, List.setIfInBounds_toArray, List.set_cons_zero, List.set_cons_succ]; refine hK _ ?_; clear hK K))
      refine wpTree_call rfl rfl (fun K hK => ?_)
      go_simp
      have ctr := number_calls (v.alloc (.cells (sl sl0) 32)).drew mep (by rw [lep]; decide)
      with_reducible refine Calls.mono ctr ?_
      clear ctr
      rintro e u ⟨rfl, rfl⟩
      go_simp
      refine hK _ _ (Ext.refl _ _) ?_
      clear hK K
      iterate 1 (refine wpTree_quiet rfl rfl ?_; apply Exists.intro; refine ⟨?_, ?_⟩; (intro W hW; go_simp; try with_reducible rfl); (intro K hK; simp only [Act.put, List.setIfInBounds_toArray, List.set_cons_zero, List.set_cons_succ]; refine hK _ ?_; clear hK K))
      refine wpTree_call rfl rfl (fun K hK => ?_)
      go_simp
      have ctr := sixteen_calls (v.alloc (.cells (sl sl0) 32)).drew lno
      with_reducible refine Calls.mono ctr ?_
      clear ctr
      rintro e u5 ⟨rfl, x5⟩
      go_simp
      refine hK _ _ x5.offN ?_
      clear hK K
      refine wpTree_call rfl rfl (fun K hK => ?_)
      go_simp
      have ctr := sixteen_calls u5 lmc
      with_reducible refine Calls.mono ctr ?_
      clear ctr
      rintro e u6 ⟨rfl, x6⟩
      go_simp
      refine hK _ _ x6.offN ?_
      clear hK K
      iterate 1 (refine wpTree_quiet rfl rfl ?_; apply Exists.intro; refine ⟨?_, ?_⟩; (intro W hW; go_simp; try with_reducible rfl); (intro K hK; simp only [Act.put, List.setIfInBounds_toArray, List.set_cons_zero, List.set_cons_succ]; refine hK _ ?_; clear hK K))
      have BF := (((Blk.new v 32 (sl sl0)).drew.extN_ x5).extN_ x6)
      have XF := ((((Ext.refl Non v).alloc (.cells (sl sl0) 32)).drew.transN x5).transN x6)
      have st := BF.big_store (P := Try.prog) (ty := 32) (cs' := sl ⟨d, 0, 0, wh, ep, no, mc, lo, hi, dl⟩) (by rw [z40]; exact (sl_size ok8).symm) (sl_inf ok8) (sl_all _)
      have hgF : v.heap.size ≤ v.heap.size := (Nat.le_refl _)
      refine wpTree_call rfl rfl (fun K hK => ?_)
      go_simp
      refine hK _ _ (Ext.setRow (Ext.refl (Frm v.heap.size) _) (.inr hgF) _) ?_
      clear hK K
      refine wpTree_end ?_
      go_wp2_with fail
      go_meet
      case rel => exact ⟨_, rfl, (by rw [hd]; exact BF.setRow _), hgF, XF.setRow (.inl hgF) _⟩
  case rest =>
    obtain ⟨g, rfl, B, hg, X⟩ := hcut
    obtain ⟨d, hd⟩ : ∃ d, ((kd : Int) == 1) = d := ⟨_, rfl⟩
    rw [hd] at B
    have okA : ∀ (nx bx : Nat), nx < 65536 → bx < 65536 → (⟨d, nx, bx, wh, ep, no, mc, lo, hi, dl⟩ : Sl).ok := fun nx bx h1 h2 => ⟨h1, h2, bwh, bep, lno, lmc, blo, bhi, bdl⟩
    have p16 : (0 : Nat) < 65536 := by decide
    have hgw : w.heap.size ≤ g := Nat.le_trans X0.size hg
    have hne : w.heap.size ≠ g := by
      have := A0.lt
      omega
    have A1 := A0.extN_ X
    have XW := X0.transN X
    have hkn : num (l.take 1) = kd := by
      rw [← hkd, ← hc0]
      cases l with
      | nil => cases hl
      | cons a t => simp [num]
    have hS : rdsl l = ⟨d, if d then 0 else tw, if d then tw else 0, wh, ep, no, mc, lo, hi, dl⟩ := by
      have hdn : (kd == 1) = d := by
        rw [← hd]
        by_cases h : kd = 1
        · subst h; rfl
        · rw [beq_eq_false_iff_ne.2 h, beq_eq_false_iff_ne.2 (by omega)]
      unfold rdsl
      rw [hkn, hdn, hmtw, hmlo, hmhi, hmdl, hmwh, hmep, hmno, hmmc, htw, hlo, hhi, hdl, hwh, hep]
    have hdec := slb_rdsl hl
    rw [hkn] at hdec
    obtain ⟨rr, hrr⟩ : ∃ r, l.drop 61 = r := ⟨_, rfl⟩
    have lrr : rr.length = 3 := by rw [← hrr]; simp; omega
    have xrr : (str l).extract 61 64 = str rr := by
      rw [str_extract, List.take_of_length_le (by omega), hrr]
    rw [hrr] at hdec
    have hdecs : decs l = if right (rdsl l) && decide (kd ≤ 1 ∧ rr = zeros 3) then rdsl l else sl0 := by
      unfold decs
      rw [show decide (slb (rdsl l) = l) = decide (kd ≤ 1 ∧ rr = zeros 3) from decide_eq_decide.2 hdec]
    have hdece : dece l = if right (rdsl l) && decide (kd ≤ 1 ∧ rr = zeros 3) then 0 else 3 := by
      unfold dece
      rw [show decide (slb (rdsl l) = l) = decide (kd ≤ 1 ∧ rr = zeros 3) from decide_eq_decide.2 hdec]
    have HS := Lib.hid hS
    have H1 := Lib.hid hdecs
    have H2 := Lib.hid hdece
    clear hS hdecs hdece hdec hkn hrr A0 X0 X
    go_wp2_with fail
    have ctr := number_calls wc mtw (by rw [ltw]; decide)
    with_reducible refine Calls.mono ctr ?_
    clear ctr
    rintro e u ⟨rfl, rfl⟩
    rw [htw]
    have okd := okA (if d then 0 else tw) (if d then tw else 0) (by split; exact p16; exact btw) (by split; exact btw; exact p16)
    cases d
    · have c0 := (B.cell 0).trans (sl_get0 (okA 0 0 p16 p16))
      have c1 := (B.cell 1).trans (sl_get1 (okA 0 0 p16 p16))
      have f1 := B.frozen 1
      have B2 := B.set_ 1 (.int .u16 tw)
      rw [sl_set1] at B2
      have A2 := A1.far (p := ⟨g, 1, none⟩) hne (.int .u16 tw)
      have X2 := XW.setCell (p := ⟨g, 1, none⟩) (.inl hgw) (.int .u16 tw)
      obtain ⟨S, hSS⟩ : ∃ S, rdsl l = S := ⟨_, rfl⟩
      have B2' : Blk (wc.setCell ⟨g, 1, none⟩ (.int .u16 tw)) g 32 (sl S) := by
        rw [← hSS, HS.out]
        exact B2
      have okS : S.ok := by
        rw [← hSS, HS.out]
        exact okd
      rw [hSS] at H1 H2
      clear B2 HS hSS okd
      have lS := load_sl okS B2'
      go_wp2_with fail
      clear c0 c1 f1
      generalize wc.setCell ⟨g, 1, none⟩ (.int .u16 tw) = v2 at *
      have ctr := rright_calls v2 okS
      with_reducible refine Calls.mono ctr ?_
      clear ctr
      rintro e w3 ⟨rfl, x3⟩
      have B3 := B2'.extN_ x3
      have A3' := A2.extN_ x3
      have X3' := X2.transN x3
      have nS := sl_ne S
      clear lS x3 A2 X2 B2' A1 XW B
      go_upto_region 7 with (fail)
      by_cases hk1 : kd ≤ 1
      · have i1 : ¬ (1 : Int) < (kd : Int) := by omega
        refine wp_region_seq Non ((0, true) :: (1, true) :: (2, true) :: (3, true) :: (4, true) :: (5, true) :: (6, false) :: (7, true) :: (8, true) :: (9, true) :: (10, true) :: (11, true) :: (12, true) :: []) (by kernel_rfl) (by kernel_rfl) (by kernel_rfl) ?_
        iterate 6 (refine wpSeq_quiet rfl rfl ?_; apply Exists.intro; refine ⟨?_, ?_⟩; (intro W hW; go_simp; try with_reducible rfl); (intro K hK; simp only [Act.put, List.setIfInBounds_toArray, List.set_cons_zero, List.set_cons_succ]; refine hK _ ?_; clear hK K))
        refine wpSeq_call rfl rfl (fun K hK => ?_)
        go_simp
        have ctr := rzeros_calls w3.drew 3 (by omega)
        with_reducible refine Calls.mono ctr ?_
        clear ctr
        rintro e w8 ⟨rfl, rfl⟩
        go_simp
        refine hK _ _ (Ext.refl Non _) ?_
        clear hK K
        have hz : str (zeros (Int.toNat 3)) = str (zeros 3) := rfl
        have A3 := A3'.drew
        have X3 := X3'.drew
        have B4 := B3.drew
        by_cases hr3 : rr = zeros 3
        · have q3 : (rr == zeros 3) = true := by rw [hr3]; exact beq_self_eq_true _
          have hcond : decide (kd ≤ 1 ∧ rr = zeros 3) = true := decide_eq_true ⟨hk1, hr3⟩
          rw [hcond, Bool.and_true] at H1 H2
          clear hcond hr3
          cases hrS : right S
          · have hbad : right S = false := hrS
            iterate 6 (refine wpSeq_quiet rfl rfl ?_; apply Exists.intro; refine ⟨?_, ?_⟩; (intro W hW; go_simp; try with_reducible rfl); (intro K hK; simp only [Act.put, List.setIfInBounds_toArray, List.set_cons_zero, List.set_cons_succ]; refine hK _ ?_; clear hK K))
            refine wpSeq_end ?_
            have st := A3.big_store (P := Try.prog) (ty := 32) (cs' := sl sl0) rfl (sl_inf sl0_ok) (sl_all _)
            have A4 := A3.setRow (sl sl0)
            have X4 := X3.setRow (.inl (Nat.le_refl _)) (g := w.heap.size) (sl sl0)
            go_wp2_with fail
            refine bodyPost_ret (A4.results2 Try.results18 _ _ rfl rfl Try.underlying32 rfl (sl_inf sl0_ok)) rfl ⟨?_, X4⟩
            rw [H1.out, H2.out, hbad]
            rfl
          · have hgood : right S = true := hrS
            iterate 6 (refine wpSeq_quiet rfl rfl ?_; apply Exists.intro; refine ⟨?_, ?_⟩; (intro W hW; go_simp; try with_reducible rfl); (intro K hK; simp only [Act.put, List.setIfInBounds_toArray, List.set_cons_zero, List.set_cons_succ]; refine hK _ ?_; clear hK K))
            refine wpSeq_end ?_
            have ld := load_sl okS B4
            have st := A3.big_store (P := Try.prog) (ty := 32) (cs' := sl S) (by rw [sl_size sl0_ok]; exact (sl_size okS).symm) (sl_inf okS) (sl_all _)
            have A4 := A3.setRow (sl S)
            have X4 := X3.setRow (.inl (Nat.le_refl _)) (g := w.heap.size) (sl S)
            go_wp2_with fail
            refine bodyPost_ret (A4.results2 Try.results18 _ _ rfl rfl Try.underlying32 rfl (sl_inf okS)) rfl ⟨?_, X4⟩
            rw [H1.out, H2.out, hgood]
            rfl
        · have q3 : (rr == zeros 3) = false := beq_eq_false_iff_ne.2 hr3
          have hbad : (right S && decide (kd ≤ 1 ∧ rr = zeros 3)) = false := by rw [decide_eq_false (fun h => hr3 h.2), Bool.and_false]
          iterate 3 (refine wpSeq_quiet rfl rfl ?_; apply Exists.intro; refine ⟨?_, ?_⟩; (intro W hW; go_simp; try with_reducible rfl); (intro K hK; simp only [Act.put, List.setIfInBounds_toArray, List.set_cons_zero, List.set_cons_succ]; refine hK _ ?_; clear hK K))
          iterate 2 (refine wpSeq_skip rfl rfl (fun K hK => ?_); simp only [Act.put, List.setIfInBounds_toArray, List.set_cons_zero, List.set_cons_succ]; refine hK _ ?_; clear hK K)
          iterate 1 (refine wpSeq_quiet rfl rfl ?_; apply Exists.intro; refine ⟨?_, ?_⟩; (intro W hW; go_simp; try with_reducible rfl); (intro K hK; simp only [Act.put, List.setIfInBounds_toArray, List.set_cons_zero, List.set_cons_succ]; refine hK _ ?_; clear hK K))
          refine wpSeq_end ?_
          have st := A3.big_store (P := Try.prog) (ty := 32) (cs' := sl sl0) rfl (sl_inf sl0_ok) (sl_all _)
          have A4 := A3.setRow (sl sl0)
          have X4 := X3.setRow (.inl (Nat.le_refl _)) (g := w.heap.size) (sl sl0)
          go_wp2_with fail
          refine bodyPost_ret (A4.results2 Try.results18 _ _ rfl rfl Try.underlying32 rfl (sl_inf sl0_ok)) rfl ⟨?_, X4⟩
          rw [H1.out, H2.out, hbad]
          rfl
      · have i1 : (1 : Int) < (kd : Int) := by omega
        have hbad : (right S && decide (kd ≤ 1 ∧ rr = zeros 3)) = false := by rw [decide_eq_false (fun h => hk1 h.1), Bool.and_false]
        have A3 := A3'.drew
        have X3 := X3'.drew
        refine wp_region_seq Non ((0, true) :: (1, true) :: (2, true) :: (3, true) :: (4, true) :: (5, true) :: (6, false) :: (7, true) :: (8, true) :: (9, true) :: (10, true) :: (11, true) :: (12, true) :: []) (by kernel_rfl) (by kernel_rfl) (by kernel_rfl) ?_
        iterate 4 (refine wpSeq_quiet rfl rfl ?_; apply Exists.intro; refine ⟨?_, ?_⟩; (intro W hW; go_simp; try with_reducible rfl); (intro K hK; simp only [Act.put, List.setIfInBounds_toArray, List.set_cons_zero, List.set_cons_succ]; refine hK _ ?_; clear hK K))
        iterate 2 (refine wpSeq_skip rfl rfl (fun K hK => ?_); simp only [Act.put, List.setIfInBounds_toArray, List.set_cons_zero, List.set_cons_succ]; refine hK _ ?_; clear hK K)
        iterate 1 (refine wpSeq_pass rfl rfl (fun K hK => ?_); simp only [Act.put, List.setIfInBounds_toArray, List.set_cons_zero, List.set_cons_succ]; refine hK _ ?_; clear hK K)
        iterate 1 (refine wpSeq_skip rfl rfl (fun K hK => ?_); simp only [Act.put, List.setIfInBounds_toArray, List.set_cons_zero, List.set_cons_succ]; refine hK _ ?_; clear hK K)
        iterate 2 (refine wpSeq_quiet rfl rfl ?_; apply Exists.intro; refine ⟨?_, ?_⟩; (intro W hW; go_simp; try with_reducible rfl); (intro K hK; simp only [Act.put, List.setIfInBounds_toArray, List.set_cons_zero, List.set_cons_succ]; refine hK _ ?_; clear hK K))
        iterate 2 (refine wpSeq_skip rfl rfl (fun K hK => ?_); simp only [Act.put, List.setIfInBounds_toArray, List.set_cons_zero, List.set_cons_succ]; refine hK _ ?_; clear hK K)
        iterate 1 (refine wpSeq_quiet rfl rfl ?_; apply Exists.intro; refine ⟨?_, ?_⟩; (intro W hW; go_simp; try with_reducible rfl); (intro K hK; simp only [Act.put, List.setIfInBounds_toArray, List.set_cons_zero, List.set_cons_succ]; refine hK _ ?_; clear hK K))
        refine wpSeq_end ?_
        have st := A3.big_store (P := Try.prog) (ty := 32) (cs' := sl sl0) rfl (sl_inf sl0_ok) (sl_all _)
        have A4 := A3.setRow (sl sl0)
        have X4 := X3.setRow (.inl (Nat.le_refl _)) (g := w.heap.size) (sl sl0)
        go_wp2_with fail
        refine bodyPost_ret (A4.results2 Try.results18 _ _ rfl rfl Try.underlying32 rfl (sl_inf sl0_ok)) rfl ⟨?_, X4⟩
        rw [H1.out, H2.out, hbad]
        rfl
    · have c0 := (B.cell 0).trans (sl_get0 (okA 0 0 p16 p16))
      have c1 := (B.cell 2).trans (sl_get2 (okA 0 0 p16 p16))
      have f1 := B.frozen 2
      have B2 := B.set_ 2 (.int .u16 tw)
      rw [sl_set2] at B2
      have A2 := A1.far (p := ⟨g, 2, none⟩) hne (.int .u16 tw)
      have X2 := XW.setCell (p := ⟨g, 2, none⟩) (.inl hgw) (.int .u16 tw)
      obtain ⟨S, hSS⟩ : ∃ S, rdsl l = S := ⟨_, rfl⟩
      have B2' : Blk (wc.setCell ⟨g, 2, none⟩ (.int .u16 tw)) g 32 (sl S) := by
        rw [← hSS, HS.out]
        exact B2
      have okS : S.ok := by
        rw [← hSS, HS.out]
        exact okd
      rw [hSS] at H1 H2
      clear B2 HS hSS okd
      have lS := load_sl okS B2'
      go_wp2_with fail
      clear c0 c1 f1
      generalize wc.setCell ⟨g, 2, none⟩ (.int .u16 tw) = v2 at *
      have ctr := rright_calls v2 okS
      with_reducible refine Calls.mono ctr ?_
      clear ctr
      rintro e w3 ⟨rfl, x3⟩
      have B3 := B2'.extN_ x3
      have A3' := A2.extN_ x3
      have X3' := X2.transN x3
      have nS := sl_ne S
      clear lS x3 A2 X2 B2' A1 XW B
      go_upto_region 7 with (fail)
      by_cases hk1 : kd ≤ 1
      · have i1 : ¬ (1 : Int) < (kd : Int) := by omega
        refine wp_region_seq Non ((0, true) :: (1, true) :: (2, true) :: (3, true) :: (4, true) :: (5, true) :: (6, false) :: (7, true) :: (8, true) :: (9, true) :: (10, true) :: (11, true) :: (12, true) :: []) (by kernel_rfl) (by kernel_rfl) (by kernel_rfl) ?_
        iterate 6 (refine wpSeq_quiet rfl rfl ?_; apply Exists.intro; refine ⟨?_, ?_⟩; (intro W hW; go_simp; try with_reducible rfl); (intro K hK; simp only [Act.put, List.setIfInBounds_toArray, List.set_cons_zero, List.set_cons_succ]; refine hK _ ?_; clear hK K))
        refine wpSeq_call rfl rfl (fun K hK => ?_)
        go_simp
        have ctr := rzeros_calls w3.drew 3 (by omega)
        with_reducible refine Calls.mono ctr ?_
        clear ctr
        rintro e w8 ⟨rfl, rfl⟩
        go_simp
        refine hK _ _ (Ext.refl Non _) ?_
        clear hK K
        have hz : str (zeros (Int.toNat 3)) = str (zeros 3) := rfl
        have A3 := A3'.drew
        have X3 := X3'.drew
        have B4 := B3.drew
        by_cases hr3 : rr = zeros 3
        · have q3 : (rr == zeros 3) = true := by rw [hr3]; exact beq_self_eq_true _
          have hcond : decide (kd ≤ 1 ∧ rr = zeros 3) = true := decide_eq_true ⟨hk1, hr3⟩
          rw [hcond, Bool.and_true] at H1 H2
          clear hcond hr3
          cases hrS : right S
          · have hbad : right S = false := hrS
            iterate 6 (refine wpSeq_quiet rfl rfl ?_; apply Exists.intro; refine ⟨?_, ?_⟩; (intro W hW; go_simp; try with_reducible rfl); (intro K hK; simp only [Act.put, List.setIfInBounds_toArray, List.set_cons_zero, List.set_cons_succ]; refine hK _ ?_; clear hK K))
            refine wpSeq_end ?_
            have st := A3.big_store (P := Try.prog) (ty := 32) (cs' := sl sl0) rfl (sl_inf sl0_ok) (sl_all _)
            have A4 := A3.setRow (sl sl0)
            have X4 := X3.setRow (.inl (Nat.le_refl _)) (g := w.heap.size) (sl sl0)
            go_wp2_with fail
            refine bodyPost_ret (A4.results2 Try.results18 _ _ rfl rfl Try.underlying32 rfl (sl_inf sl0_ok)) rfl ⟨?_, X4⟩
            rw [H1.out, H2.out, hbad]
            rfl
          · have hgood : right S = true := hrS
            iterate 6 (refine wpSeq_quiet rfl rfl ?_; apply Exists.intro; refine ⟨?_, ?_⟩; (intro W hW; go_simp; try with_reducible rfl); (intro K hK; simp only [Act.put, List.setIfInBounds_toArray, List.set_cons_zero, List.set_cons_succ]; refine hK _ ?_; clear hK K))
            refine wpSeq_end ?_
            have ld := load_sl okS B4
            have st := A3.big_store (P := Try.prog) (ty := 32) (cs' := sl S) (by rw [sl_size sl0_ok]; exact (sl_size okS).symm) (sl_inf okS) (sl_all _)
            have A4 := A3.setRow (sl S)
            have X4 := X3.setRow (.inl (Nat.le_refl _)) (g := w.heap.size) (sl S)
            go_wp2_with fail
            refine bodyPost_ret (A4.results2 Try.results18 _ _ rfl rfl Try.underlying32 rfl (sl_inf okS)) rfl ⟨?_, X4⟩
            rw [H1.out, H2.out, hgood]
            rfl
        · have q3 : (rr == zeros 3) = false := beq_eq_false_iff_ne.2 hr3
          have hbad : (right S && decide (kd ≤ 1 ∧ rr = zeros 3)) = false := by rw [decide_eq_false (fun h => hr3 h.2), Bool.and_false]
          iterate 3 (refine wpSeq_quiet rfl rfl ?_; apply Exists.intro; refine ⟨?_, ?_⟩; (intro W hW; go_simp; try with_reducible rfl); (intro K hK; simp only [Act.put, List.setIfInBounds_toArray, List.set_cons_zero, List.set_cons_succ]; refine hK _ ?_; clear hK K))
          iterate 2 (refine wpSeq_skip rfl rfl (fun K hK => ?_); simp only [Act.put, List.setIfInBounds_toArray, List.set_cons_zero, List.set_cons_succ]; refine hK _ ?_; clear hK K)
          iterate 1 (refine wpSeq_quiet rfl rfl ?_; apply Exists.intro; refine ⟨?_, ?_⟩; (intro W hW; go_simp; try with_reducible rfl); (intro K hK; simp only [Act.put, List.setIfInBounds_toArray, List.set_cons_zero, List.set_cons_succ]; refine hK _ ?_; clear hK K))
          refine wpSeq_end ?_
          have st := A3.big_store (P := Try.prog) (ty := 32) (cs' := sl sl0) rfl (sl_inf sl0_ok) (sl_all _)
          have A4 := A3.setRow (sl sl0)
          have X4 := X3.setRow (.inl (Nat.le_refl _)) (g := w.heap.size) (sl sl0)
          go_wp2_with fail
          refine bodyPost_ret (A4.results2 Try.results18 _ _ rfl rfl Try.underlying32 rfl (sl_inf sl0_ok)) rfl ⟨?_, X4⟩
          rw [H1.out, H2.out, hbad]
          rfl
      · have i1 : (1 : Int) < (kd : Int) := by omega
        have hbad : (right S && decide (kd ≤ 1 ∧ rr = zeros 3)) = false := by rw [decide_eq_false (fun h => hk1 h.1), Bool.and_false]
        have A3 := A3'.drew
        have X3 := X3'.drew
        refine wp_region_seq Non ((0, true) :: (1, true) :: (2, true) :: (3, true) :: (4, true) :: (5, true) :: (6, false) :: (7, true) :: (8, true) :: (9, true) :: (10, true) :: (11, true) :: (12, true) :: []) (by kernel_rfl) (by kernel_rfl) (by kernel_rfl) ?_
        iterate 4 (refine wpSeq_quiet rfl rfl ?_; apply Exists.intro; refine ⟨?_, ?_⟩; (intro W hW; go_simp; try with_reducible rfl); (intro K hK; simp only [Act.put, List.setIfInBounds_toArray, List.set_cons_zero, List.set_cons_succ]; refine hK _ ?_; clear hK K))
        iterate 2 (refine wpSeq_skip rfl rfl (fun K hK => ?_); simp only [Act.put, List.setIfInBounds_toArray, List.set_cons_zero, List.set_cons_succ]; refine hK _ ?_; clear hK K)
        iterate 1 (refine wpSeq_pass rfl rfl (fun K hK => ?_); simp only [Act.put, List.setIfInBounds_toArray, List.set_cons_zero, List.set_cons_succ]; refine hK _ ?_; clear hK K)
        iterate 1 (refine wpSeq_skip rfl rfl (fun K hK => ?_); simp only [Act.put, List.setIfInBounds_toArray, List.set_cons_zero, List.set_cons_succ]; refine hK _ ?_; clear hK K)
        iterate 2 (refine wpSeq_quiet rfl rfl ?_; apply Exists.intro; refine ⟨?_, ?_⟩; (intro W hW; go_simp; try with_reducible rfl); (intro K hK; simp only [Act.put, List.setIfInBounds_toArray, List.set_cons_zero, List.set_cons_succ]; refine hK _ ?_; clear hK K))
        iterate 2 (refine wpSeq_skip rfl rfl (fun K hK => ?_); simp only [Act.put, List.setIfInBounds_toArray, List.set_cons_zero, List.set_cons_succ]; refine hK _ ?_; clear hK K)
        iterate 1 (refine wpSeq_quiet rfl rfl ?_; apply Exists.intro; refine ⟨?_, ?_⟩; (intro W hW; go_simp; try with_reducible rfl); (intro K hK; simp only [Act.put, List.setIfInBounds_toArray, List.set_cons_zero, List.set_cons_succ]; refine hK _ ?_; clear hK K))
        refine wpSeq_end ?_
        have st := A3.big_store (P := Try.prog) (ty := 32) (cs' := sl sl0) rfl (sl_inf sl0_ok) (sl_all _)
        have A4 := A3.setRow (sl sl0)
        have X4 := X3.setRow (.inl (Nat.le_refl _)) (g := w.heap.size) (sl sl0)
        go_wp2_with fail
        refine bodyPost_ret (A4.results2 Try.results18 _ _ rfl rfl Try.underlying32 rfl (sl_inf sl0_ok)) rfl ⟨?_, X4⟩
        rw [H1.out, H2.out, hbad]
        rfl
end Go.Proofs.Ytgfjpoopghdilaa
