/- Contracts of package slot: what a slot's kind has, what is right. -/
import Derived.Test.YtgfjpoopghdilaaSlotP
import Derived.Test.YtgfjpoopghdilaaSeqS
namespace Go.Proofs.Ytgfjpoopghdilaa
open Go.RowKit

/-! ### whole structs and arrays -/
@[go_sem ↓] theorem big_load_sl (x : Value) : Instr.loadAt 32 x = bigLoad 32 x := rfl
@[go_sem ↓] theorem big_store_sl (x v : Value) : Instr.storeAt 32 x v = bigStore 32 x v := rfl
theorem info_sl (cs : Array Value) (h : cs.size = 40) : (Try.prog.info? 32).map (·.size) = some cs.size := by rw [h]; kernel_rfl
@[go_sem ↓] theorem big_load_b64 (x : Value) : Instr.loadAt 33 x = bigLoad 33 x := rfl
@[go_sem ↓] theorem big_store_b64 (x v : Value) : Instr.storeAt 33 x v = bigStore 33 x v := rfl
theorem info_b64 (cs : Array Value) (h : cs.size = 64) : (Try.prog.info? 33).map (·.size) = some cs.size := by rw [h]; kernel_rfl
@[go_sem ↓] theorem big_load_pk (x : Value) : Instr.loadAt 50 x = bigLoad 50 x := rfl
@[go_sem ↓] theorem big_store_pk (x v : Value) : Instr.storeAt 50 x v = bigStore 50 x v := rfl
theorem info_pk (cs : Array Value) (h : cs.size = 610) : (Try.prog.info? 50).map (·.size) = some cs.size := by rw [h]; kernel_rfl
@[go_sem ↓] theorem big_load_non (x : Value) : Instr.loadAt 28 x = bigLoad 28 x := rfl
@[go_sem ↓] theorem big_store_non (x v : Value) : Instr.storeAt 28 x v = bigStore 28 x v := rfl
theorem info_non (cs : Array Value) (h : cs.size = 16) : (Try.prog.info? 28).map (·.size) = some cs.size := by rw [h]; kernel_rfl
@[go_sem ↓] theorem big_load_mac (x : Value) : Instr.loadAt 29 x = bigLoad 29 x := rfl
@[go_sem ↓] theorem big_store_mac (x v : Value) : Instr.storeAt 29 x v = bigStore 29 x v := rfl
theorem info_mac (cs : Array Value) (h : cs.size = 16) : (Try.prog.info? 29).map (·.size) = some cs.size := by rw [h]; kernel_rfl
@[go_sem ↓] theorem big_load_hd (x : Value) : Instr.loadAt 47 x = bigLoad 47 x := rfl
@[go_sem ↓] theorem big_store_hd (x v : Value) : Instr.storeAt 47 x v = bigStore 47 x v := rfl
theorem info_hd (cs : Array Value) (h : cs.size = 320) : (Try.prog.info? 47).map (·.size) = some cs.size := by rw [h]; kernel_rfl
@[go_sem ↓] theorem big_load_bd (x : Value) : Instr.loadAt 48 x = bigLoad 48 x := rfl
@[go_sem ↓] theorem big_store_bd (x v : Value) : Instr.storeAt 48 x v = bigStore 48 x v := rfl
theorem info_bd (cs : Array Value) (h : cs.size = 256) : (Try.prog.info? 48).map (·.size) = some cs.size := by rw [h]; kernel_rfl
set_option maxRecDepth 100000 in
@[go_sem ↓] theorem zero_sl (w : World) : (zeroValue 32).run Try.prog w = .ok (.agg (sl sl0)) w :=
  (zero_of_info (P := Try.prog) (t := 32) (n := 40) (by kernel_rfl)).1 w
set_option maxRecDepth 100000 in
@[go_sem ↓] theorem zero_b64 (w : World) : (zeroValue 33).run Try.prog w = .ok (.agg (zrow 64)) w :=
  (zero_of_info (P := Try.prog) (t := 33) (n := 64) (by kernel_rfl)).1 w
set_option maxRecDepth 100000 in
@[go_sem ↓] theorem zero_pk (w : World) : (zeroValue 50).run Try.prog w = .ok (.agg (pk pk0)) w :=
  (zero_of_info (P := Try.prog) (t := 50) (n := 610) (by kernel_rfl)).1 w

/-! ### slots are compared -/
theorem int_beq (a b : Nat) : ((a : Int) == (b : Int)) = decide (a = b) := by
  by_cases h : a = b
  · subst h; simp
  · rw [decide_eq_false h]
    simp only [beq_eq_false_iff_ne, ne_eq]
    omega
theorem s8 : (Try.prog.info? 5).map (·.size) = some 1 := by kernel_rfl
set_option maxRecDepth 100000 in
theorem equalIn_sl (w : World) {s t : Sl} (hs : s.ok) (ht : t.ok) : (Op.equalIn 10000 32 (.agg (sl s)) (.agg (sl t))).run Try.prog w = .ok (decide (s = t)) w := by
  have e1 : ∀ w, (Op.equalIn 9999 28 (.agg (ba s.nonce)) (.agg (ba t.nonce))).run Try.prog w = .ok (s.nonce == t.nonce) w := fun w =>
    run_equalIn_arr (P := Try.prog) w 9997 (k := .u8) Try.underlying28 Try.underlying5 s8 Try.isAgg5 (fun c : UInt8 => (c.toNat : Int)) u8_inj s.nonce t.nonce hs.nonce ht.nonce
  have e2 : ∀ w, (Op.equalIn 9999 29 (.agg (ba s.mac)) (.agg (ba t.mac))).run Try.prog w = .ok (s.mac == t.mac) w := fun w =>
    run_equalIn_arr (P := Try.prog) w 9997 (k := .u8) Try.underlying29 Try.underlying5 s8 Try.isAgg5 (fun c : UInt8 => (c.toNat : Int)) u8_inj s.mac t.mac hs.mac ht.mac
  have a0 := sl_get0 hs
  have b0 := sl_get0 ht
  have a1 := sl_get1 hs
  have b1 := sl_get1 ht
  have a2 := sl_get2 hs
  have b2 := sl_get2 ht
  have a3 := sl_get3 hs
  have b3 := sl_get3 ht
  have a4 := sl_get4 hs
  have b4 := sl_get4 ht
  have a37 := sl_get37 hs
  have b37 := sl_get37 ht
  have a38 := sl_get38 hs
  have b38 := sl_get38 ht
  have a39 := sl_get39 hs
  have b39 := sl_get39 ht
  have a5 := sl_nonce hs
  have b5 := sl_nonce ht
  have a21 := sl_mac hs
  have b21 := sl_mac ht
  go_simp
  clear e1 e2 a5 b5 a21 b21 a0 a1 a2 a3 a4 a37 a38 a39 b0 b1 b2 b3 b4 b37 b38 b39
  simp only [Int.natCast_inj]
  by_cases h : s = t
  · subst h
    simp
  · have hn : ∀ h0 : s.last = t.last, ∀ h1 : s.next = t.next, ∀ h2 : s.box = t.box, ∀ h3 : s.who = t.who, ∀ h4 : s.epoch = t.epoch, ∀ h5 : s.nonce = t.nonce, ∀ h6 : s.mac = t.mac, ∀ h7 : s.lo = t.lo, ∀ h8 : s.hi = t.hi, ∀ h9 : s.delay = t.delay, False := fun h0 h1 h2 h3 h4 h5 h6 h7 h8 h9 => h (Sl.tup_inj (by simp only [Sl.tup, h0, h1, h2, h3, h4, h5, h6, h7, h8, h9]))
    rw [decide_eq_false h]
    repeat' split
    all_goals first | rfl | (exfalso; apply hn <;> assumption)
theorem eql_sl (w : World) {s t : Sl} (hs : s.ok) (ht : t.ok) : (binOp .eql 32 (.agg (sl s)) (.agg (sl t))).run Try.prog w = .ok (.bool (decide (s = t))) w := by
  rw [run_eql_struct, equalIn_sl w hs ht]
  rfl
theorem neq_sl (w : World) {s t : Sl} (hs : s.ok) (ht : t.ok) : (binOp .neq 32 (.agg (sl s)) (.agg (sl t))).run Try.prog w = .ok (.bool (!decide (s = t))) w := by
  rw [run_neq_struct, equalIn_sl w hs ht]
  rfl
set_option maxRecDepth 100000 in
theorem equalIn_pk (w : World) {s t : Pk} (hs : s.ok) (ht : t.ok) : (Op.equalIn 10000 50 (.agg (pk s)) (.agg (pk t))).run Try.prog w = .ok (decide (s = t)) w := by
  have enonce : ∀ w, (Op.equalIn 9999 28 (.agg (ba s.nonce)) (.agg (ba t.nonce))).run Try.prog w = .ok (s.nonce == t.nonce) w := fun w =>
    run_equalIn_arr (P := Try.prog) w 9997 (k := .u8) Try.underlying28 Try.underlying5 s8 Try.isAgg5 (fun c : UInt8 => (c.toNat : Int)) u8_inj s.nonce t.nonce hs.nonce ht.nonce
  have anonce := pk_nonce hs
  have bnonce := pk_nonce ht
  have emac : ∀ w, (Op.equalIn 9999 29 (.agg (ba s.mac)) (.agg (ba t.mac))).run Try.prog w = .ok (s.mac == t.mac) w := fun w =>
    run_equalIn_arr (P := Try.prog) w 9997 (k := .u8) Try.underlying29 Try.underlying5 s8 Try.isAgg5 (fun c : UInt8 => (c.toNat : Int)) u8_inj s.mac t.mac hs.mac ht.mac
  have amac := pk_mac hs
  have bmac := pk_mac ht
  have ehead : ∀ w, (Op.equalIn 9999 47 (.agg (ba s.head)) (.agg (ba t.head))).run Try.prog w = .ok (s.head == t.head) w := fun w =>
    run_equalIn_arr (P := Try.prog) w 9997 (k := .u8) Try.underlying47 Try.underlying5 s8 Try.isAgg5 (fun c : UInt8 => (c.toNat : Int)) u8_inj s.head t.head hs.head ht.head
  have ahead := pk_head hs
  have bhead := pk_head ht
  have ebody : ∀ w, (Op.equalIn 9999 48 (.agg (ba s.body)) (.agg (ba t.body))).run Try.prog w = .ok (s.body == t.body) w := fun w =>
    run_equalIn_arr (P := Try.prog) w 9997 (k := .u8) Try.underlying48 Try.underlying5 s8 Try.isAgg5 (fun c : UInt8 => (c.toNat : Int)) u8_inj s.body t.body hs.body ht.body
  have abody := pk_body hs
  have bbody := pk_body ht
  have a0 := pk_get0 (s := s)
  have a1 := pk_get1 (s := s)
  have b0 := pk_get0 (s := t)
  have b1 := pk_get1 (s := t)
  go_simp
  clear enonce emac ehead ebody a0 a1 b0 b1 anonce amac ahead abody bnonce bmac bhead bbody
  simp only [Int.natCast_inj]
  by_cases h : s = t
  · subst h
    simp
  · have hn : ∀ h0 : s.who = t.who, ∀ h1 : s.epoch = t.epoch, ∀ h2 : s.nonce = t.nonce, ∀ h3 : s.mac = t.mac, ∀ h4 : s.head = t.head, ∀ h5 : s.body = t.body, False := fun h0 h1 h2 h3 h4 h5 => h (Pk.tup_inj (by simp only [Pk.tup, h0, h1, h2, h3, h4, h5]))
    rw [decide_eq_false h]
    repeat' split
    all_goals first | rfl | (exfalso; apply hn <;> assumption)
theorem eql_pk (w : World) {s t : Pk} (hs : s.ok) (ht : t.ok) : (binOp .eql 50 (.agg (pk s)) (.agg (pk t))).run Try.prog w = .ok (.bool (decide (s = t))) w := by
  rw [run_eql_struct, equalIn_pk w hs ht]
  rfl
theorem neq_pk (w : World) {s t : Pk} (hs : s.ok) (ht : t.ok) : (binOp .neq 50 (.agg (pk s)) (.agg (pk t))).run Try.prog w = .ok (.bool (!decide (s = t))) w := by
  rw [run_neq_struct, equalIn_pk w hs ht]
  rfl

/-! ### only, Right, first -/
section
variable (w : World) {s : Sl} (h : s.ok)
include h
@[go_sem] theorem store_sl : (bigStore 32 (.pointer (some ⟨w.heap.size, 0, none⟩)) (.agg (sl s))).run Try.prog (w.alloc (.cells (sl sl0) 32)) = .ok () (w.alloc (.cells (sl s) 32)) := by
  rw [Blk.big_store (P := Try.prog) (Blk.new w 32 (sl sl0)) (by rw [sl_size sl0_ok, sl_size h]) (info_sl _ (sl_size h)) (sl_all _), World.setRow_alloc_new]
@[go_sem] theorem store_sl2 (o : Obj) : (bigStore 32 (.pointer (some ⟨w.heap.size + 1, 0, none⟩)) (.agg (sl s))).run Try.prog ((w.alloc o).alloc (.cells (sl sl0) 32)) = .ok () ((w.alloc o).alloc (.cells (sl s) 32)) := by
  have := store_sl (w.alloc o) h
  rw [World.size_alloc] at this
  exact this
theorem load_sl {w : World} {g : Nat} (hb : Blk w g 32 (sl s)) : (bigLoad 32 (.pointer (some ⟨g, 0, none⟩))).run Try.prog w = .ok (.agg (sl s)) w :=
  hb.big_load Try.underlying32 rfl (info_sl _ (sl_size h))
end
theorem sl_inf {s : Sl} (h : s.ok) : (Try.prog.info? 32).map (·.size) = some (sl s).size := info_sl _ (sl_size h)
set_option maxRecDepth 100000 in
set_option maxHeartbeats 1000000 in
theorem only_calls (w : World) {s : Sl} (h : s.ok) : Calls Try.prog 30 #[.agg (sl s)] w fun e w' => e = .returned (.agg (sl (only s))) ∧ Ext Non w w' := by
  have ne := sl_ne s
  have ok := only_ok h
  have a0 := sl_get0 h
  have a2 := sl_get2 h
  have a37 := sl_get37 h
  have a38 := sl_get38 h
  have a39 := sl_get39 h
  cases hl : s.last
  · have e : (sl s).setIfInBounds 2 (.int .u16 0) = sl (only s) := by
      rw [show only s = { s with box := 0 } from by unfold only; rw [if_neg (by rw [hl]; decide)]]
      exact sl_set2 s 0
    have ld := load_sl ok ((Blk.new w 32 (sl (only s))).alloc (.cells (sl sl0) 32))
    have B := Blk.new (w.alloc (.cells (sl (only s)) 32)) 32 (sl (only s))
    rw [World.size_alloc] at B
    go_enter Try.func30, Try.ntmps30
    go_wp2_with fail
    exact bodyPost_ret (B.results Try.results30 _ rfl Try.underlying32 rfl (sl_inf ok)) rfl ⟨rfl, ((Ext.refl Non w).alloc _).alloc _⟩
  · have e : (((((sl sl0).setIfInBounds 0 (.bool true)).setIfInBounds 2 (.int .u16 s.box)).setIfInBounds 37 (.int .u64 s.lo)).setIfInBounds 38 (.int .u64 s.hi)).setIfInBounds 39 (.int .u32 s.delay) = sl (only s) := by
      rw [sl_set0, sl_set2, sl_set37 (by exact ⟨sl0_ok.next, h.box, sl0_ok.who, sl0_ok.epoch, sl0_ok.nonce, sl0_ok.mac, sl0_ok.lo, sl0_ok.hi, sl0_ok.delay⟩), sl_set38 (by exact ⟨sl0_ok.next, h.box, sl0_ok.who, sl0_ok.epoch, sl0_ok.nonce, sl0_ok.mac, h.lo, sl0_ok.hi, sl0_ok.delay⟩), sl_set39 (by exact ⟨sl0_ok.next, h.box, sl0_ok.who, sl0_ok.epoch, sl0_ok.nonce, sl0_ok.mac, h.lo, h.hi, sl0_ok.delay⟩), show only s = ⟨true, 0, s.box, 0, 0, zeros 16, zeros 16, s.lo, s.hi, s.delay⟩ from by unfold only; rw [if_pos hl]]
      rfl
    have B := Blk.new (w.alloc (.cells (sl s) 32)) 32 (sl (only s))
    rw [World.size_alloc] at B
    go_enter Try.func30, Try.ntmps30
    go_wp2_with fail
    exact bodyPost_ret (B.results Try.results30 _ rfl Try.underlying32 rfl (sl_inf ok)) rfl ⟨rfl, ((Ext.refl Non w).alloc _).alloc _⟩
set_option maxRecDepth 100000 in
set_option maxHeartbeats 1000000 in
theorem first_calls (w : World) {s : Sl} (h : s.ok) : Calls Try.prog 46 #[.agg (sl s)] w fun e w' => e = .returned (.tuple #[.int .u8 ((if s.last then 1 else 0 : Nat) : Int), .int .u16 ((if s.last then s.box else s.next : Nat) : Int)]) ∧ Ext Non w w' := by
  have ne := sl_ne s
  have a0 := sl_get0 h
  have a1 := sl_get1 h
  have a2 := sl_get2 h
  have X0 : Ext Non w (w.alloc (.cells (sl s) 32)) := (Ext.refl Non w).alloc _
  have B0 := Blk.new w 32 (sl s)
  have c1 := fun W (x : Ext Non (w.alloc (.cells (sl s) 32)) W) => ((B0.extN_ x).cell 1).trans a1
  have c2 := fun W (x : Ext Non (w.alloc (.cells (sl s) 32)) W) => ((B0.extN_ x).cell 2).trans a2
  cases hl : s.last
  · go_enter Try.func46, Try.ntmps46
    go_wp2_with fail
    refine wp_region_seq Non ((0, true) :: (1, true) :: (2, true) :: (3, true) :: []) (by kernel_rfl) (by kernel_rfl) (by kernel_rfl) ?_
    iterate 4 (refine wpSeq_quiet rfl rfl ?_; apply Exists.intro; refine ⟨?_, ?_⟩; (intro W hW; have u1 := c1 W hW.drewL; go_simp; try with_reducible rfl); (intro K hK; simp only [Act.put, List.setIfInBounds_toArray, List.set_cons_zero, List.set_cons_succ]; refine hK _ ?_; clear hK K))
    refine wpSeq_end ?_
    go_wp2_with fail
    go_ret2
    exact ⟨rfl, X0.drew⟩
  · go_enter Try.func46, Try.ntmps46
    go_wp2_with fail
    refine wp_region_seq Non ((0, true) :: (1, true) :: (2, true) :: (3, true) :: []) (by kernel_rfl) (by kernel_rfl) (by kernel_rfl) ?_
    iterate 4 (refine wpSeq_quiet rfl rfl ?_; apply Exists.intro; refine ⟨?_, ?_⟩; (intro W hW; have u2 := c2 W hW.drewL; go_simp; try with_reducible rfl); (intro K hK; simp only [Act.put, List.setIfInBounds_toArray, List.set_cons_zero, List.set_cons_succ]; refine hK _ ?_; clear hK K))
    refine wpSeq_end ?_
    go_wp2_with fail
    go_ret2
    exact ⟨rfl, X0.drew⟩
set_option maxRecDepth 100000 in
set_option maxHeartbeats 1000000 in
theorem right_calls (w : World) {s : Sl} (h : s.ok) : Calls Try.prog 14 #[.agg (sl s)] w fun e w' => e = .returned (.int .i64 (ence s : Nat)) ∧ Ext Non w w' := by
  have ne := sl_ne s
  have ok := only_ok h
  have a37 := sl_get37 h
  have a38 := sl_get38 h
  have X0 : Ext Non w (w.alloc (.cells (sl s) 32)) := (Ext.refl Non w).alloc _
  have B0 := Blk.new w 32 (sl s)
  have c37 := fun W (x : Ext Non (w.alloc (.cells (sl s) 32)) W) => ((B0.extN_ x).cell 37).trans a37
  have c38 := fun W (x : Ext Non (w.alloc (.cells (sl s) 32)) W) => ((B0.extN_ x).cell 38).trans a38
  have ld := fun W (x : Ext Non (w.alloc (.cells (sl s) 32)) W) => load_sl h (B0.extN_ x)
  go_enter Try.func14, Try.ntmps14
  go_upto_region 1 with (fail)
  generalize w.alloc (.cells (sl s) 32) = v at *
  by_cases hlt : s.hi < s.lo
  · have i1 : (s.hi : Int) < (s.lo : Int) := by omega
    have he : ence s = 1 := by
      unfold ence right
      rw [decide_eq_false (by omega)]
      rfl
    go_wp2_with fail
    refine wp_region_seq Non ((0, true) :: (1, true) :: (2, true) :: (3, true) :: (4, true) :: (5, true) :: (6, true) :: (7, true) :: (8, false) :: (9, true) :: (10, true) :: []) (by kernel_rfl) (by kernel_rfl) (by kernel_rfl) ?_
    iterate 6 (refine wpSeq_quiet rfl rfl ?_; apply Exists.intro; refine ⟨?_, ?_⟩; (intro W hW; have u1 := c37 W hW.drewL; have u2 := c38 W hW.drewL; go_simp; try with_reducible rfl); (intro K hK; simp only [Act.put, List.setIfInBounds_toArray, List.set_cons_zero, List.set_cons_succ]; refine hK _ ?_; clear hK K))
    iterate 2 (refine wpSeq_skip rfl rfl (fun K hK => ?_); simp only [Act.put, List.setIfInBounds_toArray, List.set_cons_zero, List.set_cons_succ]; refine hK _ ?_; clear hK K)
    iterate 1 (refine wpSeq_pass rfl rfl (fun K hK => ?_); simp only [Act.put, List.setIfInBounds_toArray, List.set_cons_zero, List.set_cons_succ]; refine hK _ ?_; clear hK K)
    iterate 1 (refine wpSeq_skip rfl rfl (fun K hK => ?_); simp only [Act.put, List.setIfInBounds_toArray, List.set_cons_zero, List.set_cons_succ]; refine hK _ ?_; clear hK K)
    iterate 1 (refine wpSeq_quiet rfl rfl ?_; apply Exists.intro; refine ⟨?_, ?_⟩; (intro W hW; go_simp; try with_reducible rfl); (intro K hK; simp only [Act.put, List.setIfInBounds_toArray, List.set_cons_zero, List.set_cons_succ]; refine hK _ ?_; clear hK K))
    refine wpSeq_end ?_
    go_wp2_with fail
    go_ret
    exact ⟨by rw [he]; rfl, X0.drew⟩
  · have i1 : ¬ (s.hi : Int) < (s.lo : Int) := by omega
    obtain ⟨d, hd⟩ : ∃ d, decide (s = only s) = d := ⟨_, rfl⟩
    have ns := fun W => neq_sl W h ok
    have he : ence s = if d then 0 else 1 := by
      unfold ence right
      rw [decide_eq_true (by omega), hd]
      rfl
    rw [hd] at ns
    have HE := Lib.hid he
    clear hd he
    cases d
    all_goals
      go_wp2_with fail
      refine wp_region_seq Non ((0, true) :: (1, true) :: (2, true) :: (3, true) :: (4, true) :: (5, true) :: (6, true) :: (7, true) :: (8, false) :: (9, true) :: (10, true) :: []) (by kernel_rfl) (by kernel_rfl) (by kernel_rfl) ?_
      iterate 8 (refine wpSeq_quiet rfl rfl ?_; apply Exists.intro; refine ⟨?_, ?_⟩; (intro W hW; have u1 := c37 W hW.drewL; have u2 := c38 W hW.drewL; have u3 := ld W hW.drewL; go_simp; try with_reducible rfl); (intro K hK; simp only [Act.put, List.setIfInBounds_toArray, List.set_cons_zero, List.set_cons_succ]; refine hK _ ?_; clear hK K))
      refine wpSeq_call rfl rfl (fun K hK => ?_)
      go_simp
      have ctr := only_calls v.drew h
      with_reducible refine Calls.mono ctr ?_
      clear ctr
      rintro e w1 ⟨rfl, x1⟩
      go_simp
      refine hK _ _ x1 ?_
      clear hK K
      iterate 2 (refine wpSeq_quiet rfl rfl ?_; apply Exists.intro; refine ⟨?_, ?_⟩; (intro W hW; go_simp; try with_reducible rfl); (intro K hK; simp only [Act.put, List.setIfInBounds_toArray, List.set_cons_zero, List.set_cons_succ]; refine hK _ ?_; clear hK K))
      refine wpSeq_end ?_
      have X1 := X0.drew.transN x1
      go_wp2_with fail
      go_ret
      exact ⟨by rw [HE.out]; rfl, X1⟩
end Go.Proofs.Ytgfjpoopghdilaa
