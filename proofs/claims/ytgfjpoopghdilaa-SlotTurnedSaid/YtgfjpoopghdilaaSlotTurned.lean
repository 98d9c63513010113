/- The law SlotTurned: of a packet one byte that is turned turns one field, and no other. -/
import Derived.Test.YtgfjpoopghdilaaSlotS
namespace Go.Proofs.Ytgfjpoopghdilaa
open Go.RowKit

/-- A part of a row of which one byte was set. -/
theorem part_set (L : List UInt8) (at_ : Nat) (x : UInt8) (a k : Nat) (hl : a + k ≤ L.length) (hx : at_ < L.length) :
    (((L.set at_ x).drop a).take k = (L.drop a).take k) ↔ (L.getD at_ 0 = x ∨ ¬ (a ≤ at_ ∧ at_ < a + k)) := by
  constructor
  · intro h
    by_cases hin : a ≤ at_ ∧ at_ < a + k
    · left
      have := congrArg (fun l => l[at_ - a]?) h
      simp only [List.getElem?_take, List.getElem?_drop] at this
      rw [if_pos (by omega), if_pos (by omega), show a + (at_ - a) = at_ from by omega, List.getElem?_set_self hx, List.getElem?_eq_getElem hx] at this
      simp only [Option.some.injEq] at this
      rw [this]
      simp [List.getD, hx]
    · exact .inr hin
  · rintro (h | h)
    · have : L.set at_ x = L := by
        rw [← h]
        simp [List.getD, hx]
      rw [this]
    · apply List.ext_getElem?
      intro i
      simp only [List.getElem?_take, List.getElem?_drop]
      split
      · rw [List.getElem?_set_ne (by omega)]
      · rfl
/-- Which field of a packet is another one. -/
theorem rdpk_set {s : Pk} (h : s.ok) (i : Nat) (hi : i < 614) (x : UInt8) (b : Bool) (hb : ((pkb s).getD i 0 = x) ↔ b = false) :
    decide ((rdpk ((pkb s).set i x)).who = s.who) = !(b && decide (i < 2)) ∧ decide ((rdpk ((pkb s).set i x)).epoch = s.epoch) = !(b && decide (2 ≤ i ∧ i < 6)) ∧
    decide ((rdpk ((pkb s).set i x)).nonce = s.nonce) = !(b && decide (6 ≤ i ∧ i < 22)) ∧ decide ((rdpk ((pkb s).set i x)).mac = s.mac) = !(b && decide (22 ≤ i ∧ i < 38)) ∧
    decide ((rdpk ((pkb s).set i x)).head = s.head) = !(b && decide (38 ≤ i ∧ i < 358)) ∧ decide ((rdpk ((pkb s).set i x)).body = s.body) = !(b && decide (358 ≤ i)) := by
  have hl := pkb_len h
  have e := rdpk_pkb h
  have key : ∀ a k, a + k ≤ 614 → decide ((((pkb s).set i x).drop a).take k = ((pkb s).drop a).take k) = !(b && decide (a ≤ i ∧ i < a + k)) := by
    intro a k hak
    have := part_set (pkb s) i x a k (by omega) (by omega)
    rw [hb] at this
    rw [Bool.eq_iff_iff, decide_eq_true_iff, this]
    simp only [Bool.not_eq_true', Bool.and_eq_false_iff, decide_eq_false_iff_not]
  have hnum : ∀ a k, a + k ≤ 614 → decide (num ((((pkb s).set i x).drop a).take k) = num (((pkb s).drop a).take k)) = decide ((((pkb s).set i x).drop a).take k = ((pkb s).drop a).take k) := by
    intro a k hak
    apply decide_eq_decide.2
    constructor
    · intro he
      refine num_inj ?_ he
      simp [hl]
    · intro he
      rw [he]
  have ew : s.who = num (((pkb s).drop 0).take 2) := (congrArg Pk.who e).symm
  have ee : s.epoch = num (((pkb s).drop 2).take 4) := (congrArg Pk.epoch e).symm
  have en : s.nonce = ((pkb s).drop 6).take 16 := (congrArg Pk.nonce e).symm
  have em : s.mac = ((pkb s).drop 22).take 16 := (congrArg Pk.mac e).symm
  have eh : s.head = ((pkb s).drop 38).take 320 := (congrArg Pk.head e).symm
  have eb : s.body = ((pkb s).drop 358).take 256 := (congrArg Pk.body e).symm
  refine ⟨?_, ?_, ?_, ?_, ?_, ?_⟩
  · rw [ew]
    refine (hnum 0 2 (by omega)).trans ((key 0 2 (by omega)).trans ?_)
    simp
  · rw [ee]
    exact (hnum 2 4 (by omega)).trans (key 2 4 (by omega))
  · rw [en]
    exact key 6 16 (by omega)
  · rw [em]
    exact key 22 16 (by omega)
  · rw [eh]
    exact key 38 320 (by omega)
  · rw [eb]
    refine (key 358 256 (by omega)).trans ?_
    congr 2
    apply decide_eq_decide.2
    omega

theorem u8_xor' (a b : UInt8) : bits .xor .u8 (a.toNat : Int) (b.toNat : Int) = ((a ^^^ b).toNat : Int) := by
  rw [bits_xor_nat .u8 wrapn_u8 _ _ (lt8 a.toNat_lt) (lt8 b.toNat_lt), UInt8.toNat_xor]
theorem load_nonce {w : World} {g : Nat} {s : Pk} (hb : Blk w g 50 (pk s)) (h : s.ok) : (bigLoad 28 (.pointer (some ⟨g, 2, none⟩))).run Try.prog w = .ok (.agg (ba s.nonce)) w := by
  have hr := hb.range 2 (bvs s.nonce) (fun j v hv => by
    have e := pk_nonce h
    have := congrArg (fun a : Array Value => a[j]?) e
    simp only [Array.getElem?_extract, ba] at this
    have hj := (List.getElem?_eq_some_iff.1 hv).1
    rw [bvs_length, h.nonce] at hj
    have hsz := pk_size h
    rw [if_pos (by omega)] at this
    rw [this]
    simpa using hv)
  have hi : (Try.prog.info? 28).map (·.size) = some (bvs s.nonce).length := by rw [bvs_length, h.nonce]; kernel_rfl
  have := run_loadAt_mid (P := Try.prog) w g 2 28 (bvs s.nonce) _ hr Try.underlying28 rfl hi
  simpa [bigLoad, ba] using this
theorem neq_nonce (w : World) {l m : List UInt8} (hl : l.length = 16) (hm : m.length = 16) (d : Bool) (hd : decide (l = m) = d) : (binOp .neq 28 (.agg (ba l)) (.agg (ba m))).run Try.prog w = .ok (.bool (!d)) w := by
  rw [run_neq_bytes w Try.underlying28 Try.underlying5 s8 Try.isAgg5 _ _ hl hm]
  subst hd
  by_cases h : l = m
  · subst h; simp
  · rw [decide_eq_false h, beq_eq_false_iff_ne.2 h]
theorem load_mac {w : World} {g : Nat} {s : Pk} (hb : Blk w g 50 (pk s)) (h : s.ok) : (bigLoad 29 (.pointer (some ⟨g, 18, none⟩))).run Try.prog w = .ok (.agg (ba s.mac)) w := by
  have hr := hb.range 18 (bvs s.mac) (fun j v hv => by
    have e := pk_mac h
    have := congrArg (fun a : Array Value => a[j]?) e
    simp only [Array.getElem?_extract, ba] at this
    have hj := (List.getElem?_eq_some_iff.1 hv).1
    rw [bvs_length, h.mac] at hj
    have hsz := pk_size h
    rw [if_pos (by omega)] at this
    rw [this]
    simpa using hv)
  have hi : (Try.prog.info? 29).map (·.size) = some (bvs s.mac).length := by rw [bvs_length, h.mac]; kernel_rfl
  have := run_loadAt_mid (P := Try.prog) w g 18 29 (bvs s.mac) _ hr Try.underlying29 rfl hi
  simpa [bigLoad, ba] using this
theorem neq_mac (w : World) {l m : List UInt8} (hl : l.length = 16) (hm : m.length = 16) (d : Bool) (hd : decide (l = m) = d) : (binOp .neq 29 (.agg (ba l)) (.agg (ba m))).run Try.prog w = .ok (.bool (!d)) w := by
  rw [run_neq_bytes w Try.underlying29 Try.underlying5 s8 Try.isAgg5 _ _ hl hm]
  subst hd
  by_cases h : l = m
  · subst h; simp
  · rw [decide_eq_false h, beq_eq_false_iff_ne.2 h]
theorem load_head {w : World} {g : Nat} {s : Pk} (hb : Blk w g 50 (pk s)) (h : s.ok) : (bigLoad 47 (.pointer (some ⟨g, 34, none⟩))).run Try.prog w = .ok (.agg (ba s.head)) w := by
  have hr := hb.range 34 (bvs s.head) (fun j v hv => by
    have e := pk_head h
    have := congrArg (fun a : Array Value => a[j]?) e
    simp only [Array.getElem?_extract, ba] at this
    have hj := (List.getElem?_eq_some_iff.1 hv).1
    rw [bvs_length, h.head] at hj
    have hsz := pk_size h
    rw [if_pos (by omega)] at this
    rw [this]
    simpa using hv)
  have hi : (Try.prog.info? 47).map (·.size) = some (bvs s.head).length := by rw [bvs_length, h.head]; kernel_rfl
  have := run_loadAt_mid (P := Try.prog) w g 34 47 (bvs s.head) _ hr Try.underlying47 rfl hi
  simpa [bigLoad, ba] using this
theorem neq_head (w : World) {l m : List UInt8} (hl : l.length = 320) (hm : m.length = 320) (d : Bool) (hd : decide (l = m) = d) : (binOp .neq 47 (.agg (ba l)) (.agg (ba m))).run Try.prog w = .ok (.bool (!d)) w := by
  rw [run_neq_bytes w Try.underlying47 Try.underlying5 s8 Try.isAgg5 _ _ hl hm]
  subst hd
  by_cases h : l = m
  · subst h; simp
  · rw [decide_eq_false h, beq_eq_false_iff_ne.2 h]
theorem load_body {w : World} {g : Nat} {s : Pk} (hb : Blk w g 50 (pk s)) (h : s.ok) : (bigLoad 48 (.pointer (some ⟨g, 354, none⟩))).run Try.prog w = .ok (.agg (ba s.body)) w := by
  have hr := hb.range 354 (bvs s.body) (fun j v hv => by
    have e := pk_body h
    have := congrArg (fun a : Array Value => a[j]?) e
    simp only [Array.getElem?_extract, ba] at this
    have hj := (List.getElem?_eq_some_iff.1 hv).1
    rw [bvs_length, h.body] at hj
    have hsz := pk_size h
    rw [if_pos (by omega)] at this
    rw [this]
    simpa using hv)
  have hi : (Try.prog.info? 48).map (·.size) = some (bvs s.body).length := by rw [bvs_length, h.body]; kernel_rfl
  have := run_loadAt_mid (P := Try.prog) w g 354 48 (bvs s.body) _ hr Try.underlying48 rfl hi
  simpa [bigLoad, ba] using this
theorem neq_body (w : World) {l m : List UInt8} (hl : l.length = 256) (hm : m.length = 256) (d : Bool) (hd : decide (l = m) = d) : (binOp .neq 48 (.agg (ba l)) (.agg (ba m))).run Try.prog w = .ok (.bool (!d)) w := by
  rw [run_neq_bytes w Try.underlying48 Try.underlying5 s8 Try.isAgg5 _ _ hl hm]
  subst hd
  by_cases h : l = m
  · subst h; simp
  · rw [decide_eq_false h, beq_eq_false_iff_ne.2 h]

set_option maxRecDepth 100000 in
set_option maxHeartbeats 40000000 in
theorem turned_walk (w : World) {s : Pk} (hs : s.ok) (x0 : Int) (b0 : Nat) (hb0 : b0 < 256) :
    Calls Try.prog 7 #[.agg (pk s), .int .i64 x0, .int .u8 b0] w fun e w' => e = .returned (.bool true) ∧ Below w.heap.size w w' := by
  obtain ⟨m, hm0, hma⟩ := and16_at x0
  obtain ⟨i, hi⟩ : ∃ i, m % 614 = i := ⟨_, rfl⟩
  have hik : i < 614 := by rw [← hi]; exact Nat.mod_lt _ (by omega)
  have em1 : (m : Int).tmod 614 = (i : Int) := by rw [← hi]; rfl
  have em2 : (m : Int) % 614 = (i : Int) := by rw [← hi]; rfl
  have i0 : (0 : Int) ≤ (i : Int) := by omega
  have wi : IntKind.i64.wrap (i : Int) = (i : Int) := by rw [IntKind.wrap_i64]; omega
  have ii : (i : Int) < 614 := by omega
  clear hi
  obtain ⟨bb, hbb⟩ : ∃ bb : UInt8, bb.toNat = b0 := ⟨UInt8.ofNat b0, by simp; omega⟩
  subst hbb
  have np := pk_ne s
  have n0 := pk_ne pk0
  have B0 := Blk.new w 50 (pk s)
  have X0 : Ext Non w (w.alloc (.cells (pk s) 50)) := (Ext.refl Non w).alloc _
  go_enter Try.func7, Try.ntmps7
  go_upto_region 1 with (fail)
  generalize w.alloc (.cells (pk s) 50) = v at *
  go_wp2_with fail
  have ctr := shown_calls v
  with_reducible refine Calls.mono ctr ?_
  clear ctr
  rintro e w1 ⟨rfl, x1⟩
  have l1 := load_pk (B0.extN_ x1) hs
  go_wp2_with fail
  have ctr := pack_calls w1 hs
  with_reducible refine Calls.mono ctr ?_
  clear ctr
  rintro e w2 ⟨A, c, rfl, O, x2⟩
  clear l1
  have hl := pkb_len hs
  have hob : ∀ k, ob A = some k → w1.heap.size ≤ k := fun k hk => (O.lt hk).1
  have B2 := (B0.extN_ x1).extN_ x2
  have X2 := (X0.transN x1).transN x2
  obtain ⟨x, hx⟩ : ∃ x, (pkb s).getD i 0 = x := ⟨_, rfl⟩
  obtain ⟨y, hy⟩ : ∃ y, x ^^^ bb = y := ⟨_, rfl⟩
  have ex : bits .xor .u8 (x.toNat : Int) (bb.toNat : Int) = (y.toNat : Int) := by rw [u8_xor', hy]
  have gx : (bvs (pkb s))[i]? = some (.int .u8 (x.toNat : Int)) := by rw [← hx]; simp [bvs, bv, List.getD, show i < (pkb s).length from by omega]
  obtain ⟨hA, cx⟩ := O.rd.ix gx
  obtain ⟨_, ⟨u, hc⟩, hf, O3, x3⟩ := O.set_ (j := i) (by omega) y _ rfl
  have hBA : ¬ ob A = some w.heap.size := fun h => by
    have h1 := hob _ h
    have h2 := (B0.extN_ x1).lt
    omega
  have B3 := B2.ext x3 hBA
  have X3 := X2.trans x3 (fun k hk h => by have := hob k h; have := (X0.transN x1).size; omega)
  have l3 : ((pkb s).set i y).length = 614 := by rw [List.length_set]; exact hl
  have okq := rdpk_ok l3
  have hyb : ((pkb s).getD i 0 = y) ↔ decide (bb ≠ 0) = false := by
    rw [hx, ← hy, decide_eq_false_iff_not, ne_eq, Decidable.not_not]
    constructor
    · intro h
      have := congrArg (fun z => x ^^^ z) h
      simp only [← UInt8.xor_assoc, UInt8.xor_self, UInt8.zero_xor] at this
      exact this.symm
    · intro h
      subst h
      simp
  have E := rdpk_set hs i hik y _ hyb
  clear O B2 X2 B0 X0 x1 x2 gx
  go_upto_region 7 with (fail)
  clear cx hc hf ex
  generalize w2.setCell ((A.getD default).add i) (.int .u8 (y.toNat : Int)) = v3 at *
  go_wp2_with fail
  have ctr := unpack_calls c O3.rd l3
  with_reducible refine Calls.mono ctr ?_
  clear ctr
  rintro e w4 ⟨rfl, x4⟩
  obtain ⟨q, hq⟩ : ∃ q, rdpk ((pkb s).set i y) = q := ⟨_, rfl⟩
  rw [hq] at okq E ⊢
  have st4 := store_pk w4 okq
  have nq := pk_ne q
  have X8 : Ext Non w (w4.alloc (.cells (pk q) 50)) := (X3.transN x4).alloc _
  have P8 := (B3.extN_ x4).alloc (.cells (pk q) 50)
  have Q8 := Blk.new w4 50 (pk q)
  clear hq x3 X3 B3 O3 x4 l3 hyb hob hBA hx hy hA
  go_upto_region 8 with (fail)
  clear st4
  generalize w4.alloc (.cells (pk q) 50) = v8 at *
  generalize w4.heap.size = g4 at *
  have a0 := (P8.cell 0).trans (pk_get0 (s := s))
  have a1 := (P8.cell 1).trans (pk_get1 (s := s))
  have c0 := (Q8.cell 0).trans (pk_get0 (s := q))
  have c1 := (Q8.cell 1).trans (pk_get1 (s := q))
  have anonce := load_nonce P8 hs
  have cnonce := load_nonce Q8 okq
  have amac := load_mac P8 hs
  have cmac := load_mac Q8 okq
  have ahead := load_head P8 hs
  have chead := load_head Q8 okq
  have abody := load_body P8 hs
  have cbody := load_body Q8 okq
  clear P8 Q8
  obtain ⟨f1, f2, f3, f4, f5, f6⟩ := E
  by_cases hb : bb = 0
  · subst hb
    simp only [ne_eq, not_true_eq_false, decide_false, Bool.false_and, Bool.not_false] at f1 f2 f3 f4 f5 f6
    as_aux_lemma =>
    have i1 : ((q.who : Int) != (s.who : Int)) = !true := by rw [bne, int_beq, f1]
    have i2 : ((q.epoch : Int) != (s.epoch : Int)) = !true := by rw [bne, int_beq, f2]
    have i3 := fun W => neq_nonce W (l := q.nonce) (m := s.nonce) okq.nonce hs.nonce true f3
    have i4 := fun W => neq_mac W (l := q.mac) (m := s.mac) okq.mac hs.mac true f4
    have i5 := fun W => neq_head W (l := q.head) (m := s.head) okq.head hs.head true f5
    have i6 := fun W => neq_body W (l := q.body) (m := s.body) okq.body hs.body true f6
    clear f1 f2 f3 f4 f5 f6 hm0 hma em1 em2 i0 wi hik np n0 nq hl
    go_upto_region 9 with (fail)
    refine wp_region_lit ?_
    iterate 100 (first | (refine wpList_quiet rfl ?_; apply Exists.intro; refine ⟨?_, ?_⟩; (go_simp; try with_reducible rfl); (intro K hK; simp only [Act.put, List.setIfInBounds_toArray, List.set_cons_zero, List.set_cons_succ]; refine hK _ ?_; clear hK K)) | (refine wpList_left rfl (fun K hK => ?_); simp only [Act.put, List.setIfInBounds_toArray, List.set_cons_zero, List.set_cons_succ]; refine hK _ ?_; clear hK K))
    refine wpList_nil ?_
    go_wp2_with fail
    go_ret
    exact ⟨rfl, X8.belowN⟩
  · have hbd : decide (bb ≠ 0) = true := decide_eq_true hb
    have hbn : ¬ bb.toNat = 0 := fun h => hb (UInt8.toNat_inj.1 h)
    have hbq : (((bb.toNat : Nat) : Int) == 0) = false := beq_eq_false_iff_ne.2 (by omega)
    have hbi : ¬ ((bb.toNat : Nat) : Int) = 0 := by omega
    have hbe : (((bb.toNat : Nat) : Int) != 0) = true := by rw [bne, hbq]; rfl
    rw [hbd, Bool.true_and] at f1 f2 f3 f4 f5 f6
    clear hbd hb hbn
    have hcases : i < 2 ∨ (2 ≤ i ∧ i < 6) ∨ (6 ≤ i ∧ i < 22) ∨ (22 ≤ i ∧ i < 38) ∨ (38 ≤ i ∧ i < 358) ∨ 358 ≤ i := by omega
    rcases hcases with h | ⟨h, h'⟩ | ⟨h, h'⟩ | ⟨h, h'⟩ | ⟨h, h'⟩ | h
    · as_aux_lemma =>
      replace f1 := f1.trans (show (!decide (i < 2)) = false by simp; try omega)
      replace f2 := f2.trans (show (!decide (2 ≤ i ∧ i < 6)) = true by simp; try omega)
      replace f3 := f3.trans (show (!decide (6 ≤ i ∧ i < 22)) = true by simp; try omega)
      replace f4 := f4.trans (show (!decide (22 ≤ i ∧ i < 38)) = true by simp; try omega)
      replace f5 := f5.trans (show (!decide (38 ≤ i ∧ i < 358)) = true by simp; try omega)
      replace f6 := f6.trans (show (!decide (358 ≤ i)) = true by simp; try omega)
      have k2 : (i : Int) < 2 := by omega
      have m2 : ¬ (2 : Int) ≤ i := by omega
      have k6 : (i : Int) < 6 := by omega
      have m6 : ¬ (6 : Int) ≤ i := by omega
      have k22 : (i : Int) < 22 := by omega
      have m22 : ¬ (22 : Int) ≤ i := by omega
      have k38 : (i : Int) < 38 := by omega
      have m38 : ¬ (38 : Int) ≤ i := by omega
      have k358 : (i : Int) < 358 := by omega
      have m358 : ¬ (358 : Int) ≤ i := by omega
      have i1 : ((q.who : Int) != (s.who : Int)) = !false := by rw [bne, int_beq, f1]
      have i2 : ((q.epoch : Int) != (s.epoch : Int)) = !true := by rw [bne, int_beq, f2]
      have i3 := fun W => neq_nonce W (l := q.nonce) (m := s.nonce) okq.nonce hs.nonce true f3
      have i4 := fun W => neq_mac W (l := q.mac) (m := s.mac) okq.mac hs.mac true f4
      have i5 := fun W => neq_head W (l := q.head) (m := s.head) okq.head hs.head true f5
      have i6 := fun W => neq_body W (l := q.body) (m := s.body) okq.body hs.body true f6
      clear f1 f2 f3 f4 f5 f6 hm0 hma em1 em2 i0 wi hik np n0 nq hl
      go_upto_region 9 with (fail)
      refine wp_region_lit ?_
      iterate 100 (first | (refine wpList_quiet rfl ?_; apply Exists.intro; refine ⟨?_, ?_⟩; (go_simp; try with_reducible rfl); (intro K hK; simp only [Act.put, List.setIfInBounds_toArray, List.set_cons_zero, List.set_cons_succ]; refine hK _ ?_; clear hK K)) | (refine wpList_left rfl (fun K hK => ?_); simp only [Act.put, List.setIfInBounds_toArray, List.set_cons_zero, List.set_cons_succ]; refine hK _ ?_; clear hK K))
      refine wpList_nil ?_
      go_wp2_with fail
      go_ret
      exact ⟨rfl, X8.belowN⟩
    · as_aux_lemma =>
      replace f1 := f1.trans (show (!decide (i < 2)) = true by simp; try omega)
      replace f2 := f2.trans (show (!decide (2 ≤ i ∧ i < 6)) = false by simp; try omega)
      replace f3 := f3.trans (show (!decide (6 ≤ i ∧ i < 22)) = true by simp; try omega)
      replace f4 := f4.trans (show (!decide (22 ≤ i ∧ i < 38)) = true by simp; try omega)
      replace f5 := f5.trans (show (!decide (38 ≤ i ∧ i < 358)) = true by simp; try omega)
      replace f6 := f6.trans (show (!decide (358 ≤ i)) = true by simp; try omega)
      have k2 : ¬ (i : Int) < 2 := by omega
      have m2 : (2 : Int) ≤ i := by omega
      have k6 : (i : Int) < 6 := by omega
      have m6 : ¬ (6 : Int) ≤ i := by omega
      have k22 : (i : Int) < 22 := by omega
      have m22 : ¬ (22 : Int) ≤ i := by omega
      have k38 : (i : Int) < 38 := by omega
      have m38 : ¬ (38 : Int) ≤ i := by omega
      have k358 : (i : Int) < 358 := by omega
      have m358 : ¬ (358 : Int) ≤ i := by omega
      have i1 : ((q.who : Int) != (s.who : Int)) = !true := by rw [bne, int_beq, f1]
      have i2 : ((q.epoch : Int) != (s.epoch : Int)) = !false := by rw [bne, int_beq, f2]
      have i3 := fun W => neq_nonce W (l := q.nonce) (m := s.nonce) okq.nonce hs.nonce true f3
      have i4 := fun W => neq_mac W (l := q.mac) (m := s.mac) okq.mac hs.mac true f4
      have i5 := fun W => neq_head W (l := q.head) (m := s.head) okq.head hs.head true f5
      have i6 := fun W => neq_body W (l := q.body) (m := s.body) okq.body hs.body true f6
      clear f1 f2 f3 f4 f5 f6 hm0 hma em1 em2 i0 wi hik np n0 nq hl
      go_upto_region 9 with (fail)
      refine wp_region_lit ?_
      iterate 100 (first | (refine wpList_quiet rfl ?_; apply Exists.intro; refine ⟨?_, ?_⟩; (go_simp; try with_reducible rfl); (intro K hK; simp only [Act.put, List.setIfInBounds_toArray, List.set_cons_zero, List.set_cons_succ]; refine hK _ ?_; clear hK K)) | (refine wpList_left rfl (fun K hK => ?_); simp only [Act.put, List.setIfInBounds_toArray, List.set_cons_zero, List.set_cons_succ]; refine hK _ ?_; clear hK K))
      refine wpList_nil ?_
      go_wp2_with fail
      go_ret
      exact ⟨rfl, X8.belowN⟩
    · as_aux_lemma =>
      replace f1 := f1.trans (show (!decide (i < 2)) = true by simp; try omega)
      replace f2 := f2.trans (show (!decide (2 ≤ i ∧ i < 6)) = true by simp; try omega)
      replace f3 := f3.trans (show (!decide (6 ≤ i ∧ i < 22)) = false by simp; try omega)
      replace f4 := f4.trans (show (!decide (22 ≤ i ∧ i < 38)) = true by simp; try omega)
      replace f5 := f5.trans (show (!decide (38 ≤ i ∧ i < 358)) = true by simp; try omega)
      replace f6 := f6.trans (show (!decide (358 ≤ i)) = true by simp; try omega)
      have k2 : ¬ (i : Int) < 2 := by omega
      have m2 : (2 : Int) ≤ i := by omega
      have k6 : ¬ (i : Int) < 6 := by omega
      have m6 : (6 : Int) ≤ i := by omega
      have k22 : (i : Int) < 22 := by omega
      have m22 : ¬ (22 : Int) ≤ i := by omega
      have k38 : (i : Int) < 38 := by omega
      have m38 : ¬ (38 : Int) ≤ i := by omega
      have k358 : (i : Int) < 358 := by omega
      have m358 : ¬ (358 : Int) ≤ i := by omega
      have i1 : ((q.who : Int) != (s.who : Int)) = !true := by rw [bne, int_beq, f1]
      have i2 : ((q.epoch : Int) != (s.epoch : Int)) = !true := by rw [bne, int_beq, f2]
      have i3 := fun W => neq_nonce W (l := q.nonce) (m := s.nonce) okq.nonce hs.nonce false f3
      have i4 := fun W => neq_mac W (l := q.mac) (m := s.mac) okq.mac hs.mac true f4
      have i5 := fun W => neq_head W (l := q.head) (m := s.head) okq.head hs.head true f5
      have i6 := fun W => neq_body W (l := q.body) (m := s.body) okq.body hs.body true f6
      clear f1 f2 f3 f4 f5 f6 hm0 hma em1 em2 i0 wi hik np n0 nq hl
      go_upto_region 9 with (fail)
      refine wp_region_lit ?_
      iterate 100 (first | (refine wpList_quiet rfl ?_; apply Exists.intro; refine ⟨?_, ?_⟩; (go_simp; try with_reducible rfl); (intro K hK; simp only [Act.put, List.setIfInBounds_toArray, List.set_cons_zero, List.set_cons_succ]; refine hK _ ?_; clear hK K)) | (refine wpList_left rfl (fun K hK => ?_); simp only [Act.put, List.setIfInBounds_toArray, List.set_cons_zero, List.set_cons_succ]; refine hK _ ?_; clear hK K))
      refine wpList_nil ?_
      go_wp2_with fail
      go_ret
      exact ⟨rfl, X8.belowN⟩
    · as_aux_lemma =>
      replace f1 := f1.trans (show (!decide (i < 2)) = true by simp; try omega)
      replace f2 := f2.trans (show (!decide (2 ≤ i ∧ i < 6)) = true by simp; try omega)
      replace f3 := f3.trans (show (!decide (6 ≤ i ∧ i < 22)) = true by simp; try omega)
      replace f4 := f4.trans (show (!decide (22 ≤ i ∧ i < 38)) = false by simp; try omega)
      replace f5 := f5.trans (show (!decide (38 ≤ i ∧ i < 358)) = true by simp; try omega)
      replace f6 := f6.trans (show (!decide (358 ≤ i)) = true by simp; try omega)
      have k2 : ¬ (i : Int) < 2 := by omega
      have m2 : (2 : Int) ≤ i := by omega
      have k6 : ¬ (i : Int) < 6 := by omega
      have m6 : (6 : Int) ≤ i := by omega
      have k22 : ¬ (i : Int) < 22 := by omega
      have m22 : (22 : Int) ≤ i := by omega
      have k38 : (i : Int) < 38 := by omega
      have m38 : ¬ (38 : Int) ≤ i := by omega
      have k358 : (i : Int) < 358 := by omega
      have m358 : ¬ (358 : Int) ≤ i := by omega
      have i1 : ((q.who : Int) != (s.who : Int)) = !true := by rw [bne, int_beq, f1]
      have i2 : ((q.epoch : Int) != (s.epoch : Int)) = !true := by rw [bne, int_beq, f2]
      have i3 := fun W => neq_nonce W (l := q.nonce) (m := s.nonce) okq.nonce hs.nonce true f3
      have i4 := fun W => neq_mac W (l := q.mac) (m := s.mac) okq.mac hs.mac false f4
      have i5 := fun W => neq_head W (l := q.head) (m := s.head) okq.head hs.head true f5
      have i6 := fun W => neq_body W (l := q.body) (m := s.body) okq.body hs.body true f6
      clear f1 f2 f3 f4 f5 f6 hm0 hma em1 em2 i0 wi hik np n0 nq hl
      go_upto_region 9 with (fail)
      refine wp_region_lit ?_
      iterate 100 (first | (refine wpList_quiet rfl ?_; apply Exists.intro; refine ⟨?_, ?_⟩; (go_simp; try with_reducible rfl); (intro K hK; simp only [Act.put, List.setIfInBounds_toArray, List.set_cons_zero, List.set_cons_succ]; refine hK _ ?_; clear hK K)) | (refine wpList_left rfl (fun K hK => ?_); simp only [Act.put, List.setIfInBounds_toArray, List.set_cons_zero, List.set_cons_succ]; refine hK _ ?_; clear hK K))
      refine wpList_nil ?_
      go_wp2_with fail
      go_ret
      exact ⟨rfl, X8.belowN⟩
    · as_aux_lemma =>
      replace f1 := f1.trans (show (!decide (i < 2)) = true by simp; try omega)
      replace f2 := f2.trans (show (!decide (2 ≤ i ∧ i < 6)) = true by simp; try omega)
      replace f3 := f3.trans (show (!decide (6 ≤ i ∧ i < 22)) = true by simp; try omega)
      replace f4 := f4.trans (show (!decide (22 ≤ i ∧ i < 38)) = true by simp; try omega)
      replace f5 := f5.trans (show (!decide (38 ≤ i ∧ i < 358)) = false by simp; try omega)
      replace f6 := f6.trans (show (!decide (358 ≤ i)) = true by simp; try omega)
      have k2 : ¬ (i : Int) < 2 := by omega
      have m2 : (2 : Int) ≤ i := by omega
      have k6 : ¬ (i : Int) < 6 := by omega
      have m6 : (6 : Int) ≤ i := by omega
      have k22 : ¬ (i : Int) < 22 := by omega
      have m22 : (22 : Int) ≤ i := by omega
      have k38 : ¬ (i : Int) < 38 := by omega
      have m38 : (38 : Int) ≤ i := by omega
      have k358 : (i : Int) < 358 := by omega
      have m358 : ¬ (358 : Int) ≤ i := by omega
      have i1 : ((q.who : Int) != (s.who : Int)) = !true := by rw [bne, int_beq, f1]
      have i2 : ((q.epoch : Int) != (s.epoch : Int)) = !true := by rw [bne, int_beq, f2]
      have i3 := fun W => neq_nonce W (l := q.nonce) (m := s.nonce) okq.nonce hs.nonce true f3
      have i4 := fun W => neq_mac W (l := q.mac) (m := s.mac) okq.mac hs.mac true f4
      have i5 := fun W => neq_head W (l := q.head) (m := s.head) okq.head hs.head false f5
      have i6 := fun W => neq_body W (l := q.body) (m := s.body) okq.body hs.body true f6
      clear f1 f2 f3 f4 f5 f6 hm0 hma em1 em2 i0 wi hik np n0 nq hl
      go_upto_region 9 with (fail)
      refine wp_region_lit ?_
      iterate 100 (first | (refine wpList_quiet rfl ?_; apply Exists.intro; refine ⟨?_, ?_⟩; (go_simp; try with_reducible rfl); (intro K hK; simp only [Act.put, List.setIfInBounds_toArray, List.set_cons_zero, List.set_cons_succ]; refine hK _ ?_; clear hK K)) | (refine wpList_left rfl (fun K hK => ?_); simp only [Act.put, List.setIfInBounds_toArray, List.set_cons_zero, List.set_cons_succ]; refine hK _ ?_; clear hK K))
      refine wpList_nil ?_
      go_wp2_with fail
      go_ret
      exact ⟨rfl, X8.belowN⟩
    · as_aux_lemma =>
      replace f1 := f1.trans (show (!decide (i < 2)) = true by simp; try omega)
      replace f2 := f2.trans (show (!decide (2 ≤ i ∧ i < 6)) = true by simp; try omega)
      replace f3 := f3.trans (show (!decide (6 ≤ i ∧ i < 22)) = true by simp; try omega)
      replace f4 := f4.trans (show (!decide (22 ≤ i ∧ i < 38)) = true by simp; try omega)
      replace f5 := f5.trans (show (!decide (38 ≤ i ∧ i < 358)) = true by simp; try omega)
      replace f6 := f6.trans (show (!decide (358 ≤ i)) = false by simp; try omega)
      have k2 : ¬ (i : Int) < 2 := by omega
      have m2 : (2 : Int) ≤ i := by omega
      have k6 : ¬ (i : Int) < 6 := by omega
      have m6 : (6 : Int) ≤ i := by omega
      have k22 : ¬ (i : Int) < 22 := by omega
      have m22 : (22 : Int) ≤ i := by omega
      have k38 : ¬ (i : Int) < 38 := by omega
      have m38 : (38 : Int) ≤ i := by omega
      have k358 : ¬ (i : Int) < 358 := by omega
      have m358 : (358 : Int) ≤ i := by omega
      have i1 : ((q.who : Int) != (s.who : Int)) = !true := by rw [bne, int_beq, f1]
      have i2 : ((q.epoch : Int) != (s.epoch : Int)) = !true := by rw [bne, int_beq, f2]
      have i3 := fun W => neq_nonce W (l := q.nonce) (m := s.nonce) okq.nonce hs.nonce true f3
      have i4 := fun W => neq_mac W (l := q.mac) (m := s.mac) okq.mac hs.mac true f4
      have i5 := fun W => neq_head W (l := q.head) (m := s.head) okq.head hs.head true f5
      have i6 := fun W => neq_body W (l := q.body) (m := s.body) okq.body hs.body false f6
      clear f1 f2 f3 f4 f5 f6 hm0 hma em1 em2 i0 wi hik np n0 nq hl
      go_upto_region 9 with (fail)
      refine wp_region_lit ?_
      iterate 100 (first | (refine wpList_quiet rfl ?_; apply Exists.intro; refine ⟨?_, ?_⟩; (go_simp; try with_reducible rfl); (intro K hK; simp only [Act.put, List.setIfInBounds_toArray, List.set_cons_zero, List.set_cons_succ]; refine hK _ ?_; clear hK K)) | (refine wpList_left rfl (fun K hK => ?_); simp only [Act.put, List.setIfInBounds_toArray, List.set_cons_zero, List.set_cons_succ]; refine hK _ ?_; clear hK K))
      refine wpList_nil ?_
      go_wp2_with fail
      go_ret
      exact ⟨rfl, X8.belowN⟩
end Go.Proofs.Ytgfjpoopghdilaa
