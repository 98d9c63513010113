/- The law OctetsStays: who asks for too much in vain loses nothing; for any bytes and any sizes: the Go text returns true. -/
import Derived.Test.YtkgnhkkmingenaaShown01
import Derived.Test.YtkgnhkkmingenaaSeq
namespace Go.Proofs.Ytkgnhkkmingenaa
open Go.RowKit

theorem bvs_take'' (l : List UInt8) (n : Nat) : bvs (l.take n) = (bvs l).take n := by simp [bvs]

/-- What holds between two rounds of OctetsStays. -/
structure SInv (w wr : World) (s1 p s2 q : Nat) (M : List UInt8) : Prop where
  len : M.length ≤ 200
  a : Rdr wr p (Iv s1 p) M
  b : Rdr wr q (Iv s2 q) M
  ext : Ext Non w wr
  o1 : w.heap.size ≤ p
  o2 : s1 ≤ p
  o3 : p < s2
  o4 : s2 ≤ q

theorem SInv.drew {w wr : World} {s1 p s2 q : Nat} {M : List UInt8} (I : SInv w wr s1 p s2 q M) : SInv w wr.drew s1 p s2 q M := ⟨I.len, I.a.drew, I.b.drew, I.ext.drew, I.o1, I.o2, I.o3, I.o4⟩

set_option maxRecDepth 100000 in
set_option maxHeartbeats 4000000 in
theorem stays_walk (A0 : Option Addr) (n0 c0 : Nat) (l0 : List UInt8) (A1 : Option Addr) (n1 c1 : Nat) (l1 : List UInt8) (w : World)
    (hn0 : l0.length = n0) (hc0 : n0 ≤ c0) (r0 : Rd w (· < w.heap.size) A0 (bvs l0)) (hn1 : l1.length = n1) (r1 : Rd w (· < w.heap.size) A1 (bvs l1)) :
    Calls Try.prog 7 #[.slice A0 n0 c0, .slice A1 n1 c1] w fun e w' => e = .returned (.bool true) ∧ Below w.heap.size w w' := by
  obtain ⟨k0, hk0, hk0a, hk0b, _⟩ := min_at n0 200 (by omega)
  obtain ⟨L, hL⟩ : ∃ L, L = l0.take k0 := ⟨_, rfl⟩
  have hLl : L.length = k0 := by rw [hL]; simp; omega
  have rL : Rd w (· < w.heap.size) A0 (bvs L) := by rw [hL, bvs_take'']; exact r0.take k0
  clear hL r0 hn0
  go_enter Try.func7, Try.ntmps7
  go_wp2_with fail
  have ctr := shown_calls w
  with_reducible refine Calls.mono ctr ?_
  clear ctr
  rintro e w1 ⟨rfl, x1⟩
  go_wp2_with fail
  have ctr := read_calls c0 k0 (rL.extN x1) hLl (by omega)
  with_reducible refine Calls.mono ctr ?_
  clear ctr
  rintro e w2 ⟨p, rfl, R2, hp, x2⟩
  have X2 := x1.transN x2
  go_wp2_with fail
  have ctr := read_calls c0 k0 (rL.extN X2) hLl (by omega)
  with_reducible refine Calls.mono ctr ?_
  clear ctr
  rintro e w3 ⟨q, rfl, R3, hq, x3⟩
  have X3 := X2.transN x3
  have I0 : SInv w w3 w1.heap.size p w2.heap.size q L := ⟨by omega, R2.extN x3, R3, X3, Nat.le_trans x1.size hp, hp, R2.lt, hq⟩
  clear R2 R3 X3 X2 hp hq x1 x2 x3
  go_wp2_with fail
  go_loopw [8] (fun i wr => ∃ (j : Nat) (M : List UInt8), j ≤ 40 ∧ i = .int .i64 j ∧ SInv w wr w1.heap.size p w2.heap.size q M) (fun i _ => 40 - (intOf i).toNat)
  case atStart => exact ⟨0, L, by omega, rfl, I0⟩
  case round =>
    obtain ⟨j, M, hj, rfl, I⟩ := hrel
    have hlen := I.len
    obtain ⟨o1, o2, o3, o4⟩ := (⟨I.o1, I.o2, I.o3, I.o4⟩ : _ ∧ _ ∧ _ ∧ _)
    obtain ⟨k, hk⟩ : ∃ k, M.length = k := ⟨_, rfl⟩
    have hk200 : k ≤ 200 := by omega
    have hRp := I.a.lt
    have hRq := I.b.lt
    by_cases hj1 : j < n1 ∧ j < 40
    · obtain ⟨hj1, hj40⟩ := hj1
      have hj40' : (j : Int) < 40 := by omega
      have hr1 := r1.extN I.ext
      obtain ⟨hA, hcl⟩ := hr1.ix (bvs_get l1 j (by omega))
      obtain ⟨z, hz⟩ : ∃ z, l1[j].toNat = z := ⟨_, rfl⟩
      rw [hz] at hcl
      have hz8 : z < 256 := by have := l1[j].toNat_lt; omega
      have HZ := Lib.hid hz
      clear hz
      have hcW := fun W (hW : Ext Non wr.drew W) => hW.cell (p := (A1.getD default).add j) (v := .int .u8 z) hcl (fun h => h)
      obtain ⟨m, hm, hm10⟩ : ∃ m : Nat, ((z : Int) % 10) = (m : Int) ∧ m < 10 := ⟨z % 10, by omega, by omega⟩
      have ww1 : IntKind.i64.wrap ((k : Int) + 1) = (k : Int) + 1 := by rw [IntKind.wrap_i64]; omega
      have ww2 : IntKind.i64.wrap (z : Int) = (z : Int) := by rw [IntKind.wrap_i64]; omega
      have ww3 : IntKind.i64.wrap ((k : Int) + 1 + (z : Int)) = (k : Int) + 1 + (z : Int) := by rw [IntKind.wrap_i64]; omega
      go_wp2_with fail
      refine wp_region_seq Non [(0, true), (1, true), (4, true), (5, true), (6, true), (7, true), (8, true), (2, false), (3, true), (9, true), (10, false), (11, true), (12, true), (13, true), (14, true), (15, true)] (by kernel_rfl) (by kernel_rfl) (by kernel_rfl) ?_
      iterate 7 (refine wpSeq_quiet rfl rfl ?_; apply Exists.intro; refine ⟨?_, ?_⟩; (intro W hW; have cl := hcW W hW; go_simp; try with_reducible rfl); (intro K hK; simp only [Act.put, List.setIfInBounds_toArray, List.set_cons_zero, List.set_cons_succ]; refine hK _ ?_; clear hK K))
      refine wpSeq_call rfl rfl (fun K hK => ?_)
      go_simp
      have ctr := left_calls I.a.drew
      with_reducible refine Calls.mono ctr ?_
      clear ctr
      rintro e v ⟨rfl, rfl⟩
      go_simp
      refine hK _ _ (Ext.refl _ _) ?_
      clear hK K
      iterate 2 (refine wpSeq_quiet rfl rfl ?_; apply Exists.intro; refine ⟨?_, ?_⟩; (intro W hW; go_simp; try with_reducible rfl); (intro K hK; simp only [Act.put, List.setIfInBounds_toArray, List.set_cons_zero, List.set_cons_succ]; refine hK _ ?_; clear hK K))
      refine wpSeq_call rfl rfl (fun K hK => ?_)
      go_simp
      have ctr := bytes_short I.a.drew ((k : Int) + 1 + z) (by rw [hk]; omega)
      with_reducible refine Calls.mono ctr ?_
      clear ctr
      rintro e v ⟨rfl, rfl⟩
      go_simp
      refine hK _ _ (Ext.refl _ _) ?_
      clear hK K hcW ww1 ww2 ww3
      iterate 5 (refine wpSeq_quiet rfl rfl ?_; apply Exists.intro; refine ⟨?_, ?_⟩; (intro W hW; go_simp; try with_reducible rfl); (intro K hK; simp only [Act.put, List.setIfInBounds_toArray, List.set_cons_zero, List.set_cons_succ]; refine hK _ ?_; clear hK K))
      refine wpSeq_end ?_
      go_wp2_with fail
      have ctr := bytes_arg (w := wr.drew) p (-1 - (z : Int)) (by omega)
      with_reducible refine Calls.mono ctr ?_
      clear ctr
      rintro e v ⟨rfl, rfl⟩
      have I := I.drew
      have r14 : Rd wr.drew (· < w.heap.size) A1 (bvs l1) := hr1.drew
      have hcl4 : wr.drew.cell? ((A1.getD default).add j) = some (.int .u8 z) := hcl
      generalize wr.drew = w4 at *
      go_wp2_with fail
      have ctr := left_calls I.a
      with_reducible refine Calls.mono ctr ?_
      clear ctr
      rintro e v ⟨rfl, rfl⟩
      by_cases hk8 : (k : Int) < 8
      case' pos =>
        go_wp2_with fail
        have ctr := u64_short I.a (by omega)
        with_reducible refine Calls.mono ctr ?_
        clear ctr
        rintro e v ⟨rfl, rfl⟩
      all_goals
        go_wp2_with fail
        by_cases hmk : m ≤ k
        · have ctr := bytes_ok I.a (by intro h; exact absurd h.2 (by omega)) (m : Int) m rfl (by omega)
          with_reducible refine Calls.mono ctr ?_
          clear ctr
          rintro e w5 ⟨A5, c5, rfl, o5, R5, x5⟩
          have S5 := I.b.one x5 (by omega) (by omega)
          obtain ⟨_, hcl5⟩ := (r14.ext x5 (fun k hk he => by have : k = p := he; omega)).ix (bvs_get l1 j (by omega))
          rw [HZ.out] at hcl5
          go_wp2_with fail
          have ctr := bytes_ok S5 (by intro h; exact absurd h.2 (by omega)) (m : Int) m rfl (by omega)
          with_reducible refine Calls.mono ctr ?_
          clear ctr
          rintro e w6 ⟨A6, c6, rfl, o6, S6, x6⟩
          have R6 := R5.one x6 (by omega) (by omega)
          have cv1 := run_convert_rd w6 22 9 5 Try.underlying22 Try.underlying9 Try.underlying5 (o5.rd.ext x6 (fun k hk he => by have h1 := (o5.lt hk).1; have h2 : k = q := he; have h3 := I.b.lt; omega)) m c5 (by simp; omega)
          have cv2 := run_convert_rd w6 22 9 5 Try.underlying22 Try.underlying9 Try.underlying5 o6.rd m c6 (by simp; omega)
          go_wp2_with fail
          have ctr := left_calls R6
          with_reducible refine Calls.mono ctr ?_
          clear ctr
          rintro e v ⟨rfl, rfl⟩
          go_wp2_with fail
          have ctr := left_calls S6
          with_reducible refine Calls.mono ctr ?_
          clear ctr
          rintro e v ⟨rfl, rfl⟩
          go_wp2_with fail
          exact ⟨⟨j + 1, M.drop m, by omega, by go_num, by simp; omega, R6, S6, (I.ext.trans x5 (fun i hi he => by have : i = p := he; omega)).trans x6 (fun i hi he => by have : i = q := he; omega), o1, o2, o3, o4⟩, by simp [intOf]; omega⟩
        · have ctr := bytes_short I.a (m : Int) (by omega)
          with_reducible refine Calls.mono ctr ?_
          clear ctr
          rintro e v ⟨rfl, rfl⟩
          go_wp2_with fail
          have ctr := bytes_short I.b (m : Int) (by omega)
          with_reducible refine Calls.mono ctr ?_
          clear ctr
          rintro e v ⟨rfl, rfl⟩
          have cv := run_convert_rd w4 22 9 5 Try.underlying22 Try.underlying9 Try.underlying5 (A := none) (D := Non) (l := []) Rd.nil 0 0 rfl
          go_wp2_with fail
          have ctr := left_calls I.a
          with_reducible refine Calls.mono ctr ?_
          clear ctr
          rintro e v ⟨rfl, rfl⟩
          go_wp2_with fail
          have ctr := left_calls I.b
          with_reducible refine Calls.mono ctr ?_
          clear ctr
          rintro e v ⟨rfl, rfl⟩
          go_wp2_with fail
          exact ⟨⟨j + 1, M, by omega, by go_num, I⟩, by simp [intOf]; omega⟩
    · go_wp2_with fail
      all_goals
        refine wp_region_seq (fun i => i = p ∨ i = q) [(0, true), (1, true), (2, true), (5, true), (3, false), (4, true), (6, false), (7, true), (8, true), (9, true), (10, true)] (by kernel_rfl) (by kernel_rfl) (by kernel_rfl) ?_
        iterate 4 (refine wpSeq_quiet rfl rfl ?_; apply Exists.intro; refine ⟨?_, ?_⟩; (intro W hW; go_simp; try with_reducible rfl); (intro K hK; simp only [Act.put, List.setIfInBounds_toArray, List.set_cons_zero, List.set_cons_succ]; refine hK _ ?_; clear hK K))
        refine wpSeq_call rfl rfl (fun K hK => ?_)
        go_simp
        have ctr := rest_calls I.a.drew (by intro h; exact absurd h.2 (by omega)) k hk
        with_reducible refine Calls.mono ctr ?_
        clear ctr
        rintro e v ⟨A5, c5, rfl, o5, R5, x5⟩
        go_simp
        refine hK _ _ (x5.imp (fun i _ hi => .inl hi)) ?_
        clear hK K
        have S5 := I.b.drew.one x5 (by omega) (by omega)
        have cvA := fun W (hW : Ext (fun i => i = p ∨ i = q) v W) => run_convert_rd W 22 9 5 Try.underlying22 Try.underlying9 Try.underlying5 (o5.rd.ext hW (fun k hk he => by have h1 := (o5.lt hk).1; simp at h1; omega)) k c5 hk
        iterate 1 (refine wpSeq_quiet rfl rfl ?_; apply Exists.intro; refine ⟨?_, ?_⟩; (intro W hW; have cv := cvA W hW; go_simp; try with_reducible rfl); (intro K hK; simp only [Act.put, List.setIfInBounds_toArray, List.set_cons_zero, List.set_cons_succ]; refine hK _ ?_; clear hK K))
        refine wpSeq_call rfl rfl (fun K hK => ?_)
        go_simp
        have ctr := rest_calls S5 (by intro h; exact absurd h.2 (by omega)) k hk
        with_reducible refine Calls.mono ctr ?_
        clear ctr
        rintro e v' ⟨A6, c6, rfl, o6, S6, x6⟩
        go_simp
        refine hK _ _ (x6.imp (fun i _ hi => .inr hi)) ?_
        clear hK K cvA
        have cvB := fun W (hW : Ext (fun i => i = p ∨ i = q) v' W) => run_convert_rd W 22 9 5 Try.underlying22 Try.underlying9 Try.underlying5 (o6.rd.ext hW (fun k hk he => by have h1 := (o6.lt hk).1; have := x5.size; simp at this; omega)) k c6 hk
        iterate 4 (refine wpSeq_quiet rfl rfl ?_; apply Exists.intro; refine ⟨?_, ?_⟩; (intro W hW; have cv := cvB W hW; go_simp; try with_reducible rfl); (intro K hK; simp only [Act.put, List.setIfInBounds_toArray, List.set_cons_zero, List.set_cons_succ]; refine hK _ ?_; clear hK K))
        refine wpSeq_end ?_
        go_wp2
        go_ret
        exact ⟨rfl, (((I.ext.drew.trans x5 (fun i hi he => by have : i = p := he; omega)).trans x6 (fun i hi he => by have : i = q := he; omega) : Ext Non w v')).belowN⟩

end Go.Proofs.Ytkgnhkkmingenaa
