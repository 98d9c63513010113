/- The law OctetsParts: in which parts bytes are taken does not matter; for any bytes and any sizes: the Go text returns true. -/
import Derived.Test.YtkgnhkkmingenaaShown01
import Derived.Test.YtkgnhkkmingenaaSeq
namespace Go.Proofs.Ytkgnhkkmingenaa
open Go.RowKit

theorem bvs_take' (l : List UInt8) (n : Nat) : bvs (l.take n) = (bvs l).take n := by simp [bvs]

set_option maxRecDepth 100000 in
set_option maxHeartbeats 4000000 in
theorem parts_walk (A0 : Option Addr) (n0 c0 : Nat) (l0 : List UInt8) (A1 : Option Addr) (n1 c1 : Nat) (l1 : List UInt8) (w : World)
    (hn0 : l0.length = n0) (hc0 : n0 ≤ c0) (r0 : Rd w (· < w.heap.size) A0 (bvs l0)) (hn1 : l1.length = n1) (r1 : Rd w (· < w.heap.size) A1 (bvs l1)) :
    Calls Try.prog 6 #[.slice A0 n0 c0, .slice A1 n1 c1] w fun e w' => e = .returned (.bool true) ∧ Below w.heap.size w w' := by
  obtain ⟨k0, hk0, hk0a, hk0b, _⟩ := min_at n0 200 (by omega)
  obtain ⟨L, hL⟩ : ∃ L, L = l0.take k0 := ⟨_, rfl⟩
  have hLl : L.length = k0 := by rw [hL]; simp; omega
  have rL : Rd w (· < w.heap.size) A0 (bvs L) := by rw [hL, bvs_take']; exact r0.take k0
  clear hL r0 hn0
  go_enter Try.func6, Try.ntmps6
  go_wp2_with fail
  refine (shown_calls w).mono ?_
  rintro e w1 ⟨rfl, x1⟩
  go_wp2_with fail
  refine (read_calls c0 k0 (rL.extN x1) hLl (by omega)).mono ?_
  rintro e w2 ⟨p, rfl, R2, hp, x2⟩
  have X2 := x1.transN x2
  have hpw : w.heap.size ≤ p := Nat.le_trans x1.size hp
  go_wp2_with fail
  go_loopw [7, 8] (fun all i wr => ∃ j d : Nat, j ≤ 40 ∧ i = .int .i64 j ∧ d ≤ L.length ∧ all = .string (str (L.take d)) ∧ Rdr wr p (Iv w1.heap.size p) (L.drop d) ∧ Ext Non w wr) (fun _ i _ => 40 - (intOf i).toNat)
  case atStart => exact ⟨0, 0, by omega, rfl, by omega, rfl, R2, X2⟩
  case round =>
    obtain ⟨j, d, hj, rfl, hd, rfl, R, X⟩ := hrel
    by_cases hj1 : j < n1 ∧ j < 40
    · obtain ⟨hj1, hj40⟩ := hj1
      obtain ⟨hA, hcl⟩ := (r1.extN X).ix (bvs_get l1 j (by omega))
      have hj40' : (j : Int) < 40 := by omega
      obtain ⟨z, hz⟩ : ∃ z, l1[j].toNat = z := ⟨_, rfl⟩
      rw [hz] at hcl
      have hz8 : z < 256 := by have := l1[j].toNat_lt; omega
      clear hz
      obtain ⟨m, hm, hm30⟩ : ∃ m : Nat, ((z : Int) % 30) = (m : Int) ∧ m < 30 := ⟨z % 30, by omega, by omega⟩
      obtain ⟨M, hM⟩ : ∃ M, M = L.drop d := ⟨_, rfl⟩
      rw [← hM] at R
      obtain ⟨q, hq⟩ : ∃ q, M.length = q := ⟨_, rfl⟩
      have hdq : d + q = k0 := by rw [← hq, hM, List.length_drop, hLl]; omega
      have HM := Lib.hid hM
      clear hM
      go_wp2_with fail
      refine (left_calls R).mono ?_
      rintro e w3 ⟨rfl, rfl⟩
      go_wp2_with fail
      by_cases hmq : m ≤ q
      · obtain ⟨q', rfl⟩ : ∃ q', q = m + q' := ⟨q - m, by omega⟩
        have htk : L.take d ++ M.take m = L.take (d + m) := by rw [HM.out, ← List.take_add]
        have hdr : M.drop m = L.drop (d + m) := by rw [HM.out, List.drop_drop]
        refine (bytes_ok R (by intro h; exact absurd h.2 (by omega)) _ m rfl (by omega)).mono ?_
        rintro e w4 ⟨A', c', rfl, o4, R4, x4⟩
        have hl4 : (M.drop m).length = q' := by rw [List.length_drop]; omega
        have cv := run_convert_rd w4 22 9 5 Try.underlying22 Try.underlying9 Try.underlying5 o4.rd m c' (by simp; omega)
        obtain ⟨hs1, hs2, hs3, hs4, hmax⟩ := sum_facts htk d m (by simp; omega) (by simp; omega) (by omega)
        clear htk
        have hfin : k0 - (d + m) = q' := by omega
        have hmq1 : (m : Int) ≤ (m : Int) + (q' : Int) := by omega
        go_wp2_with fail
        refine (left_calls R4).mono ?_
        rintro e w5 ⟨rfl, rfl⟩
        go_wp2_with fail
        exact ⟨⟨j + 1, d + m, by omega, by go_num, by omega, rfl, hdr ▸ R4, X.trans x4 (fun i hi he => by have : i = p := he; omega)⟩, by simp [intOf]; omega⟩
      · have hmq1 : ¬ ((m : Int) ≤ (q : Int)) := by omega
        refine (bytes_short R _ (by omega)).mono ?_
        rintro e w4 ⟨rfl, rfl⟩
        have cv := run_convert_rd wr 22 9 5 Try.underlying22 Try.underlying9 Try.underlying5 (A := none) (D := Non) (l := []) Rd.nil 0 0 rfl
        obtain ⟨hs1, hs2, hs3, hs4, hmax⟩ := sum_facts (l := L.take d) (m := []) (r := L.take d) (by simp) d 0 (by simp; omega) rfl (by omega)
        have hfin : k0 - d = q := by omega
        go_wp2_with fail
        refine (left_calls R).mono ?_
        rintro e w5 ⟨rfl, rfl⟩
        go_wp2_with fail
        exact ⟨⟨j + 1, d, by omega, by go_num, hd, rfl, HM.out ▸ R, X⟩, by simp [intOf]; omega⟩
    · obtain ⟨M, hM⟩ : ∃ M, M = L.drop d := ⟨_, rfl⟩
      rw [← hM] at R
      obtain ⟨q, hq⟩ : ∃ q, M.length = q := ⟨_, rfl⟩
      have hdq : d + q = k0 := by rw [← hq, hM, List.length_drop, hLl]; omega
      have htk : L.take d ++ M = L := by rw [hM, List.take_append_drop]
      clear hM
      go_wp2_with fail
      all_goals
        have hk0m : ¬ 9223372036854775807 < k0 := by omega
        have cv0 := fun W (hW : Ext (One p) wr.drew W) => run_convert_rd W 22 9 5 Try.underlying22 Try.underlying9 Try.underlying5 ((rL.extN X).drew.ext hW (fun k hk he => by have : k = p := he; omega)) k0 c0 hLl
        refine wp_region_seq (One p) [(0, true), (1, true), (2, true), (3, true), (7, true), (8, true), (4, false), (5, true), (6, true), (9, true), (10, true), (11, true), (12, true), (13, false), (14, true), (15, true), (16, true), (17, true), (18, false), (19, true), (20, true), (21, true)] (by kernel_rfl) (by kernel_rfl) (by kernel_rfl) ?_
        iterate 6 (refine wpSeq_quiet rfl rfl ?_; apply Exists.intro; refine ⟨?_, ?_⟩; (intro W hW; have cv := cv0 W hW; go_simp; try with_reducible rfl); (intro K hK; simp only [Act.put, List.setIfInBounds_toArray, List.set_cons_zero, List.set_cons_succ]; refine hK _ ?_; clear hK K))
        refine wpSeq_call rfl rfl (fun K hK => ?_)
        go_simp
        refine (rest_calls R.drew (by intro h; exact absurd h.2 (by omega)) q hq).mono ?_
        rintro e v ⟨A', c', rfl, o, R', x⟩
        go_simp
        refine hK _ _ x ?_
        clear hK K cv0
        have cvA := fun W (hW : Ext (One p) v W) => run_convert_rd W 22 9 5 Try.underlying22 Try.underlying9 Try.underlying5 (o.rd.ext hW (fun k hk he => by have h1 := (o.lt hk).1; have h2 : k = p := he; have h3 := R.lt; simp at h1; omega)) q c' hq
        obtain ⟨hs1, hs2, hs3, hs4, hmax⟩ := sum_facts htk d q (by simp; omega) hq (by omega)
        iterate 6 (refine wpSeq_quiet rfl rfl ?_; apply Exists.intro; refine ⟨?_, ?_⟩; (intro W hW; have cv := cvA W hW; go_simp; try with_reducible rfl); (intro K hK; simp only [Act.put, List.setIfInBounds_toArray, List.set_cons_zero, List.set_cons_succ]; refine hK _ ?_; clear hK K))
        refine wpSeq_call rfl rfl (fun K hK => ?_)
        go_simp
        refine (left_calls R').mono ?_
        rintro e v' ⟨rfl, rfl⟩
        go_simp
        refine hK _ _ (Ext.refl _ _) ?_
        clear hK K
        iterate 4 (refine wpSeq_quiet rfl rfl ?_; apply Exists.intro; refine ⟨?_, ?_⟩; (intro W hW; go_simp; try with_reducible rfl); (intro K hK; simp only [Act.put, List.setIfInBounds_toArray, List.set_cons_zero, List.set_cons_succ]; refine hK _ ?_; clear hK K))
        refine wpSeq_call rfl rfl (fun K hK => ?_)
        go_simp
        refine (rdone_calls R').mono ?_
        rintro e v' ⟨rfl, rfl⟩
        go_simp
        refine hK _ _ (Ext.refl _ _) ?_
        clear hK K
        iterate 3 (refine wpSeq_quiet rfl rfl ?_; apply Exists.intro; refine ⟨?_, ?_⟩; (intro W hW; go_simp; try with_reducible rfl); (intro K hK; simp only [Act.put, List.setIfInBounds_toArray, List.set_cons_zero, List.set_cons_succ]; refine hK _ ?_; clear hK K))
        refine wpSeq_end ?_
        go_wp2
        go_ret
        refine ⟨rfl, ((X.drew.trans x (fun i hi he => by have : i = p := he; omega) : Ext Non w v)).belowN⟩

end Go.Proofs.Ytkgnhkkmingenaa
