/- The law DirectFull: its walk. -/
import Derived.Test.YtnmpfbffacljfaaDoorDirW
import Derived.Test.YtnmpfbffacljfaaDoorSeqS
import Derived.Deep.DeepCutAuto
namespace Go.Proofs.YtnmpfbffacljfaaDoor
open Go.RowKit

/-- A record for each epoch, of nodes by turns. -/
def turn (b i : Nat) : Rc := ⟨i % 16, b + i, b + i, i⟩
def turns (b : Nat) : Nat → List Rc
  | 0 => []
  | i + 1 => dirl (turns b i) (turn b i)
theorem turn_fine (b i : Nat) : (turn b i).fine = true := by
  have : i % 16 < 16 := Nat.mod_lt _ (by decide)
  simp [Rc.fine, turn, this]
theorem turn_apart {b i j : Nat} (h : j < i) : clash (turn b j) (turn b i) = false := by
  have e : clash (turn b j) (turn b i) = (decide (j % 16 = i % 16) && (decide (b + j ≤ b + i ∧ b + i ≤ b + j) || decide (b + i ≤ b + j ∧ b + j ≤ b + i))) := rfl
  rw [e, decide_eq_false (show ¬ (b + j ≤ b + i ∧ b + i ≤ b + j) by omega), decide_eq_false (show ¬ (b + i ≤ b + j ∧ b + j ≤ b + i) by omega)]
  simp
theorem turn_clash (b j : Nat) (r : Rc) (hf : r.fine = true) : clash (turn b j) r = decide (r.ad = j % 16 ∧ r.fr ≤ b + j ∧ b + j ≤ r.up) := by
  obtain ⟨ra, rf, ru, rn⟩ := r
  have hf : ra < 16 ∧ rf ≤ ru := by simpa [Rc.fine] using hf
  have e : clash (turn b j) ⟨ra, rf, ru, rn⟩ = (decide (j % 16 = ra) && (decide (b + j ≤ rf ∧ rf ≤ b + j) || decide (rf ≤ b + j ∧ b + j ≤ ru))) := rfl
  rw [e, Bool.eq_iff_iff]
  simp only [Bool.and_eq_true, Bool.or_eq_true, decide_eq_true_eq]
  omega
theorem turns_spec (b : Nat) (hb : b < 65536) : ∀ i, i ≤ 64 → Sound (turns b i) ∧ (turns b i).length = i ∧ (∀ r, r ∈ turns b i ↔ ∃ j, j < i ∧ r = turn b j)
  | 0, _ => ⟨Sound.nil, rfl, fun r => by simp [turns]⟩
  | i + 1, hi => by
    obtain ⟨h1, h2, h3⟩ := turns_spec b hb i (by omega)
    have h0 : dire (turns b i) (turn b i) = 0 := by
      refine dire_of (turn_fine b i) (fun x hx => ?_) (by omega)
      obtain ⟨j, hj, rfl⟩ := (h3 x).1 hx
      exact turn_apart hj
    have hok : (turn b i).ok := ⟨by show i % 16 < 65536; omega, by show b + i < 4294967296; omega, by show b + i < 4294967296; omega, by show i < 4294967296; omega⟩
    have e : turns b (i + 1) = ins (turn b i) (turns b i) := by
      show dirl _ _ = _
      unfold dirl
      rw [if_pos h0]
    rw [e]
    refine ⟨h1.ins hok h0, by rw [ins_len, h2], fun r => ?_⟩
    rw [ins_mem, h3]
    constructor
    · rintro (rfl | ⟨j, hj, rfl⟩)
      · exact ⟨i, by omega, rfl⟩
      · exact ⟨j, by omega, rfl⟩
    · rintro ⟨j, hj, rfl⟩
      by_cases h : j = i
      · subst h; exact .inl rfl
      · exact .inr ⟨j, by omega, rfl⟩
theorem turns_zero (b : Nat) (hb : b < 65536) (i : Nat) (hi : i < 64) : dire (turns b i) (turn b i) = 0 := by
  obtain ⟨h1, h2, h3⟩ := turns_spec b hb i (by omega)
  refine dire_of (turn_fine b i) (fun x hx => ?_) (by omega)
  obtain ⟨j, hj, rfl⟩ := (h3 x).1 hx
  exact turn_apart hj
/-- Is there one, of the first i, that the record meets? -/
def meets (b : Nat) (r : Rc) (i : Nat) : Bool := (List.range i).any fun j => decide (r.ad = j % 16 ∧ r.fr ≤ b + j ∧ b + j ≤ r.up)
theorem meets_succ (b : Nat) (r : Rc) (i : Nat) : meets b r (i + 1) = (meets b r i || decide (r.ad = i % 16 ∧ r.fr ≤ b + i ∧ b + i ≤ r.up)) := by
  unfold meets
  rw [List.range_succ, List.any_append]
  simp
/-- What a full directory answers. -/
theorem full_dire (b : Nat) (hb : b < 65536) (r : Rc) : dire (turns b 64) r = if r.fine then (if meets b r 64 then 12 else 8) else 1 := by
  obtain ⟨h1, h2, h3⟩ := turns_spec b hb 64 (Nat.le_refl _)
  unfold dire
  by_cases hf : r.fine = true
  · have hm : (turns b 64).any (clash · r) = meets b r 64 := by
      rw [Bool.eq_iff_iff, List.any_eq_true]
      unfold meets
      rw [List.any_eq_true]
      constructor
      · rintro ⟨x, hx, hc⟩
        obtain ⟨j, hj, rfl⟩ := (h3 x).1 hx
        rw [turn_clash b j r hf] at hc
        exact ⟨j, List.mem_range.2 hj, hc⟩
      · rintro ⟨j, hj, hc⟩
        exact ⟨turn b j, (h3 _).2 ⟨j, List.mem_range.1 hj, rfl⟩, by rw [turn_clash b j r hf]; exact hc⟩
    rw [if_pos hf, if_pos hf, hm, h2]
    rfl
  · rw [if_neg hf, if_neg hf]
set_option maxRecDepth 100000 in
set_option maxHeartbeats 4000000 in
theorem full_walk (b : Nat) (hb : b < 65536) (r : Rc) (hro : r.ok) (w : World) (G : Glob w) (hw2 : 2 ≤ w.heap.size) :
    Calls Tryd.prog 9 #[.int .u16 b, .agg (rcA r)] w fun e' w' => e' = .returned (.bool true) ∧ Below w.heap.size w w' := by
  have hfd := full_dire b hb r
  have hms := meets_succ b r
  obtain ⟨ra, rf, ru, rn⟩ := r
  unfold rcA
  simp only
  have X0 := (Ext.refl Non w).alloc (.cells #[.int .u16 ra, .int .u32 rf, .int .u32 ru, .int .u32 rn] 37)
  have B0 := Blk.new w 37 #[.int .u16 ra, .int .u32 rf, .int .u32 ru, .int .u32 rn]
  go_enter Tryd.func9, Tryd.ntmps9
  go_wp2_with fail
  have ctr := shown_calls (G.extN X0) (by rw [World.size_alloc]; omega)
  with_reducible refine Calls.mono ctr ?_
  clear ctr
  rintro e w1 ⟨rfl, x1⟩
  have X1 := X0.transN x1
  have hs0 : w.heap.size + 1 ≤ w1.heap.size := by have := x1.size; rw [World.size_alloc] at this; exact this
  go_wp2_with fail
  have ctr := new_calls w1
  with_reducible refine Calls.mono ctr ?_
  clear ctr
  rintro e w2 ⟨d, rfl, H2, x2⟩
  have X2 := X1.transN x2
  have Bm := (B0.extN_ x1).extN_ x2
  obtain ⟨D, hD⟩ : ∃ D : Nat → Prop, D = fun k => w1.heap.size ≤ k ∧ k < w2.heap.size := ⟨_, rfl⟩
  rw [← hD] at H2
  have hDw : ∀ i, i < w.heap.size → D i → Non i := fun i hi h => by rw [hD] at h; omega
  have hDm : ¬ D w.heap.size := fun h => by rw [hD] at h; omega
  clear X0 B0 X1 x1 x2
  go_wp2_with fail
  go_loopw [7] (fun z wr => ∃ i : Nat, i ≤ 64 ∧ z = .int .u32 i ∧ Di wr D d (turns b i) ∧ Blk wr w.heap.size 37 #[.int .u16 ra, .int .u32 rf, .int .u32 ru, .int .u32 rn] ∧ Ext Non w wr) (fun z _ => 64 - (intOf z).toNat)
  case atStart => exact ⟨0, by omega, rfl, H2, Bm, X2⟩
  case round =>
    clear H2 X2 Bm
    obtain ⟨i, hi, rfl, H, Bm, X⟩ := hrel
    by_cases h64 : i < 64
    · have i1 : (i : Int) < 64 := by omega
      obtain ⟨q, hq⟩ : ∃ q, i % 16 = q := ⟨_, rfl⟩
      have hz : dire (turns b i) ⟨q, b + i, b + i, i⟩ = 0 := by rw [← hq]; exact turns_zero b hb i h64
      have hT : dirl (turns b i) ⟨q, b + i, b + i, i⟩ = turns b (i + 1) := by rw [← hq]; rfl
      have j1 : Int.tmod (i : Int) 16 = (q : Int) := by rw [Int.tmod_eq_emod_of_nonneg (by omega)]; omega
      have j2 : IntKind.u16.wrap (q : Int) = (q : Int) := by rw [IntKind.wrap_u16]; omega
      have j3 : IntKind.u32.wrap (b : Int) = (b : Int) := by rw [IntKind.wrap_u32]; omega
      have j4 : IntKind.u32.wrap ((b : Int) + (i : Int)) = (b : Int) + (i : Int) := by rw [IntKind.wrap_u32]; omega
      have j5 : IntKind.u32.wrap ((i : Int) + 1) = (i : Int) + 1 := by rw [IntKind.wrap_u32]; omega
      have j6 : IntKind.u32.wrap (q : Int) = (q : Int) := by rw [IntKind.wrap_u32]; omega
      have hok : (⟨q, b + i, b + i, i⟩ : Rc).ok := ⟨by show q < 65536; omega, by show b + i < 4294967296; omega, by show b + i < 4294967296; omega, by show i < 4294967296; omega⟩
      have HZ := Lib.hid hz
      have HT := Lib.hid hT
      clear hz hT hq
      go_wp2_with fail
      have ctr := add_i H q (b + i) (b + i) i hok 0 HZ.out (turns b (i + 1)) HT.out rfl (show ((b : Int) + (i : Int)) = ((b + i : Nat) : Int) by omega) (show ((b : Int) + (i : Int)) = ((b + i : Nat) : Int) by omega) rfl rfl
      with_reducible refine Calls.mono ctr ?_
      clear ctr
      rintro e w5 ⟨rfl, H5, x5⟩
      go_wp2_with fail
      exact ⟨⟨i + 1, by omega, by go_num, H5, Bm.ext x5 hDm, X.trans x5 hDw⟩, by simp [intOf]; omega⟩
    · obtain rfl : 64 = i := by omega
      obtain ⟨hS, hSl, _⟩ := turns_spec b hb 64 (Nat.le_refl _)
      obtain ⟨z, hz⟩ : ∃ z, dire (turns b 64) ⟨ra, rf, ru, rn⟩ = z := ⟨_, rfl⟩
      have hz0 : z ≠ 0 := by
        rw [← hz, hfd]
        split
        · split <;> decide
        · decide
      have hT : dirl (turns b 64) ⟨ra, rf, ru, rn⟩ = turns b 64 := by unfold dirl; rw [hz, if_neg hz0]
      rw [hz] at hfd
      obtain ⟨mt, hmt⟩ : ∃ mt : Nat → Bool, mt = meets b ⟨ra, rf, ru, rn⟩ := ⟨_, rfl⟩
      have hm0 : mt 0 = false := by rw [hmt]; rfl
      rw [← hmt] at hms hfd
      clear hmt
      have hff : (⟨ra, rf, ru, rn⟩ : Rc).fine = decide (ra < 16 ∧ rf ≤ ru) := rfl
      rw [hff] at hfd
      generalize turns b 64 = S at *
      obtain ⟨bs, hbs⟩ : ∃ bs, dirs S = bs := ⟨_, rfl⟩
      obtain ⟨nb, hnb⟩ : ∃ nb, bs.length = nb := ⟨_, rfl⟩
      have hbn : (dirs S).length = nb := by rw [hbs]; exact hnb
      have HB := Lib.hid hbs
      have HZ := Lib.hid hz
      have HT := Lib.hid hT
      have HF := Lib.hid hfd
      have HM := Lib.hid hms
      clear hbs hz hT hfd hms hff
      have hsX := X.size
      go_wp2_with fail
      have ctr := bytes_calls (G.extN X) (by omega) H nb hbn
      with_reducible refine Calls.mono ctr ?_
      clear ctr
      rintro e w3 ⟨Ab, cb, rfl, Ob, x3⟩
      rw [HB.out] at Ob
      have cv := conv_str (OwB.rd Ob) nb cb hnb
      have X3 := X.transN x3
      have H3 := H.extN x3
      have Bm3 := Bm.extN_ x3
      obtain ⟨c0, c1, c2, c3⟩ := rc_cells Bm3
      clear X H Bm x3
      go_wp2_with fail
      have ctr := add_i H3 ra rf ru rn hro z HZ.out S HT.out rfl rfl rfl rfl rfl
      with_reducible refine Calls.mono ctr ?_
      clear ctr
      rintro e w4 ⟨rfl, H4, x4⟩
      have X4 := X3.trans x4 hDw
      have Bm4 := Bm3.ext x4 hDm
      have hs4 := X4.size
      clear X3 H3 Bm3 x4 c0 c1 c2 c3 cv Ob
      go_wp2_with fail
      go_loopw [10, 11] (fun y z wr => ∃ i : Nat, i ≤ 64 ∧ z = .int .u32 i ∧ y = .int .i64 ((if mt i then 12 else 8 : Nat) : Int) ∧ Ext Non w4 wr) (fun _ z _ => 64 - (intOf z).toNat)
      case atStart => exact ⟨0, by omega, rfl, by rw [hm0]; rfl, Ext.refl _ _⟩
      case round =>
        obtain ⟨i, hi, rfl, rfl, X⟩ := hrel
        obtain ⟨c0, c1, c2, c3⟩ := rc_cells (Bm4.extN_ X)
        by_cases h64 : i < 64
        · have i1 : (i : Int) < 64 := by omega
          have hmi := HM.out i
          obtain ⟨y, hy⟩ : ∃ y, mt i = y := ⟨_, rfl⟩
          rw [hy] at hmi ⊢
          obtain ⟨q, hq⟩ : ∃ q, i % 16 = q := ⟨_, rfl⟩
          rw [hq] at hmi
          have j1 : Int.tmod (i : Int) 16 = (q : Int) := by rw [Int.tmod_eq_emod_of_nonneg (by omega)]; omega
          have j3 : IntKind.u32.wrap (b : Int) = (b : Int) := by rw [IntKind.wrap_u32]; omega
          have j4 : IntKind.u32.wrap ((b : Int) + (i : Int)) = (b : Int) + (i : Int) := by rw [IntKind.wrap_u32]; omega
          have j5 : IntKind.u32.wrap ((i : Int) + 1) = (i : Int) + 1 := by rw [IntKind.wrap_u32]; omega
          have j6 : IntKind.u32.wrap (q : Int) = (q : Int) := by rw [IntKind.wrap_u32]; omega
          have hra := hro.ad
          have j7 : IntKind.u32.wrap (ra : Int) = (ra : Int) := by rw [IntKind.wrap_u32]; have : ra < 65536 := hra; omega
          have HY := Lib.hid hmi
          clear hmi hy hq hra
          by_cases t1 : ra = q
          · subst t1
            by_cases t2 : rf ≤ b + i
            · have k2 : (rf : Int) ≤ (b : Int) + (i : Int) := by omega
              by_cases t3 : b + i ≤ ru
              · have k3 : (b : Int) + (i : Int) ≤ (ru : Int) := by omega
                go_wp2_with fail
                exact ⟨⟨i + 1, by omega, by go_num, by rw [HY.out]; simp [t2, t3], X⟩, by simp [intOf]; omega⟩
              · have k3 : ¬ (b : Int) + (i : Int) ≤ (ru : Int) := by omega
                go_wp2_with fail
                exact ⟨⟨i + 1, by omega, by go_num, by rw [HY.out]; simp [t3], X⟩, by simp [intOf]; omega⟩
            · have k2 : ¬ (rf : Int) ≤ (b : Int) + (i : Int) := by omega
              go_wp2_with fail
              exact ⟨⟨i + 1, by omega, by go_num, by rw [HY.out]; simp [t2], X⟩, by simp [intOf]; omega⟩
          · have k1 : ¬ (ra : Int) = (q : Int) := by omega
            go_wp2_with fail
            exact ⟨⟨i + 1, by omega, by go_num, by rw [HY.out]; simp [t1], X⟩, by simp [intOf]; omega⟩
        · obtain rfl : 64 = i := by omega
          have HF2 := HF.out
          have hS64 := hSl
          have X5 := X4.transN X
          have H5 := H4.extN X
          have hs5 := X5.size
          have sn := fun W => eql_str W bs bs true (by simp)
          obtain ⟨y, hy⟩ : ∃ y, mt 64 = y := ⟨_, rfl⟩
          rw [hy] at HF2 ⊢
          clear HF HM HZ HT hy X4 H4
          by_cases t1 : 16 ≤ ra
          · have k1 : (16 : Int) ≤ (ra : Int) := by omega
            rw [decide_eq_false (show ¬ (ra < 16 ∧ rf ≤ ru) by omega)] at HF2
            cases y
            all_goals
              have HF3 : z = _ := HF2
              subst HF3
              go_wp2_with (first | (go_at_call 24; refine (bytes_calls (G.extN X5) (by omega) H5 nb hbn).mono ?_; rintro e w6 ⟨A6, c6, rfl, O6, x6⟩; rw [HB.out] at O6; have cv6 := conv_str (OwB.rd O6) nb c6 hnb) | (go_at_call 18; refine (len_calls (H5.extN x6) 64 hS64).mono ?_; rintro e w7 ⟨rfl, rfl⟩))
              go_ret
              exact ⟨rfl, (X5.transN x6).belowN⟩
          · have k1 : ¬ (16 : Int) ≤ (ra : Int) := by omega
            by_cases t2 : ru < rf
            · have k2 : (ru : Int) < (rf : Int) := by omega
              rw [decide_eq_false (show ¬ (ra < 16 ∧ rf ≤ ru) by omega)] at HF2
              cases y
              all_goals
                have HF3 : z = _ := HF2
                subst HF3
                go_wp2_with (first | (go_at_call 24; refine (bytes_calls (G.extN X5) (by omega) H5 nb hbn).mono ?_; rintro e w6 ⟨A6, c6, rfl, O6, x6⟩; rw [HB.out] at O6; have cv6 := conv_str (OwB.rd O6) nb c6 hnb) | (go_at_call 18; refine (len_calls (H5.extN x6) 64 hS64).mono ?_; rintro e w7 ⟨rfl, rfl⟩))
                go_ret
                exact ⟨rfl, (X5.transN x6).belowN⟩
            · have k2 : ¬ (ru : Int) < (rf : Int) := by omega
              rw [decide_eq_true (show ra < 16 ∧ rf ≤ ru by omega)] at HF2
              cases y
              all_goals
                have HF3 : z = _ := HF2
                subst HF3
                go_wp2_with (first | (go_at_call 24; refine (bytes_calls (G.extN X5) (by omega) H5 nb hbn).mono ?_; rintro e w6 ⟨A6, c6, rfl, O6, x6⟩; rw [HB.out] at O6; have cv6 := conv_str (OwB.rd O6) nb c6 hnb) | (go_at_call 18; refine (len_calls (H5.extN x6) 64 hS64).mono ?_; rintro e w7 ⟨rfl, rfl⟩))
                go_ret
                exact ⟨rfl, (X5.transN x6).belowN⟩
end Go.Proofs.YtnmpfbffacljfaaDoor
