/- The law PieceJoins: messages are put together as the document says. -/
import Derived.Test.YtcdpmedmhindaaaRjT
import Derived.Test.YtcdpmedmhindaaaPieF
import Derived.Test.YtcdpmedmhindaaaPieDec
import Derived.Deep.DeepCutAuto
namespace Go.Proofs.Ytcdpmedmhindaaa
open Go.RowKit

@[go_sem ↓] theorem big_load_pc (x : Value) : Instr.loadAt 45 x = bigLoad 45 x := rfl
set_option maxRecDepth 100000 in
/-- A whole piece, from any address. -/
theorem load_any_pc {w : World} {l : List Value} (h : l.length = 7) (a : Addr) (hc : ∀ j u, l[j]? = some u → w.cell? (a.add j) = some u) : (bigLoad 45 (.pointer (some a))).run Try.prog w = .ok (.agg l.toArray) w := by
  have hl := run_loadCells_list (P := Try.prog) w a l hc
  rw [h] at hl
  obtain ⟨i, hi, hi1⟩ := Option.map_eq_some_iff.1 (show (Try.prog.info? 45).map (·.size) = some 7 by kernel_rfl)
  have ha : ∀ w, (isAgg 45).run Try.prog w = .ok true w := fun _ => rfl
  simp [bigLoad, Instr.loadAt, Instr.sureAddr, loadVar, ha, sizeOf, typeInfo, hi, hi1, hl]
theorem jtake_zero {J J' : Jn} {p : Pc} {e : Nat} {m : List UInt8} (h : jtake J p = (J', e, some m)) : e = 0 := by
  unfold jtake at h
  split at h
  · unfold jput at h
    simp only at h
    split at h
    · injection h with _ h; injection h with _ h; cases h
    · injection h with _ h; injection h with h _; exact h.symm
  · injection h with _ h; injection h with _ h; cases h
theorem store_rm_new (w : World) {cs : Array Value} (h : cs.size = 4) (h1 : cs.all (·.oneCell') = true) :
    (bigStore 48 (.pointer (some ⟨w.heap.size, 0, none⟩)) (.agg cs)).run Try.prog (w.alloc (.cells #[.int .u32 0, .int .u16 0, .int .u16 0, .string ⟨#[]⟩] 48)) = .ok () (w.alloc (.cells cs 48)) := by
  rw [Blk.big_store (P := Try.prog) (cs' := cs) (Blk.new w 48 #[.int .u32 0, .int .u16 0, .int .u16 0, .string ⟨#[]⟩]) h.symm (by rw [h]; kernel_rfl) h1, World.setRow_alloc_new]
theorem rtake_L (R : RJ) (p : Pc) : (rtake R p).1.L.length ≤ R.L.length + 1 ∧ ∀ q ∈ (rtake R p).1.L, q ∈ R.L ∨ q = p := by
  have h0 : R.L.length ≤ R.L.length + 1 ∧ ∀ q ∈ R.L, q ∈ R.L ∨ q = p := ⟨Nat.le_succ _, fun q hq => .inl hq⟩
  unfold rtake
  split
  · split
    · exact h0
    · split
      · exact h0
      · split
        · exact h0
        · split
          · exact h0
          · split
            · exact ⟨by simp, fun q hq => by simpa using hq⟩
            · exact ⟨Nat.le_trans (List.length_filter_le _ _) (Nat.le_succ _), fun q hq => .inl (List.mem_filter.1 hq).1⟩
  · exact h0
set_option maxRecDepth 100000 in
set_option maxHeartbeats 4000000 in
theorem joins_walk (room : Int) (Al : Option Addr) (nl cl : Nat) (w : World)
    (hl : nl ≤ cl ∧ ∀ i, i < nl → Al.isSome = true ∧ ∃ (p : Pc) (A : Option Addr) (c : Nat), p.ok ∧ p.b.length ≤ c ∧ c ≤ maxLen ∧ Rd w (· < w.heap.size) A (bvs p.b) ∧ ∀ j u, (pcA p A c).toList[j]? = some u → w.cell? ((Al.getD default).add (i * 7 + j)) = some u) :
    Calls Try.prog 4 #[.int .i64 room, .slice Al nl cl] w fun e w' => e = .returned (.bool true) ∧ Below w.heap.size w w' := by
  go_enter Try.func4, Try.ntmps4
  go_wp2_with fail
  have ctr := shown_calls w
  with_reducible refine Calls.mono ctr ?_
  clear ctr
  rintro e w1 ⟨rfl, X1⟩
  go_wp2_with fail
  have ctr := new_calls w1 room
  with_reducible refine Calls.mono ctr ?_
  clear ctr
  rintro e w2 ⟨j, rfl, J0, x2⟩
  have X2 := X1.transN x2
  have Bj := Blk.new w2 43 #[.int .i64 room, .slice none 0 0, .slice none 0 0]
  have Y := (Ext.refl Non w2).alloc (.cells #[.int .i64 room, .slice none 0 0, .slice none 0 0] 43)
  have J3 := J0.extN Y
  have X3 := X2.transN Y
  have H3 : RJo (w2.alloc (.cells #[.int .i64 room, .slice none 0 0, .slice none 0 0] 43)) (fun k => k = w2.heap.size) w2.heap.size ⟨room, [], []⟩ :=
    ⟨rfl, none, 0, none, 0, Bj, OwO.nil _ _, OwO.nil _ _, fun k h => (by cases h), fun k h => (by cases h)⟩
  have hs1 := X1.size
  have hs2 := x2.size
  have hs3 : (w2.alloc (.cells #[.int .i64 room, .slice none 0 0, .slice none 0 0] 43)).heap.size = w2.heap.size + 1 := World.size_alloc ..
  clear J0 Bj Y X1 x2 X2
  go_upto_region 4 with (fail)
  generalize w2.alloc (.cells #[.int .i64 room, .slice none 0 0, .slice none 0 0] 43) = w3 at *
  generalize w2.heap.size = jr at *
  go_wp2_with fail
  go_loopw [8] (fun z wr => ∃ (i : Nat) (J : Jn) (R : RJ) (D DR : Nat → Prop), i ≤ nl ∧ i ≤ 120 ∧ z = .int .i64 i ∧ Sim J R ∧ Jo wr D j J ∧ RJo wr DR jr R ∧ (∀ b, D b → w.heap.size ≤ b ∧ b < wr.heap.size ∧ ¬ DR b) ∧ (∀ b, DR b → w.heap.size ≤ b ∧ b < wr.heap.size) ∧ R.L.length ≤ i ∧ (∀ q ∈ R.L, q.b.length ≤ 300) ∧ Ext Non w wr ∧ w.heap.size ≤ wr.heap.size) (fun z _ => nl - (intOf z).toNat)
  case atStart => exact ⟨0, _, _, _, _, by omega, by omega, rfl, sim_new room, J3, H3, fun b hb => ⟨by omega, by omega, fun h => by have h : b = jr := h; omega⟩, fun b hb => by have hb : b = jr := hb; omega, by simp, fun q hq => (by cases hq), X3, by omega⟩
  case round =>
    clear J3 H3 X3
    obtain ⟨i, J, R, D, DR, hi, hi120, rfl, S, J0, H0, hD, hDR, hRl, hRb, X, hbw⟩ := hrel
    obtain ⟨bb, hbb⟩ : ∃ bb : Bool, (bb = true ∧ (i : Int) < (nl : Int) ∧ (i : Int) < 120) ∨ (bb = false ∧ ¬ (i : Int) < (nl : Int)) ∨ (bb = false ∧ (i : Int) < (nl : Int) ∧ ¬ (i : Int) < 120) := by
      by_cases h1 : i < nl
      · by_cases h2 : i < 120
        · exact ⟨true, .inl ⟨rfl, by omega, by omega⟩⟩
        · exact ⟨false, .inr (.inr ⟨rfl, by omega, by omega⟩)⟩
      · exact ⟨false, .inr (.inl ⟨rfl, by omega⟩)⟩
    go_upto_region 7 with (fail)
    go_cut [33] (fun s wc => s = .bool bb ∧ wr = wc)
    case first =>
      rcases hbb with ⟨rfl, h1, h2⟩ | ⟨rfl, h1⟩ | ⟨rfl, h1, h2⟩
      all_goals
        go_wp2_with fail
        go_meet
        case rel => exact ⟨rfl, rfl⟩
    case rest =>
      obtain ⟨rfl, rfl⟩ := hcut
      cases bb
      · clear hbb
        go_wp2_with fail
        go_ret
        exact ⟨rfl, X.belowN⟩
      · have i1 : (i : Int) < (nl : Int) := by
          rcases hbb with ⟨_, h1, h2⟩ | ⟨h, _⟩ | ⟨h, _⟩
          · exact h1
          · cases h
          · cases h
        have i2 : (i : Int) < 120 := by
          rcases hbb with ⟨_, h1, h2⟩ | ⟨h, _⟩ | ⟨h, _⟩
          · exact h2
          · cases h
          · cases h
        clear hbb
        obtain ⟨hAl, p, A0, c0, hp, hc0, hm0, r0, hcell⟩ := hl.2 i (by omega)
        obtain ⟨ki, id, fr, bx, pl, co, b⟩ := p
        obtain ⟨hp1, hp2, hp3⟩ := hp
        simp only at hc0 r0 hp1 hp2 hp3
        obtain ⟨n0, hn0⟩ : ∃ n, b.length = n := ⟨_, rfl⟩
        have ldp := load_any_pc (w := wr) (l := (pcA ⟨ki, id, fr, bx, pl, co, b⟩ A0 c0).toList) rfl ((Al.getD default).add (i * 7)) (fun j u hu => by rw [add_of_add]; exact X.cell (hcell j u hu) (fun h => h))
        unfold pcA at ldp
        simp only [hn0] at ldp hc0
        clear hcell
        obtain ⟨d, hd⟩ : ∃ d, b.take 300 = d := ⟨_, rfl⟩
        obtain ⟨k0, hk0⟩ : ∃ n, d.length = n := ⟨_, rfl⟩
        have hk0a : k0 ≤ 300 := by rw [← hk0, ← hd, List.length_take]; omega
        go_wp2_with fail
        clear ldp
        have ctr := few_x wr ki id fr bx pl co b rfl rfl rfl A0 c0 n0 hn0 (r0.extN X) hc0 hm0 d hd k0 hk0
        with_reducible refine Calls.mono ctr ?_
        clear ctr
        rintro e w4 ⟨A4, c4, rfl, O4, x4⟩
        have Bp := Blk.new w4 45 #[.int .i64 ki, .int .u32 id, .int .u16 fr, .int .u16 bx, .int .i64 pl, .int .i64 co, .slice A4 k0 c4]
        have Y5 := x4.alloc (.cells #[.int .i64 ki, .int .u32 id, .int .u16 fr, .int .u16 bx, .int .i64 pl, .int .i64 co, .slice A4 k0 c4] 45)
        have O5 := O4.alloc (.cells #[.int .i64 ki, .int .u32 id, .int .u16 fr, .int .u16 bx, .int .i64 pl, .int .i64 co, .slice A4 k0 c4] 45)
        have J5 := J0.extN Y5
        have H5 := H0.extN Y5
        have X5 := X.transN Y5
        have hc4 := O4.len
        rw [hk0] at hc4
        have hA4 : ∀ b, ob A4 = some b → wr.heap.size ≤ b ∧ b < w4.heap.size := fun b hb => O4.lt hb
        have hs4 := x4.size
        have hs5 : (w4.alloc (.cells #[.int .i64 ki, .int .u32 id, .int .u16 fr, .int .u16 bx, .int .i64 pl, .int .i64 co, .slice A4 k0 c4] 45)).heap.size = w4.heap.size + 1 := World.size_alloc ..
        clear O4 x4 Y5 J0 H0 X r0
        go_upto_region 10 with (fail)
        generalize w4.alloc (.cells #[.int .i64 ki, .int .u32 id, .int .u16 fr, .int .u16 bx, .int .i64 pl, .int .i64 co, .slice A4 k0 c4] 45) = w5 at *
        generalize w4.heap.size = gp at *
        have lpz := Bp.big_load (P := Try.prog) Try.underlying45 rfl (by kernel_rfl)
        go_wp2_with fail
        clear lpz
        have ctr := of_x w5 ki id fr bx pl co d rfl rfl rfl A4 c4 k0 hk0 O5.rd
        with_reducible refine Calls.mono ctr ?_
        clear ctr
        rintro e w6 ⟨rfl, x6⟩
        go_wp2_with fail
        obtain ⟨J', er, om, hj⟩ : ∃ J' er om, jtake J ⟨ki, id, fr, bx, pl, co, d⟩ = (J', er, om) := ⟨_, _, _, rfl⟩
        obtain ⟨R', hR'⟩ : ∃ R', (rtake R ⟨ki, id, fr, bx, pl, co, d⟩).1 = R' := ⟨_, rfl⟩
        obtain ⟨s1, S'⟩ := sim_take S ⟨ki, id, fr, bx, pl, co, d⟩
        rw [hj] at s1 S'
        have hrt : rtake R ⟨ki, id, fr, bx, pl, co, d⟩ = (R', er, om) := by rw [← hR']; exact Prod.ext rfl s1.symm
        rw [hR'] at S'
        have ctr := rtake_calls (H5.extN x6) ⟨ki, id, fr, bx, pl, co, d⟩ ⟨hp1, hp2, hp3⟩ (by show d.length ≤ 300; omega) (by omega) S.few (fun k hk => by have := hDR k hk; have := x6.size; omega) hRb
        have hRL' : R'.L.length ≤ i + 1 ∧ ∀ q ∈ R'.L, q.b.length ≤ 300 := by
          have h := rtake_L R ⟨ki, id, fr, bx, pl, co, d⟩
          rw [hR'] at h
          refine ⟨by omega, fun q hq => ?_⟩
          rcases h.2 q hq with h | rfl
          · exact hRb q h
          · show d.length ≤ 300
            omega
        rw [hrt] at ctr
        with_reducible refine Calls.mono ctr ?_
        clear ctr
        rintro e w7 ⟨DR', rfl, H7, hDR', x7⟩
        clear s1 hR' hrt
        have J7 := (J5.extN x6).ext x7 (fun b hb h => (hD b hb).2.2 h)
        have X7 := (X5.transN x6).trans x7 (fun b hb h => by have := (hDR b h).1; omega)
        have Bp7 := (Bp.extN_ x6).ext x7 (fun h => by have := (hDR _ h).2; omega)
        have O7 := (O5.extN x6).ext x7 (fun b hb h => by have := (hDR _ h).2; have := hA4 b hb; omega)
        have hs6 := x6.size
        have hs7 := x7.size
        clear J5 H5 X5 Bp O5 x6 x7
        rcases om with _ | m
        · simp only [rmsg, Option.isSome]
          have st := store_rm_new w7 (cs := #[.int .u32 0, .int .u16 0, .int .u16 0, .string ⟨#[]⟩]) rfl (by simp [Value.oneCell'])
          have Y8 := (Ext.refl Non w7).alloc (.cells #[.int .u32 0, .int .u16 0, .int .u16 0, .string ⟨#[]⟩] 48)
          have Bm := Blk.new w7 48 #[.int .u32 0, .int .u16 0, .int .u16 0, .string ⟨#[]⟩]
          have J8 := J7.extN Y8
          have H8 := H7.extN Y8
          have X8 := X7.transN Y8
          have Bp8 := Bp7.extN_ Y8
          have O8 := O7.extN Y8
          have hs8 : (w7.alloc (.cells #[.int .u32 0, .int .u16 0, .int .u16 0, .string ⟨#[]⟩] 48)).heap.size = w7.heap.size + 1 := World.size_alloc ..
          clear J7 H7 X7 Bp7 O7 Y8
          go_upto_region 11 with (fail)
          clear st
          generalize w7.alloc (.cells #[.int .u32 0, .int .u16 0, .int .u16 0, .string ⟨#[]⟩] 48) = w8 at *
          generalize w7.heap.size = gm at *
          have lpz := Bp8.big_load (P := Try.prog) Try.underlying45 rfl (by kernel_rfl)
          go_wp2_with fail
          clear lpz
          have ctr := take_none J8 ki id fr bx pl co d er hj rfl rfl rfl rfl A4 c4 k0 hk0 O8.rd hc4.1 (by simp only [maxLen]; omega)
          with_reducible refine Calls.mono ctr ?_
          clear ctr
          rintro e w9 ⟨D', rfl, J9, hD', x9⟩
          have Y10 := (Ext.refl Non w9).alloc (.cells #[.int .u32 0, .int .u16 0, .int .u16 0, .slice none 0 0] 55)
          have Bn := Blk.new w9 55 #[.int .u32 0, .int .u16 0, .int .u16 0, .slice none 0 0]
          have hs9 := x9.size
          have J10 := J9.extN Y10
          have H10 := (H8.ext x9 (fun b hb h => by
            rcases (hDR' b hb).1 with h' | h'
            · exact (hD b h).2.2 h'
            · have := (hD b h).2.1; omega)).extN Y10
          have X10 := (X8.trans x9 (fun b hb h => by have := (hD b h).1; omega)).transN Y10
          have Bp10 := (Bp8.ext x9 (fun h => by have := (hD _ h).2.1; omega)).extN_ Y10
          have O10 := (O8.ext x9 (fun b hb h => by have := (hD _ h).2.1; have := hA4 b hb; omega)).extN Y10
          have Bm10 := (Bm.ext x9 (fun h => by have := (hD _ h).2.1; omega)).extN_ Y10
          have hs10 : (w9.alloc (.cells #[.int .u32 0, .int .u16 0, .int .u16 0, .slice none 0 0] 55)).heap.size = w9.heap.size + 1 := World.size_alloc ..
          clear x9 Y10 J8 H8 X8 Bp8 O8 Bm J9 hj
          go_upto_region 12 with (fail)
          generalize w9.alloc (.cells #[.int .u32 0, .int .u16 0, .int .u16 0, .slice none 0 0] 55) = w10 at *
          generalize w9.heap.size = gn at *
          have hsep : ∀ b, ob A4 = some b → ¬ D' b ∧ ¬ DR' b ∧ b ≠ gp ∧ b ≠ gm ∧ b ≠ gn := fun b hb => by
            have h1 := hA4 b hb
            refine ⟨fun h => ?_, fun h => ?_, by omega, by omega, by omega⟩
            · rcases (hD' b h).1 with h' | h'
              · have := (hD b h').2.1; omega
              · omega
            · rcases (hDR' b h).1 with h' | h'
              · have := (hDR b h').2; omega
              · omega
          have hDD : (∀ b, D' b → w.heap.size ≤ b ∧ b < gn + 1 ∧ ¬ DR' b) ∧ ∀ b, DR' b → w.heap.size ≤ b ∧ b < gn + 1 := by
            refine ⟨fun b hb => ?_, fun b hb => ?_⟩
            · have h2 := (hD' b hb).2
              rcases (hD' b hb).1 with h | h
              · have h3 := hD b h
                refine ⟨h3.1, by omega, fun hr => ?_⟩
                rcases (hDR' b hr).1 with h' | h'
                · exact h3.2.2 h'
                · omega
              · exact ⟨by omega, by omega, fun hr => by have := (hDR' b hr).2; omega⟩
            · have h2 := (hDR' b hb).2
              rcases (hDR' b hb).1 with h | h
              · have h3 := hDR b h
                exact ⟨h3.1, by omega⟩
              · exact ⟨by omega, by omega⟩
          have hX4 : ∀ b, ob A4 = some b → w.heap.size ≤ b := fun b hb => by have := hA4 b hb; omega
          have hn1 : w.heap.size ≤ gn + 1 := by omega
          clear hD hDR hD' hDR' hA4 hs4 hs6 hs7 hs9
          obtain ⟨b0, hb0⟩ : ∃ b, wr.heap.size = b := ⟨_, rfl⟩
          rw [hb0] at O10
          have hk0m : k0 ≤ maxLen := by omega
          go_wp2_with fail
          go_loopw [16] (fun z wq => ∃ (k : Nat) (l : List UInt8), k ≤ k0 ∧ z = .int .i64 k ∧ l.length = k0 ∧ OwB wq b0 A4 c4 l ∧ Ext (fun b => ob A4 = some b) w10 wq) (fun z _ => k0 - (intOf z).toNat)
          case atStart => exact ⟨0, d, by omega, rfl, hk0, O10, Ext.refl _ _⟩
          case round =>
            clear O10
            obtain ⟨k, l, hk, rfl, hlk, O10, Y⟩ := hrel
            have Bq := Bp10.ext Y (fun h => (hsep _ h).2.2.1 rfl)
            have d6 : wr.cell? ⟨gp, 6, none⟩ = some (.slice A4 k0 c4) := Bq.cell 6
            by_cases hlt : k < k0
            · have i3 : (k : Int) < (k0 : Int) := by omega
              obtain ⟨hA, ⟨u, hc⟩, hf, o', x'⟩ := O10.set_ (j := k) (by omega) 63 63 rfl
              have Y' := Y.trans' x'
              have hl' : (l.set k 63).length = k0 := by rw [List.length_set]; exact hlk
              have HO := Lib.hid o'
              have HY := Lib.hid Y'
              have HL := Lib.hid hl'
              clear o' x' Y' hl' Y O10 hlk
              go_wp2_with fail
              exact ⟨⟨k + 1, l.set k 63, by omega, by go_num, HL.out, HO.out, HY.out⟩, by simp [intOf]; omega⟩
            · obtain rfl : k0 = k := by omega
              have i3 : ¬ (k0 : Int) < (k0 : Int) := by omega
              have J11 := J10.ext Y (fun b hb h => (hsep b h).1 hb)
              have H11 := H10.ext Y (fun b hb h => (hsep b h).2.1 hb)
              have X11 := X10.trans Y (fun b hb h => by have := hX4 b h; omega)
              have Bm11 := Bm10.ext Y (fun h => (hsep _ h).2.2.2.1 rfl)
              have Bn11 := (Bn.ext Y (fun h => (hsep _ h).2.2.2.2 rfl))
              have hsY := Y.size
              clear J10 H10 X10 Bm10 Bn Y O10 Bp10 Bq hlk
              have e0 : wr.cell? ⟨gn, 0, none⟩ = some (.int .u32 0) := Bn11.cell 0
              have e1 : wr.cell? ⟨gn, 1, none⟩ = some (.int .u16 0) := Bn11.cell 1
              have e2 : wr.cell? ⟨gn, 2, none⟩ = some (.int .u16 0) := Bn11.cell 2
              have e3 : wr.cell? ⟨gn, 3, none⟩ = some (.slice none 0 0) := Bn11.cell 3
              have m0 : wr.cell? ⟨gm, 0, none⟩ = some (.int .u32 0) := Bm11.cell 0
              have m1 : wr.cell? ⟨gm, 1, none⟩ = some (.int .u16 0) := Bm11.cell 1
              have m2 : wr.cell? ⟨gm, 2, none⟩ = some (.int .u16 0) := Bm11.cell 2
              have m3 : wr.cell? ⟨gm, 3, none⟩ = some (.string (str [])) := Bm11.cell 3
              have cv : (convert 24 9 (.slice none 0 0)).run Try.prog wr = .ok (.string (str [])) wr := conv_str (D := Non) (l := []) (.inl rfl) 0 0 rfl
              have eer : ((er : Int) == (er : Int)) = true := beq_self_eq_true _
              go_wp2_with fail
              have ctr := len_calls J11
              with_reducible refine Calls.mono ctr ?_
              clear ctr
              rintro e wz ⟨rfl, rfl⟩
              go_wp2_with fail
              have ctr := rlen_calls H11 _ rfl (by omega) J'.opn.length (by rw [S'.opn])
              with_reducible refine Calls.mono ctr ?_
              clear ctr
              rintro e w12 ⟨rfl, x12⟩
              have J12 := J11.extN x12
              have H12 := H11.extN x12
              have X12 := X11.transN x12
              have e3' := x12.cell e3 (fun h => h)
              have hs12 := x12.size
              have ell : ((J'.opn.length : Int) == (J'.opn.length : Int)) = true := beq_self_eq_true _
              clear J11 H11 X11 x12 e0 e1 e2 e3 m0 m1 m2 m3 cv Bm11 Bn11
              go_wp2_with fail
              go_loopw [17] (fun z wq => z = .int .i64 0 ∧ w12 = wq) (fun _ _ => 0)
              case atStart => exact ⟨rfl, rfl⟩
              case round =>
                obtain ⟨rfl, rfl⟩ := hrel
                go_wp2_with fail
                exact ⟨⟨i + 1, J', R', D', DR', by omega, by omega, by go_num, S', J12, H12, fun b hb => ⟨(hDD.1 b hb).1, by have := (hDD.1 b hb).2.1; omega, (hDD.1 b hb).2.2⟩, fun b hb => ⟨(hDD.2 b hb).1, by have := (hDD.2 b hb).2; omega⟩, hRL'.1, hRL'.2, X12, by omega⟩, by simp [intOf]; omega⟩
        · obtain rfl := jtake_zero hj
          simp only [rmsg, Option.isSome]
          obtain ⟨nm, hnm⟩ : ∃ n, m.length = n := ⟨_, rfl⟩
          have hmm : (m == m) = true := beq_self_eq_true m
          have st := store_rm_new w7 (cs := #[.int .u32 id, .int .u16 fr, .int .u16 bx, .string (str m)]) rfl (by simp [Value.oneCell'])
          have Y8 := (Ext.refl Non w7).alloc (.cells #[.int .u32 id, .int .u16 fr, .int .u16 bx, .string (str m)] 48)
          have Bm := Blk.new w7 48 #[.int .u32 id, .int .u16 fr, .int .u16 bx, .string (str m)]
          have J8 := J7.extN Y8
          have H8 := H7.extN Y8
          have X8 := X7.transN Y8
          have Bp8 := Bp7.extN_ Y8
          have O8 := O7.extN Y8
          have hs8 : (w7.alloc (.cells #[.int .u32 id, .int .u16 fr, .int .u16 bx, .string (str m)] 48)).heap.size = w7.heap.size + 1 := World.size_alloc ..
          clear J7 H7 X7 Bp7 O7 Y8
          go_upto_region 11 with (fail)
          clear st
          generalize w7.alloc (.cells #[.int .u32 id, .int .u16 fr, .int .u16 bx, .string (str m)] 48) = w8 at *
          generalize w7.heap.size = gm at *
          have lpz := Bp8.big_load (P := Try.prog) Try.underlying45 rfl (by kernel_rfl)
          go_wp2_with fail
          clear lpz
          have ctr := take_some J8 ki id fr bx pl co d m hj rfl rfl rfl A4 c4 k0 hk0 O8.rd hc4.1 (by simp only [maxLen]; omega) nm hnm
          with_reducible refine Calls.mono ctr ?_
          clear ctr
          rintro e w9 ⟨D', Am, cm, rfl, J9, hD', x9, Om, hOm⟩
          have Y10 := (Ext.refl Non w9).alloc (.cells #[.int .u32 id, .int .u16 fr, .int .u16 bx, .slice Am nm cm] 55)
          have Bn := Blk.new w9 55 #[.int .u32 id, .int .u16 fr, .int .u16 bx, .slice Am nm cm]
          have hs9 := x9.size
          have J10 := J9.extN Y10
          have H10 := (H8.ext x9 (fun b hb h => by
            rcases (hDR' b hb).1 with h' | h'
            · exact (hD b h).2.2 h'
            · have := (hD b h).2.1; omega)).extN Y10
          have X10 := (X8.trans x9 (fun b hb h => by have := (hD b h).1; omega)).transN Y10
          have Bp10 := (Bp8.ext x9 (fun h => by have := (hD _ h).2.1; omega)).extN_ Y10
          have O10 := (O8.ext x9 (fun b hb h => by have := (hD _ h).2.1; have := hA4 b hb; omega)).extN Y10
          have Bm10 := (Bm.ext x9 (fun h => by have := (hD _ h).2.1; omega)).extN_ Y10
          have hs10 : (w9.alloc (.cells #[.int .u32 id, .int .u16 fr, .int .u16 bx, .slice Am nm cm] 55)).heap.size = w9.heap.size + 1 := World.size_alloc ..
          have Om10 := Om.extN Y10
          have hAm : ∀ b, ob Am = some b → w8.heap.size ≤ b ∧ b < w9.heap.size := fun b hb => Om.lt hb
          have hmc := Om.len
          rw [hnm] at hmc
          clear Om
          clear x9 Y10 J8 H8 X8 Bp8 O8 Bm J9 hj
          go_upto_region 12 with (fail)
          generalize w9.alloc (.cells #[.int .u32 id, .int .u16 fr, .int .u16 bx, .slice Am nm cm] 55) = w10 at *
          generalize w9.heap.size = gn at *
          have hsep : ∀ b, ob A4 = some b → ¬ D' b ∧ ¬ DR' b ∧ b ≠ gp ∧ b ≠ gm ∧ b ≠ gn := fun b hb => by
            have h1 := hA4 b hb
            refine ⟨fun h => ?_, fun h => ?_, by omega, by omega, by omega⟩
            · rcases (hD' b h).1 with h' | h'
              · have := (hD b h').2.1; omega
              · omega
            · rcases (hDR' b h).1 with h' | h'
              · have := (hDR b h').2; omega
              · omega
          have hsep2 : ∀ b, ob Am = some b → ¬ D' b ∧ ¬ DR' b ∧ b ≠ gm ∧ b ≠ gn ∧ ob A4 ≠ some b ∧ w.heap.size ≤ b := fun b hb => by
            have h1 := hAm b hb
            refine ⟨hOm b hb, fun h => by have := (hDR' b h).2; omega, by omega, by omega, fun h => by have := hA4 b h; omega, by omega⟩
          have hDD : (∀ b, D' b → w.heap.size ≤ b ∧ b < gn + 1 ∧ ¬ DR' b) ∧ ∀ b, DR' b → w.heap.size ≤ b ∧ b < gn + 1 := by
            refine ⟨fun b hb => ?_, fun b hb => ?_⟩
            · have h2 := (hD' b hb).2
              rcases (hD' b hb).1 with h | h
              · have h3 := hD b h
                refine ⟨h3.1, by omega, fun hr => ?_⟩
                rcases (hDR' b hr).1 with h' | h'
                · exact h3.2.2 h'
                · omega
              · exact ⟨by omega, by omega, fun hr => by have := (hDR' b hr).2; omega⟩
            · have h2 := (hDR' b hb).2
              rcases (hDR' b hb).1 with h | h
              · have h3 := hDR b h
                exact ⟨h3.1, by omega⟩
              · exact ⟨by omega, by omega⟩
          have hX4 : ∀ b, ob A4 = some b → w.heap.size ≤ b := fun b hb => by have := hA4 b hb; omega
          have hn1 : w.heap.size ≤ gn + 1 := by omega
          clear hD hDR hD' hDR' hA4 hs4 hs6 hs7 hs9 hOm hAm
          obtain ⟨b0, hb0⟩ : ∃ b, wr.heap.size = b := ⟨_, rfl⟩
          rw [hb0] at O10
          have hnmm : nm ≤ 9223372036854775807 := by
            have h1 := hmc.1
            have h2 := hmc.2
            simp only [maxLen] at h2
            omega
          have hk0m : k0 ≤ maxLen := by omega
          go_wp2_with fail
          go_loopw [16] (fun z wq => ∃ (k : Nat) (l : List UInt8), k ≤ k0 ∧ z = .int .i64 k ∧ l.length = k0 ∧ OwB wq b0 A4 c4 l ∧ Ext (fun b => ob A4 = some b) w10 wq) (fun z _ => k0 - (intOf z).toNat)
          case atStart => exact ⟨0, d, by omega, rfl, hk0, O10, Ext.refl _ _⟩
          case round =>
            clear O10
            obtain ⟨k, l, hk, rfl, hlk, O10, Y⟩ := hrel
            have Bq := Bp10.ext Y (fun h => (hsep _ h).2.2.1 rfl)
            have d6 : wr.cell? ⟨gp, 6, none⟩ = some (.slice A4 k0 c4) := Bq.cell 6
            by_cases hlt : k < k0
            · have i3 : (k : Int) < (k0 : Int) := by omega
              obtain ⟨hA, ⟨u, hc⟩, hf, o', x'⟩ := O10.set_ (j := k) (by omega) 63 63 rfl
              have Y' := Y.trans' x'
              have hl' : (l.set k 63).length = k0 := by rw [List.length_set]; exact hlk
              have HO := Lib.hid o'
              have HY := Lib.hid Y'
              have HL := Lib.hid hl'
              clear o' x' Y' hl' Y O10 hlk
              go_wp2_with fail
              exact ⟨⟨k + 1, l.set k 63, by omega, by go_num, HL.out, HO.out, HY.out⟩, by simp [intOf]; omega⟩
            · obtain rfl : k0 = k := by omega
              have i3 : ¬ (k0 : Int) < (k0 : Int) := by omega
              have J11 := J10.ext Y (fun b hb h => (hsep b h).1 hb)
              have H11 := H10.ext Y (fun b hb h => (hsep b h).2.1 hb)
              have X11 := X10.trans Y (fun b hb h => by have := hX4 b h; omega)
              have Bm11 := Bm10.ext Y (fun h => (hsep _ h).2.2.2.1 rfl)
              have Bn11 := (Bn.ext Y (fun h => (hsep _ h).2.2.2.2 rfl))
              have Om11 := Om10.ext Y (fun b hb h => (hsep2 b hb).2.2.2.2.1 h)
              have hsY := Y.size
              clear Om10 J10 H10 X10 Bm10 Bn Y O10 Bp10 Bq hlk
              have e0 : wr.cell? ⟨gn, 0, none⟩ = some (.int .u32 id) := Bn11.cell 0
              have e1 : wr.cell? ⟨gn, 1, none⟩ = some (.int .u16 fr) := Bn11.cell 1
              have e2 : wr.cell? ⟨gn, 2, none⟩ = some (.int .u16 bx) := Bn11.cell 2
              have e3 : wr.cell? ⟨gn, 3, none⟩ = some (.slice Am nm cm) := Bn11.cell 3
              have m0 : wr.cell? ⟨gm, 0, none⟩ = some (.int .u32 id) := Bm11.cell 0
              have m1 : wr.cell? ⟨gm, 1, none⟩ = some (.int .u16 fr) := Bm11.cell 1
              have m2 : wr.cell? ⟨gm, 2, none⟩ = some (.int .u16 bx) := Bm11.cell 2
              have m3 : wr.cell? ⟨gm, 3, none⟩ = some (.string (str m)) := Bm11.cell 3
              have cv := conv_str Om11.rd nm cm hnm
              go_wp2_with fail
              have ctr := len_calls J11
              with_reducible refine Calls.mono ctr ?_
              clear ctr
              rintro e wz ⟨rfl, rfl⟩
              go_wp2_with fail
              have ctr := rlen_calls H11 _ rfl (by omega) J'.opn.length (by rw [S'.opn])
              with_reducible refine Calls.mono ctr ?_
              clear ctr
              rintro e w12 ⟨rfl, x12⟩
              have J12 := J11.extN x12
              have H12 := H11.extN x12
              have X12 := X11.transN x12
              have Bn12 := Bn11.extN_ x12
              have Om12 := Om11.extN x12
              have hs12 := x12.size
              have ell : ((J'.opn.length : Int) == (J'.opn.length : Int)) = true := beq_self_eq_true _
              clear J11 H11 X11 x12 e0 e1 e2 e3 m0 m1 m2 m3 cv Bm11 Bn11 Om11
              go_wp2_with fail
              clear ell hmm
              go_loopw [17] (fun z wq => ∃ (k : Nat) (l : List UInt8), k ≤ nm ∧ z = .int .i64 k ∧ l.length = nm ∧ OwB wq w8.heap.size Am cm l ∧ Ext (fun b => ob Am = some b) w12 wq) (fun z _ => nm - (intOf z).toNat)
              case atStart => exact ⟨0, m, by omega, rfl, hnm, Om12, Ext.refl _ _⟩
              case round =>
                clear Om12
                obtain ⟨k, l, hk, rfl, hlk, Om12, Y⟩ := hrel
                have Bq := Bn12.ext Y (fun h => (hsep2 _ h).2.2.2.1 rfl)
                have e3 : wr.cell? ⟨gn, 3, none⟩ = some (.slice Am nm cm) := Bq.cell 3
                by_cases hlt : k < nm
                · have i4 : (k : Int) < (nm : Int) := by omega
                  obtain ⟨hA, ⟨u, hc⟩, hf, o', x'⟩ := Om12.set_ (j := k) (by omega) 33 33 rfl
                  have Y' := Y.trans' x'
                  have hl' : (l.set k 33).length = nm := by rw [List.length_set]; exact hlk
                  have HO := Lib.hid o'
                  have HY := Lib.hid Y'
                  have HL := Lib.hid hl'
                  clear o' x' Y' hl' Y Om12 hlk
                  go_wp2_with fail
                  exact ⟨⟨k + 1, l.set k 33, by omega, by go_num, HL.out, HO.out, HY.out⟩, by simp [intOf]; omega⟩
                · obtain rfl : nm = k := by omega
                  have i4 : ¬ (nm : Int) < (nm : Int) := by omega
                  have J13 := J12.ext Y (fun b hb h => (hsep2 b h).1 hb)
                  have H13 := H12.ext Y (fun b hb h => (hsep2 b h).2.1 hb)
                  have X13 := X12.trans Y (fun b hb h => by have := (hsep2 b h).2.2.2.2.2; omega)
                  have hs13 := Y.size
                  clear J12 H12 X12 Y Om12 Bn12 Bq hlk
                  go_wp2_with fail
                  exact ⟨⟨i + 1, J', R', D', DR', by omega, by omega, by go_num, S', J13, H13, fun b hb => ⟨(hDD.1 b hb).1, by have := (hDD.1 b hb).2.1; omega, (hDD.1 b hb).2.2⟩, fun b hb => ⟨(hDD.2 b hb).1, by have := (hDD.2 b hb).2; omega⟩, hRL'.1, hRL'.2, X13, by omega⟩, by simp [intOf]; omega⟩
end Go.Proofs.Ytcdpmedmhindaaa
