/- The law DirectApart: its walk. -/
import Derived.Test.YtnmpfbffacljfaaDoorDirW
import Derived.Test.YtnmpfbffacljfaaDoorSeqS
import Derived.Deep.DeepCutAuto
namespace Go.Proofs.YtnmpfbffacljfaaDoor
open Go.RowKit

/-- Those of one node. -/
def mine (a : Nat) (S : List Rc) : List Rc := S.filter fun r => decide (r.ad = a)
theorem mine_sound {S : List Rc} (h : Sound S) (a : Nat) : Sound (mine a S) := h.filter _
theorem mine_dfnd (a e : Nat) (S : List Rc) : dfnd (mine a S) a e = dfnd S a e := by
  unfold dfnd mine
  rw [List.filter_filter]
  congr 1
  refine List.filter_congr fun r _ => ?_
  cases decide (r.ad = a) <;> simp
theorem mine_dire {S : List Rc} (h : S.length < 64) {r : Rc} : dire (mine r.ad S) r = dire S r := by
  have hl : (mine r.ad S).length ≤ S.length := List.length_filter_le _ _
  have ha : (mine r.ad S).any (clash · r) = S.any (clash · r) := by
    rw [Bool.eq_iff_iff, List.any_eq_true, List.any_eq_true]
    constructor
    · rintro ⟨x, hx, hc⟩
      exact ⟨x, (List.mem_filter.1 hx).1, hc⟩
    · rintro ⟨x, hx, hc⟩
      refine ⟨x, List.mem_filter.2 ⟨hx, ?_⟩, hc⟩
      simp only [clash, Bool.and_eq_true] at hc
      exact hc.1
  unfold dire
  rw [ha, if_neg (show ¬ 64 ≤ S.length by omega), if_neg (show ¬ 64 ≤ (mine r.ad S).length by omega)]
theorem mine_dirl {S : List Rc} (hS : Sound S) (h : S.length < 64) {r : Rc} (hok : r.ok) : dirl (mine r.ad S) r = mine r.ad (dirl S r) := by
  refine Sound.eq ((mine_sound hS _).dirl hok) (mine_sound (hS.dirl hok) _) ?_
  unfold dirl
  rw [mine_dire h]
  split
  · refine (ins_perm r _).trans ?_
    have h1 := (ins_perm r S).filter (fun x => decide (x.ad = r.ad))
    rw [List.filter_cons, if_pos (by simp)] at h1
    exact h1.symm
  · exact List.Perm.refl _
theorem mine_other {S : List Rc} (hS : Sound S) {r : Rc} (hok : r.ok) {a : Nat} (ha : r.ad ≠ a) : mine a (dirl S r) = mine a S := by
  refine Sound.eq (mine_sound (hS.dirl hok) _) (mine_sound hS _) ?_
  unfold dirl
  split
  · have h1 := (ins_perm r S).filter (fun x => decide (x.ad = a))
    rw [List.filter_cons, if_neg (by simpa using ha)] at h1
    exact h1
  · exact List.Perm.refl _
theorem dirl_len (S : List Rc) (r : Rc) : (dirl S r).length ≤ S.length + 1 := by
  unfold dirl
  split
  · rw [ins_len]; exact Nat.le_refl _
  · exact Nat.le_succ _
set_option maxRecDepth 100000 in
set_option maxHeartbeats 4000000 in
theorem apart_walk (A : Option Addr) (n c : Nat) (l : List Rc) (ad : Nat) (had : ad < 65536) (A2 : Option Addr) (n2 c2 : Nat) (es : List Nat) (w : World) (IR : InR w A n l) (IE : InE w A2 n2 es) (G : Glob w) (hw2 : 2 ≤ w.heap.size) :
    Calls Tryd.prog 8 #[.slice A n c, .int .u16 ad, .slice A2 n2 c2] w fun e' w' => e' = .returned (.bool true) ∧ Below w.heap.size w w' := by
  go_enter Tryd.func8, Tryd.ntmps8
  go_wp2_with fail
  have ctr := shown_calls G hw2
  with_reducible refine Calls.mono ctr ?_
  clear ctr
  rintro e w1 ⟨rfl, X1⟩
  go_wp2_with fail
  have ctr := new_calls w1
  with_reducible refine Calls.mono ctr ?_
  clear ctr
  rintro e w2 ⟨d, rfl, H2, x2⟩
  have X2 := X1.transN x2
  have hs1 := X1.size
  obtain ⟨D, hD⟩ : ∃ D : Nat → Prop, D = fun k => w1.heap.size ≤ k ∧ k < w2.heap.size := ⟨_, rfl⟩
  rw [← hD] at H2
  have hDw : ∀ i, i < w.heap.size → D i → Non i := fun i hi h => by rw [hD] at h; omega
  go_wp2_with fail
  have ctr := new_calls w2
  with_reducible refine Calls.mono ctr ?_
  clear ctr
  rintro e w3 ⟨d2, rfl, Hb, x3⟩
  have X3 := X2.transN x3
  have Ha := H2.extN x3
  have hs2 := x2.size
  have hs3 := x3.size
  obtain ⟨D2, hD2⟩ : ∃ D2 : Nat → Prop, D2 = fun k => w2.heap.size ≤ k ∧ k < w3.heap.size := ⟨_, rfl⟩
  rw [← hD2] at Hb
  have hD2w : ∀ i, i < w.heap.size → D2 i → Non i := fun i hi h => by rw [hD2] at h; omega
  have hDD : ∀ g, D2 g → ¬ D g := fun g h1 h2 => by rw [hD2] at h1; rw [hD] at h2; omega
  clear X1 x2 x3 X2 H2
  go_wp2_with fail
  go_loopw [10] (fun z wr => ∃ (k : Nat) (S : List Rc), k ≤ n ∧ k ≤ 50 ∧ z = .int .i64 k ∧ Di wr D d S ∧ S.length ≤ k ∧ Di wr D2 d2 (mine ad S) ∧ Ext Non w wr) (fun z _ => n - (intOf z).toNat)
  case atStart => exact ⟨0, [], Nat.zero_le _, by omega, rfl, Ha, by simp, Hb, X3⟩
  case round =>
    clear Ha Hb X3
    obtain ⟨k, S, hk, hk50, rfl, Ha, hSk, Hb, X⟩ := hrel
    have hS := Ha.sound
    obtain ⟨bb, hbb⟩ : ∃ bb : Bool, (bb = true ∧ (k : Int) < (n : Int) ∧ (k : Int) < 50) ∨ (bb = false ∧ ¬ (k : Int) < (n : Int)) ∨ (bb = false ∧ (k : Int) < (n : Int) ∧ ¬ (k : Int) < 50) := by
      by_cases h1 : k < n
      · by_cases h2 : k < 50
        · exact ⟨true, .inl ⟨rfl, by omega, by omega⟩⟩
        · exact ⟨false, .inr (.inr ⟨rfl, by omega, by omega⟩)⟩
      · exact ⟨false, .inr (.inl ⟨rfl, by omega⟩)⟩
    go_upto_region 7 with (fail)
    go_cut [33] (fun s wc => s = .bool bb ∧ wr = wc)
    case first =>
      rcases hbb with ⟨rfl, h1, h2⟩ | ⟨rfl, h1⟩ | ⟨rfl, h1, h2⟩
      all_goals
        go_wp2_with fail
        go_meet
        case rel => exact ⟨rfl, rfl⟩
    case rest =>
      obtain ⟨rfl, rfl⟩ := hcut
      cases bb
      case true =>
        have hkn : k < l.length := by rw [IR.len]; rcases hbb with ⟨_, h1, _⟩ | ⟨h, _⟩ | ⟨h, _⟩; omega; cases h; cases h
        have hkn2 : (k : Int) < (n : Int) := by rw [IR.len] at hkn; omega
        have hk60 : (k : Int) < 50 := by rcases hbb with ⟨_, _, h1⟩ | ⟨h, _⟩ | ⟨h, _⟩; exact h1; cases h; cases h
        have hro := IR.ok _ (List.getElem_mem hkn)
        obtain ⟨⟨ra, rf, ru, rn⟩, hr⟩ : ∃ r, l[k] = r := ⟨_, rfl⟩
        obtain ⟨hA, hc⟩ := IR.cells k hkn ra rf ru rn hr
        obtain ⟨c0, c1, c2, c3⟩ := hc wr X
        rw [hr] at hro
        have hS64 : S.length < 64 := by omega
        have hTl := dirl_len S ⟨ra, rf, ru, rn⟩
        obtain ⟨z, hz⟩ : ∃ z, dire S ⟨ra, rf, ru, rn⟩ = z := ⟨_, rfl⟩
        obtain ⟨T, hT⟩ : ∃ T, dirl S ⟨ra, rf, ru, rn⟩ = T := ⟨_, rfl⟩
        clear hbb hr
        go_wp2_with fail
        have ctr := add_i Ha ra rf ru rn hro z hz T hT rfl rfl rfl rfl rfl
        with_reducible refine Calls.mono ctr ?_
        clear ctr
        rintro e w5 ⟨rfl, Ha5, x5⟩
        have X5 := X.trans x5 hDw
        obtain ⟨c0, c1, c2, c3⟩ := hc w5 X5
        have Hb5 := Hb.ext x5 hDD
        by_cases ha : ra = ad
        · subst ha
          have hz2 : dire (mine ra S) ⟨ra, rf, ru, rn⟩ = z := by rw [← hz]; exact mine_dire hS64
          have hT2 : dirl (mine ra S) ⟨ra, rf, ru, rn⟩ = mine ra T := by rw [← hT]; exact mine_dirl hS hS64 hro
          rw [hT] at hTl
          have HZ := Lib.hid hz
          have HT := Lib.hid hT
          have HZ2 := Lib.hid hz2
          have HT2 := Lib.hid hT2
          clear hz hT hz2 hT2 Ha Hb X
          go_wp2_with (go_at_call 15; refine (add_i Hb5 ra rf ru rn hro z HZ2.out (mine ra T) HT2.out rfl rfl rfl rfl rfl).mono ?_; rintro e w6 ⟨rfl, Hb6, x6⟩)
          exact ⟨⟨k + 1, T, by omega, by omega, by go_num, Ha5.ext x6 (fun g h1 h2 => hDD g h2 h1), by omega, Hb6, X5.trans x6 hD2w⟩, by simp [intOf]; omega⟩
        · have i1 : ¬ (ra : Int) = (ad : Int) := by omega
          have hT2 : mine ad S = mine ad T := by rw [← hT]; exact (mine_other hS hro ha).symm
          rw [hT] at hTl
          rw [hT2] at Hb5
          have HZ := Lib.hid hz
          have HT := Lib.hid hT
          clear hz hT hT2 Ha Hb X
          go_wp2_with fail
          exact ⟨⟨k + 1, T, by omega, by omega, by go_num, Ha5, by omega, Hb5, X5⟩, by simp [intOf]; omega⟩
      case false =>
        clear hbb
        have X8 := X
        go_wp2_with fail
        go_loopw [12] (fun z wq => ∃ k : Nat, k ≤ n2 ∧ z = .int .i64 k ∧ Ext Non wr wq) (fun z _ => n2 - (intOf z).toNat)
        case atStart => exact ⟨0, Nat.zero_le _, rfl, Ext.refl _ _⟩
        case round =>
          obtain ⟨k, hk, rfl, X⟩ := hrel
          obtain ⟨bb, hbb⟩ : ∃ bb : Bool, (bb = true ∧ (k : Int) < (n2 : Int) ∧ (k : Int) < 30) ∨ (bb = false ∧ ¬ (k : Int) < (n2 : Int)) ∨ (bb = false ∧ (k : Int) < (n2 : Int) ∧ ¬ (k : Int) < 30) := by
            by_cases h1 : k < n2
            · by_cases h2 : k < 30
              · exact ⟨true, .inl ⟨rfl, by omega, by omega⟩⟩
              · exact ⟨false, .inr (.inr ⟨rfl, by omega, by omega⟩)⟩
            · exact ⟨false, .inr (.inl ⟨rfl, by omega⟩)⟩
          go_upto_region 13 with (fail)
          go_cut [66] (fun s wc => s = .bool bb ∧ wr = wc)
          case first =>
            rcases hbb with ⟨rfl, h1, h2⟩ | ⟨rfl, h1⟩ | ⟨rfl, h1, h2⟩
            all_goals
              go_wp2_with fail
              go_meet
              case rel => exact ⟨rfl, rfl⟩
          case rest =>
            obtain ⟨rfl, rfl⟩ := hcut
            cases bb
            case true =>
              have hkn : k < es.length := by rw [IE.len]; rcases hbb with ⟨_, h1, _⟩ | ⟨h, _⟩ | ⟨h, _⟩; omega; cases h; cases h
              have hkn2 : (k : Int) < (n2 : Int) := by rw [IE.len] at hkn; omega
              have hk30 : (k : Int) < 30 := by rcases hbb with ⟨_, _, h1⟩ | ⟨h, _⟩ | ⟨h, _⟩; exact h1; cases h; cases h
              obtain ⟨hA2, hce⟩ := IE.at_ k hkn
              replace hce : ∀ W, Ext Non _ W → W.cell? ((A2.getD default).add k) = some (.int .u32 es[k]) := fun W x => hce W (X8.transN x)
              obtain ⟨e, he⟩ : ∃ e, es[k] = e := ⟨_, rfl⟩
              rw [he] at hce
              clear hbb he
              have ce := hce wr X
              have Ha9 := Ha.extN X
              have Hb9 := Hb.extN X
              have hm := mine_dfnd ad e S
              rcases hf : dfnd S ad e with _ | ⟨qa, qf, qu, qn⟩
              · rw [hf] at hm
                go_wp2_with fail
                have ctr := find_none Ha9 ad e hf rfl rfl
                with_reducible refine Calls.mono ctr ?_
                clear ctr
                rintro e wa ⟨rfl, xa⟩
                go_upto_region 16 with (fail)
                have B1 := Blk.new wa 37 #[.int .u16 0, .int .u32 0, .int .u32 0, .int .u32 0]
                have y1 := xa.alloc (.cells #[.int .u16 0, .int .u32 0, .int .u32 0, .int .u32 0] 37)
                have Hc := Hb9.extN y1
                generalize wa.heap.size = g1 at *
                generalize wa.alloc (.cells #[.int .u16 0, .int .u32 0, .int .u32 0, .int .u32 0] 37) = wb at *
                have ce2 := hce wb (X.transN y1)
                go_wp2_with fail
                have ctr := find_none Hc ad e hm rfl rfl
                with_reducible refine Calls.mono ctr ?_
                clear ctr
                rintro e wc ⟨rfl, xc⟩
                go_upto_region 17 with (fail)
                have B2 := Blk.new wc 37 #[.int .u16 0, .int .u32 0, .int .u32 0, .int .u32 0]
                have y2 := xc.alloc (.cells #[.int .u16 0, .int .u32 0, .int .u32 0, .int .u32 0] 37)
                replace B1 := B1.extN_ y2
                generalize wc.heap.size = g2 at *
                generalize wc.alloc (.cells #[.int .u16 0, .int .u32 0, .int .u32 0, .int .u32 0] 37) = wd at *
                obtain ⟨p0, p1, p2, p3⟩ := rc_cells (a := 0) (b := 0) (u := 0) (l := 0) B1
                obtain ⟨q0, q1, q2, q3⟩ := rc_cells (a := 0) (b := 0) (u := 0) (l := 0) B2
                go_wp2_with fail
                exact ⟨⟨k + 1, by omega, by go_num, (X.transN y1).transN y2⟩, by simp [intOf]; omega⟩
              · rw [hf] at hm
                go_wp2_with fail
                have ctr := find_some Ha9 ad e qa qf qu qn hf rfl rfl
                with_reducible refine Calls.mono ctr ?_
                clear ctr
                rintro e wa ⟨rfl, xa⟩
                go_upto_region 16 with (fail)
                have B1 := Blk.new wa 37 #[.int .u16 qa, .int .u32 qf, .int .u32 qu, .int .u32 qn]
                have y1 := xa.alloc (.cells #[.int .u16 qa, .int .u32 qf, .int .u32 qu, .int .u32 qn] 37)
                have Hc := Hb9.extN y1
                generalize wa.heap.size = g1 at *
                generalize wa.alloc (.cells #[.int .u16 qa, .int .u32 qf, .int .u32 qu, .int .u32 qn] 37) = wb at *
                have ce2 := hce wb (X.transN y1)
                go_wp2_with fail
                have ctr := find_some Hc ad e qa qf qu qn hm rfl rfl
                with_reducible refine Calls.mono ctr ?_
                clear ctr
                rintro e wc ⟨rfl, xc⟩
                go_upto_region 17 with (fail)
                have B2 := Blk.new wc 37 #[.int .u16 qa, .int .u32 qf, .int .u32 qu, .int .u32 qn]
                have y2 := xc.alloc (.cells #[.int .u16 qa, .int .u32 qf, .int .u32 qu, .int .u32 qn] 37)
                replace B1 := B1.extN_ y2
                generalize wc.heap.size = g2 at *
                generalize wc.alloc (.cells #[.int .u16 qa, .int .u32 qf, .int .u32 qu, .int .u32 qn] 37) = wd at *
                obtain ⟨p0, p1, p2, p3⟩ := rc_cells B1
                obtain ⟨q0, q1, q2, q3⟩ := rc_cells B2
                go_wp2_with fail
                exact ⟨⟨k + 1, by omega, by go_num, (X.transN y1).transN y2⟩, by simp [intOf]; omega⟩
            case false =>
              clear hbb
              go_wp2_with fail
              go_ret
              exact ⟨rfl, (X8.transN X).belowN⟩
end Go.Proofs.YtnmpfbffacljfaaDoor
