/- The law PieceWhole: what is split is put together, in whatever order its pieces come, and however often. -/
import Derived.Test.YtcdpmedmhindaaaPieG
import Derived.Test.YtcdpmedmhindaaaPieOs
import Derived.StillTailTactics
import Derived.Deep.DeepCutAuto
namespace Go.Proofs.Ytcdpmedmhindaaa
open Go.RowKit

def wF (id : Nat) (m : List UInt8) (p : Nat) : List UInt8 := pcb (mpc id 1 2 m p)
def wst (m : List UInt8) (id N : Nat) (o : List Nat) (i : Nat) : Jn := if i < N then sj 1 (id, 1, 2) m (o.take i) else sjd 1 (id, 1, 2)
structure Ord (N : Nat) (o : List Nat) : Prop where
  len : o.length = N
  nodup : o.Nodup
  lt : ∀ x ∈ o, x < N
theorem Ord.range (N : Nat) : Ord N (List.range N) := ⟨List.length_range, List.nodup_range, fun x hx => List.mem_range.1 hx⟩
theorem Ord.swap {N : Nat} {o : List Nat} (h : Ord N o) (i k : Nat) (hi : i < o.length) (hk : k < o.length) : Ord N ((o.set i o[k]).set k o[i]) := by
  have hp := List.set_set_perm hi hk
  exact ⟨by rw [List.length_set, List.length_set]; exact h.len, hp.nodup_iff.2 h.nodup, fun x hx => h.lt x (hp.mem_iff.1 hx)⟩
section
variable {m : List UInt8} {id N i : Nat} {o : List Nat}
theorem Ord.take1 (h : Ord N o) (hi : i < o.length) : o.take (i + 1) = o.take i ++ [o[i]] := List.take_succ_eq_append_getElem hi
theorem Ord.fresh (h : Ord N o) (hi : i < o.length) : o[i] ∉ o.take i := by
  have h1 : (o.take (i + 1)).Nodup := h.nodup.sublist (List.take_sublist _ _)
  rw [h.take1 hi, List.nodup_append] at h1
  intro hm
  exact h1.2.2 _ hm _ (by simp) rfl
theorem wst_some (h : Ord N o) (hm : m.length ≤ 4096) (hN : cnt m = N) (hi : i + 1 < N) (hio : i < o.length) {a : Nat} (ha : o[i] = a) :
    jtake (wst m id N o i) ⟨1, id, 1, 2, (a : Int), (N : Int), pce m a⟩ = (wst m id N o (i + 1), 0, none) := by
  subst ha
  unfold wst
  rw [if_pos (by omega), if_pos hi, h.take1 hio]
  exact sj_some (by decide) hm hN (h.lt _ (List.getElem_mem hio)) (h.fresh hio) (by rw [List.length_take]; omega)
theorem wst_last (h : Ord N o) (hm : m.length ≤ 4096) (hN : cnt m = N) (hi : i + 1 = N) (hio : i < o.length) {a : Nat} (ha : o[i] = a) :
    jtake (wst m id N o i) ⟨1, id, 1, 2, (a : Int), (N : Int), pce m a⟩ = (wst m id N o (i + 1), 0, some m) := by
  subst ha
  unfold wst
  rw [if_pos (by omega), if_neg (by omega)]
  exact sj_last (by decide) hm hN (h.lt _ (List.getElem_mem hio)) (h.fresh hio) (h.nodup.sublist (List.take_sublist _ _)) (fun x hx => h.lt x (List.mem_of_mem_take hx)) (by rw [List.length_take]; omega)
theorem wst_again (h : Ord N o) (hm : m.length ≤ 4096) (hN : cnt m = N) (hio : i < o.length) {a : Nat} (ha : o[i] = a) :
    jtake (wst m id N o (i + 1)) ⟨1, id, 1, 2, (a : Int), (N : Int), pce m a⟩ = (wst m id N o (i + 1), 7, none) := by
  subst ha
  unfold wst
  split
  · exact sj_again hm hN (h.lt _ (List.getElem_mem hio)) (by rw [h.take1 hio]; exact List.mem_append_right _ List.mem_cons_self)
  · exact sjd_again hm hN (h.lt _ (List.getElem_mem hio))
theorem wst_zero (h : 0 < N) : jn0 1 = wst m id N o 0 := by
  unfold wst
  rw [if_pos h, List.take_zero]
  exact sj_zero (by decide) _ _
theorem wst_end : (wst m id N o N).opn.length = 0 := by
  unfold wst
  rw [if_neg (by omega)]
  rfl
theorem map_swap (f : Nat → List UInt8) (k : Nat) (hi : i < o.length) (hk : k < o.length) : ((o.map f).set i (f o[k])).set k (f o[i]) = ((o.set i o[k]).set k o[i]).map f := by
  simp [List.map_set]
theorem wF_len (h : m.length ≤ 4096) (hN : cnt m = N) {p : Nat} (hp : p < N) : (wF id m p).length = 256 := by
  subst hN
  exact prt_len (mpc_rt id 1 2 h hp)
end
set_option maxRecDepth 100000 in
set_option maxHeartbeats 4000000 in
theorem whole_walk (A : Option Addr) (n c : Nat) (l : List UInt8) (id : Nat) (Ao : Option Addr) (no co : Nat) (Ab : Option Addr) (nb cb : Nat) (w : World) (hn : l.length = n) (hc : n ≤ c) (hcm : c ≤ maxLen) (hid : id < 4294967296) (r : Rd w (· < w.heap.size) A (bvs l))
    (hto : no ≤ co ∧ ∀ i, i < no → Ao.isSome = true ∧ ∃ v : Nat, v < 65536 ∧ w.cell? ((Ao.getD default).add i) = some (.int .u16 v)) (htb : nb ≤ cb ∧ ∀ i, i < nb → Ab.isSome = true ∧ ∃ b : Bool, w.cell? ((Ab.getD default).add i) = some (.bool b)) :
    Calls Try.prog 5 #[.slice A n c, .int .u32 id, .slice Ao no co, .slice Ab nb cb] w fun e w' => e = .returned (.bool true) ∧ Below w.heap.size w w' := by
  obtain ⟨k, hk, hka, hkb, _⟩ := min_at n 4096 (by omega)
  go_enter Try.func5, Try.ntmps5
  go_wp2_with fail
  have ctr := shown_calls w
  with_reducible refine Calls.mono ctr ?_
  clear ctr
  rintro e w1 ⟨rfl, X1⟩
  go_wp2_with fail
  obtain ⟨m, hmd⟩ : ∃ m, l.take k = m := ⟨_, rfl⟩
  have hmk : m.length = k := by rw [← hmd, List.length_take]; omega
  have rm : Rd w (· < w.heap.size) A (bvs m) := by
    have := r.take k
    rw [← hmd]
    simpa [bvs, List.map_take] using this
  obtain ⟨N, hN⟩ : ∃ N, cnt m = N := ⟨_, rfl⟩
  have hm4 : m.length ≤ 4096 := by omega
  have rm1 := rm.extN X1
  have hs1 := X1.size
  clear r hk hmd
  have ctr := split_x (m := m) c k id 1 2 rm1 (fun b hb => by omega) hmk hm4 (by omega) hcm hid (by decide) (by decide) rfl rfl rfl N hN
  with_reducible refine Calls.mono ctr ?_
  clear ctr
  rintro e w2 ⟨A2, c2, rfl, O2, x2⟩
  have X2 := X1.transN x2
  have cf := cnt_facts m hm4
  rw [hN] at cf
  have cf1 := cf.1
  have cf2 := cf.2.1
  have cf3 := cf.2.2
  have hmx : (1 ≤ ((k : Int) + 243) / 244 ∧ ((k : Int) + 243) / 244 = (N : Int)) ∨ (((k : Int) + 243) / 244 < 1 ∧ (N : Int) = 1) := by
    rw [← hN]
    unfold cnt
    rw [hmk]
    omega
  go_wp2_with fail
  have ctr := new_calls w2 1
  with_reducible refine Calls.mono ctr ?_
  clear ctr
  rintro e w3 ⟨j, rfl, J0, x3⟩
  have X3 := X2.transN x3
  have O3 := O2.extN x3
  have hA3 : ∀ b, ob A2 = some b → b < w2.heap.size := fun b hb => (O2.lt hb).2
  clear x2 O2 rm1
  go_upto_region 5 with (fail)
  go_cut [53] (fun s wc => s = .bool false ∧ w3 = wc)
  case first =>
    rcases hmx with ⟨h1, h2⟩ | ⟨h1, h2⟩
    · go_wp2_with fail
      go_meet
      case rel => exact ⟨rfl, rfl⟩
    · go_wp2_with fail
      go_meet
      case rel => exact ⟨rfl, rfl⟩
  case rest =>
    obtain ⟨rfl, rfl⟩ := hcut
    clear hmx
    have hwb : w.heap.size ≤ w2.heap.size := X2.size
    have hbw := x3.size
    obtain ⟨bs, hbs⟩ : ∃ q, w2.heap.size = q := ⟨_, rfl⟩
    rw [hbs] at hwb J0 hA3 hbw
    clear X1 X2 hbs x3
    have hlo : ∀ b, ob A2 = some b → w.heap.size ≤ b := fun b hb => by have := (O3.lt hb).1; omega
    have eP : pcbs id 1 2 m N = (List.range N).map (wF id m) := rfl
    rw [eP] at O3
    clear eP
    go_wp2_with fail
    go_loopw [13] (fun z wr => ∃ (i : Nat) (o : List Nat) (D : Nat → Prop), i ≤ N ∧ z = .int .i64 i ∧ Ord N o ∧ OwA wr w1.heap.size A2 c2 (o.map (wF id m)) ∧ Ext Non w wr ∧ Jo wr D j (jn0 1) ∧ (∀ b, D b → bs ≤ b ∧ b < wr.heap.size) ∧ bs ≤ wr.heap.size) (fun z _ => N - (intOf z).toNat)
    case atStart => exact ⟨0, _, _, by omega, rfl, Ord.range N, O3, X3, J0, fun b hb => hb, hbw⟩
    case round =>
      clear O3 X3 J0 hbw
      obtain ⟨i, o, D, hi, rfl, ho, O, X, J0, hD, hbw⟩ := hrel
      have hol := ho.len
      obtain ⟨bb, hbb⟩ : ∃ bb : Bool, (bb = true ∧ (i : Int) < (N : Int) ∧ (i : Int) < (no : Int)) ∨ (bb = false ∧ ¬ (i : Int) < (N : Int)) ∨ (bb = false ∧ (i : Int) < (N : Int) ∧ ¬ (i : Int) < (no : Int)) := by
        by_cases h1 : i < N
        · by_cases h2 : i < no
          · exact ⟨true, .inl ⟨rfl, by omega, by omega⟩⟩
          · exact ⟨false, .inr (.inr ⟨rfl, by omega, by omega⟩)⟩
        · exact ⟨false, .inr (.inl ⟨rfl, by omega⟩)⟩
      go_upto_region 8 with (fail)
      go_cut [63] (fun s wc => s = .bool bb ∧ wr = wc)
      case first =>
        rcases hbb with ⟨rfl, h1, h2⟩ | ⟨rfl, h1⟩ | ⟨rfl, h1, h2⟩
        all_goals
          go_wp2_with fail
          go_meet
          case rel => exact ⟨rfl, rfl⟩
      case rest =>
        obtain ⟨rfl, rfl⟩ := hcut
        cases bb
        · clear hbb hi hto
          have hJ := wst_zero (m := m) (id := id) (N := N) (o := o) (by omega)
          rw [hJ] at J0
          clear hJ
          go_wp2_with fail
          go_loopw [16] (fun z wq => ∃ (i : Nat) (D : Nat → Prop), i ≤ N ∧ z = .int .i64 i ∧ OwA wq w1.heap.size A2 c2 (o.map (wF id m)) ∧ Ext Non w wq ∧ Jo wq D j (wst m id N o i) ∧ (∀ b, D b → bs ≤ b ∧ b < wq.heap.size) ∧ bs ≤ wq.heap.size) (fun z _ => N - (intOf z).toNat)
          case atStart => exact ⟨0, D, by omega, rfl, O, X, J0, hD, hbw⟩
          case round =>
            clear O X J0 hD hbw D
            obtain ⟨i, D, hi, rfl, O, X, J0, hD, hbw⟩ := hrel
            by_cases hlt : i < N
            · have i1 : (i : Int) < (N : Int) := by omega
              have hio : i < o.length := by omega
              obtain ⟨a, ha⟩ : ∃ a, o[i] = a := ⟨_, rfl⟩
              have haN : a < N := by rw [← ha]; exact ho.lt _ (List.getElem_mem hio)
              have htk2 := wst_again (id := id) ho hm4 hN hio ha
              obtain ⟨hA, ld⟩ := O.load i (by rw [List.length_map]; exact hio)
              rw [List.getElem_map, ha] at ld
              unfold wF at ld
              obtain ⟨q, hq⟩ : ∃ q, (pce m a).length = q := ⟨_, rfl⟩
              have hq244 : q ≤ 244 := by rw [← hq, pce_len]; omega
              go_wp2_with fail
              clear ld hA
              have ctr := parse_mpc wr id 1 2 hid (by decide) (by decide) (m := m) hm4 a (by rw [hN]; exact haN) rfl rfl rfl q N hq hN
              with_reducible refine Calls.mono ctr ?_
              clear ctr
              rintro e w4 ⟨A4, c4, rfl, O4, x4⟩
              have Bp := Blk.new w4 45 #[.int .i64 1, .int .u32 id, .int .u16 1, .int .u16 2, .int .i64 (a : Int), .int .i64 (N : Int), .slice A4 q c4]
              have Y5 := (Ext.refl Non w4).alloc (.cells #[.int .i64 1, .int .u32 id, .int .u16 1, .int .u16 2, .int .i64 (a : Int), .int .i64 (N : Int), .slice A4 q c4] 45)
              have O5 := O4.extN Y5
              have Y := x4.transN Y5
              have P5 := O.extN Y
              have X5 := X.transN Y
              have J5 := J0.extN Y
              have hq4 := O4.len
              rw [hq] at hq4
              have lo4 : ∀ b, ob A4 = some b → wr.heap.size ≤ b := fun b hb => (O4.lt hb).1
              have hx4 := x4.size
              have hsz : (w4.alloc (.cells #[.int .i64 1, .int .u32 id, .int .u16 1, .int .u16 2, .int .i64 (a : Int), .int .i64 (N : Int), .slice A4 q c4] 45)).heap.size = w4.heap.size + 1 := World.size_alloc ..
              obtain ⟨a0, a1, a2, a3, a4, a5, a6⟩ := pc_cellsR Bp
              clear O4 x4 Y5 X Y O J0
              go_wp2_with fail
              clear a0 a1 a2 a3 a4 a5 a6
              generalize w4.alloc (.cells #[.int .i64 1, .int .u32 id, .int .u16 1, .int .u16 2, .int .i64 (a : Int), .int .i64 (N : Int), .slice A4 q c4] 45) = w5 at *
              generalize w4.heap.size = gp at *
              obtain ⟨bl, hbl⟩ : ∃ b, ((i : Int) == (N : Int) - 1) = b := ⟨_, rfl⟩
              by_cases hl : i + 1 = N
              · have iN : bl = true := by rw [← hbl]; simp; omega
                have htk := wst_last (id := id) ho hm4 hN hl hio ha
                have ctr := take_some J5 1 id 1 2 (a : Int) (N : Int) (pce m a) m htk rfl rfl rfl A4 c4 q hq O5.rd hq4.1 (by simp only [maxLen]; omega) k hmk
                with_reducible refine Calls.mono ctr ?_
                clear ctr
                rintro e w6 ⟨D6, Am, cm, rfl, J6, hD6, x6, Om, _⟩
                have X6 := X5.trans x6 (fun b hb hd => by
                  have := (hD _ hd).1
                  omega)
                have P6 := P5.ext x6 (fun b hb hd => by
                  have := hA3 b hb
                  have := (hD _ hd).1
                  omega)
                have Bp6 := Bp.ext x6 (fun h => by have := (hD _ h).2; omega)
                have O6 := O5.ext x6 (fun b hb h => by have := (hD _ h).2; have := lo4 _ hb; omega)
                have Y7 := (Ext.refl Non w6).alloc (.cells #[.int .u32 id, .int .u16 1, .int .u16 2, .slice Am k cm] 55)
                have J7 := J6.extN Y7
                have X7 := X6.transN Y7
                have P7 := P6.extN Y7
                have Bp7 := Bp6.extN_ Y7
                have O7 := O6.extN Y7
                have hs6 := x6.size
                have hs7 : (w6.alloc (.cells #[.int .u32 id, .int .u16 1, .int .u16 2, .slice Am k cm] 55)).heap.size = w6.heap.size + 1 := World.size_alloc ..
                have hb7 : bs ≤ (w6.alloc (.cells #[.int .u32 id, .int .u16 1, .int .u16 2, .slice Am k cm] 55)).heap.size := by omega
                have hD7 : ∀ b, D6 b → bs ≤ b ∧ b < (w6.alloc (.cells #[.int .u32 id, .int .u16 1, .int .u16 2, .slice Am k cm] 55)).heap.size := fun b h => by
                  have h2 := (hD6 _ h).2
                  rcases (hD6 _ h).1 with h | h
                  · have := hD _ h
                    omega
                  · omega
                clear x6 hD6 J5 X5 P5 O5 Bp hD J6 X6 P6 Bp6 O6
                have cv1 := conv_str (Om.extN Y7).rd k cm hmk
                have cv2 := conv_str (rm.extN X7) k c hmk
                clear Om Y7
                go_upto_region 21 with (fail)
                clear cv1 cv2 htk
                generalize w6.alloc (.cells #[.int .u32 id, .int .u16 1, .int .u16 2, .slice Am k cm] 55) = w7 at *
                obtain ⟨ab, hab⟩ : ∃ ab : Bool, ((i : Int) < (nb : Int) ∧ Ab.isSome = true ∧ w7.cell? ((Ab.getD default).add i) = some (.bool ab)) ∨ (¬ (i : Int) < (nb : Int) ∧ ab = false) := by
                  by_cases h : i < nb
                  · obtain ⟨h1, b, h2⟩ := htb.2 i h
                    exact ⟨b, .inl ⟨by omega, h1, X7.cell h2 (fun h => h)⟩⟩
                  · exact ⟨false, .inr ⟨by omega, rfl⟩⟩
                go_upto_region 21 with (fail)
                go_cut [165] (fun s wc => s = .bool ab ∧ w7 = wc)
                case first =>
                  rcases hab with ⟨h1, h2, h3⟩ | ⟨h1, rfl⟩
                  · go_wp2_with fail
                    go_meet
                    case rel => exact ⟨rfl, rfl⟩
                  · go_wp2_with fail
                    go_meet
                    case rel => exact ⟨rfl, rfl⟩
                case rest =>
                  obtain ⟨rfl, rfl⟩ := hcut
                  clear hab
                  cases ab
                  · go_wp2_with fail
                    exact ⟨⟨i + 1, D6, by omega, by go_num, P7, X7, J7, hD7, by omega⟩, by simp [intOf]; omega⟩
                  · obtain ⟨b0, b1, b2, b3, b4, b5, b6⟩ := pc_cellsR Bp7
                    go_upto_if 165 with (fail)
                    go_wp2_with fail
                    clear b0 b1 b2 b3 b4 b5 b6
                    have ctr := take_none J7 1 id 1 2 (a : Int) (N : Int) (pce m a) 7 htk2 rfl rfl rfl rfl A4 c4 q hq O7.rd hq4.1 (by simp only [maxLen]; omega)
                    with_reducible refine Calls.mono ctr ?_
                    clear ctr
                    rintro e w8 ⟨D8, rfl, J8, hD8, x8⟩
                    have hs8 := x8.size
                    have X8 := X7.trans x8 (fun b hb hd => by
                      have := (hD7 _ hd).1
                      omega)
                    have P8 := P7.ext x8 (fun b hb hd => by
                      have := hA3 b hb
                      have := (hD7 _ hd).1
                      omega)
                    have Y9 := (Ext.refl Non w8).alloc (.cells #[.int .u32 0, .int .u16 0, .int .u16 0, .slice none 0 0] 55)
                    have J9 := J8.extN Y9
                    have X9 := X8.transN Y9
                    have P9 := P8.extN Y9
                    have hs9 := Y9.size
                    go_wp2_with fail
                    exact ⟨⟨i + 1, D8, by omega, by go_num, P9, X9, J9, fun b h => ⟨by
                      rcases (hD8 _ h).1 with h | h
                      · exact (hD7 _ h).1
                      · omega, by have := (hD8 _ h).2; omega⟩, by omega⟩, by simp [intOf]; omega⟩
              · have iN : bl = false := by rw [← hbl]; simp; omega
                have hl' : i + 1 < N := by omega
                have htk := wst_some (id := id) ho hm4 hN hl' hio ha
                have ctr := take_none J5 1 id 1 2 (a : Int) (N : Int) (pce m a) 0 htk rfl rfl rfl rfl A4 c4 q hq O5.rd hq4.1 (by simp only [maxLen]; omega)
                with_reducible refine Calls.mono ctr ?_
                clear ctr
                rintro e w6 ⟨D6, rfl, J6, hD6, x6⟩
                have X6 := X5.trans x6 (fun b hb hd => by
                  have := (hD _ hd).1
                  omega)
                have P6 := P5.ext x6 (fun b hb hd => by
                  have := hA3 b hb
                  have := (hD _ hd).1
                  omega)
                have Bp6 := Bp.ext x6 (fun h => by have := (hD _ h).2; omega)
                have O6 := O5.ext x6 (fun b hb h => by have := (hD _ h).2; have := lo4 _ hb; omega)
                have Y7 := (Ext.refl Non w6).alloc (.cells #[.int .u32 0, .int .u16 0, .int .u16 0, .slice none 0 0] 55)
                have J7 := J6.extN Y7
                have X7 := X6.transN Y7
                have P7 := P6.extN Y7
                have Bp7 := Bp6.extN_ Y7
                have O7 := O6.extN Y7
                have hs6 := x6.size
                have hs7 : (w6.alloc (.cells #[.int .u32 0, .int .u16 0, .int .u16 0, .slice none 0 0] 55)).heap.size = w6.heap.size + 1 := World.size_alloc ..
                have hb7 : bs ≤ (w6.alloc (.cells #[.int .u32 0, .int .u16 0, .int .u16 0, .slice none 0 0] 55)).heap.size := by omega
                have hD7 : ∀ b, D6 b → bs ≤ b ∧ b < (w6.alloc (.cells #[.int .u32 0, .int .u16 0, .int .u16 0, .slice none 0 0] 55)).heap.size := fun b h => by
                  have h2 := (hD6 _ h).2
                  rcases (hD6 _ h).1 with h | h
                  · have := hD _ h
                    omega
                  · omega
                clear x6 hD6 J5 X5 P5 O5 Bp hD J6 X6 P6 Bp6 O6
                clear Y7
                go_upto_region 21 with (fail)
                clear htk
                generalize w6.alloc (.cells #[.int .u32 0, .int .u16 0, .int .u16 0, .slice none 0 0] 55) = w7 at *
                obtain ⟨ab, hab⟩ : ∃ ab : Bool, ((i : Int) < (nb : Int) ∧ Ab.isSome = true ∧ w7.cell? ((Ab.getD default).add i) = some (.bool ab)) ∨ (¬ (i : Int) < (nb : Int) ∧ ab = false) := by
                  by_cases h : i < nb
                  · obtain ⟨h1, b, h2⟩ := htb.2 i h
                    exact ⟨b, .inl ⟨by omega, h1, X7.cell h2 (fun h => h)⟩⟩
                  · exact ⟨false, .inr ⟨by omega, rfl⟩⟩
                go_upto_region 21 with (fail)
                go_cut [165] (fun s wc => s = .bool ab ∧ w7 = wc)
                case first =>
                  rcases hab with ⟨h1, h2, h3⟩ | ⟨h1, rfl⟩
                  · go_wp2_with fail
                    go_meet
                    case rel => exact ⟨rfl, rfl⟩
                  · go_wp2_with fail
                    go_meet
                    case rel => exact ⟨rfl, rfl⟩
                case rest =>
                  obtain ⟨rfl, rfl⟩ := hcut
                  clear hab
                  cases ab
                  · go_wp2_with fail
                    exact ⟨⟨i + 1, D6, by omega, by go_num, P7, X7, J7, hD7, by omega⟩, by simp [intOf]; omega⟩
                  · obtain ⟨b0, b1, b2, b3, b4, b5, b6⟩ := pc_cellsR Bp7
                    go_upto_if 165 with (fail)
                    go_wp2_with fail
                    clear b0 b1 b2 b3 b4 b5 b6
                    have ctr := take_none J7 1 id 1 2 (a : Int) (N : Int) (pce m a) 7 htk2 rfl rfl rfl rfl A4 c4 q hq O7.rd hq4.1 (by simp only [maxLen]; omega)
                    with_reducible refine Calls.mono ctr ?_
                    clear ctr
                    rintro e w8 ⟨D8, rfl, J8, hD8, x8⟩
                    have hs8 := x8.size
                    have X8 := X7.trans x8 (fun b hb hd => by
                      have := (hD7 _ hd).1
                      omega)
                    have P8 := P7.ext x8 (fun b hb hd => by
                      have := hA3 b hb
                      have := (hD7 _ hd).1
                      omega)
                    have Y9 := (Ext.refl Non w8).alloc (.cells #[.int .u32 0, .int .u16 0, .int .u16 0, .slice none 0 0] 55)
                    have J9 := J8.extN Y9
                    have X9 := X8.transN Y9
                    have P9 := P8.extN Y9
                    have hs9 := Y9.size
                    go_wp2_with fail
                    exact ⟨⟨i + 1, D8, by omega, by go_num, P9, X9, J9, fun b h => ⟨by
                      rcases (hD8 _ h).1 with h | h
                      · exact (hD7 _ h).1
                      · omega, by have := (hD8 _ h).2; omega⟩, by omega⟩, by simp [intOf]; omega⟩
            · obtain rfl : i = N := by omega
              have i1 : ¬ (i : Int) < (i : Int) := by omega
              have hl := wst_end (m := m) (id := id) (N := i) (o := o)
              go_wp2_with fail
              have ctr := len_calls J0
              with_reducible refine Calls.mono ctr ?_
              clear ctr
              rintro e wz ⟨rfl, rfl⟩
              rw [hl]
              go_wp2_with fail
              go_ret
              exact ⟨rfl, X.belowN⟩
        · have i1 : (i : Int) < (N : Int) := by
            rcases hbb with ⟨_, h1, h2⟩ | ⟨h, _⟩ | ⟨h, _⟩
            · exact h1
            · cases h
            · cases h
          have i2 : (i : Int) < (no : Int) := by
            rcases hbb with ⟨_, h1, h2⟩ | ⟨h, _⟩ | ⟨h, _⟩
            · exact h2
            · cases h
            · cases h
          clear hbb
          obtain ⟨hAo, v, hv, cv⟩ := hto.2 i (by omega)
          have cv' := X.cell cv (fun h => h)
          obtain ⟨x, hx⟩ : ∃ x, v % (N - i) = x := ⟨_, rfl⟩
          have hxl : x < N - i := by rw [← hx]; exact Nat.mod_lt _ (by omega)
          have en : (N : Int) - (i : Int) = ((N - i : Nat) : Int) := by omega
          have ex : (v : Int).tmod ((N : Int) - (i : Int)) = (x : Int) := by rw [en, ← hx]; rfl
          have ex' : (v : Int) % ((N : Int) - (i : Int)) = (x : Int) := by rw [en, ← hx]; rfl
          obtain ⟨q, hq⟩ : ∃ q, i + x = q := ⟨_, rfl⟩
          have eq : (i : Int) + (x : Int) = (q : Int) := by omega
          have hqN : q < N := by omega
          have iq : (q : Int) < (N : Int) := by omega
          have hio : i < o.length := by omega
          have hqo : q < o.length := by omega
          clear en hx hq hxl
          obtain ⟨hA, ld⟩ := O.load i (by rw [List.length_map]; exact hio)
          rw [List.getElem_map] at ld
          have hFa : (wF id m o[i]).length = 256 := wF_len hm4 hN (ho.lt _ (List.getElem_mem hio))
          have hFb : (wF id m o[q]).length = 256 := wF_len hm4 hN (ho.lt _ (List.getElem_mem hqo))
          have hms := map_swap (wF id m) q hio hqo
          have ho' := ho.swap i q hio hqo
          obtain ⟨o', ho2⟩ : ∃ o', (o.set i o[q]).set q o[i] = o' := ⟨_, rfl⟩
          rw [ho2] at hms ho'
          have hgb : (o.map (wF id m))[q]? = some (wF id m o[q]) := by rw [List.getElem?_map, List.getElem?_eq_getElem hqo]; rfl
          clear ho2
          generalize wF id m o[i] = fa at *
          generalize wF id m o[q] = fb at *
          have sb := store_b wr (l := fa) hFa
          have Bx := Blk.new wr 35 (ba fa)
          have Y := (Ext.refl Non wr).alloc (.cells (ba fa) 35)
          have O4 := O.extN Y
          have X4 := X.transN Y
          have J4 := J0.extN Y
          have hs4 : (wr.alloc (.cells (ba fa) 35)).heap.size = wr.heap.size + 1 := World.size_alloc ..
          clear O X J0 Y
          go_upto_region 12 with (fail)
          clear sb ld hA cv' hAo ex ex' eq
          have hgx : bs ≤ wr.heap.size ∧ ∀ b, D b → b ≠ wr.heap.size := ⟨hbw, fun b h => by have := (hD b h).2; omega⟩
          have hD4 : ∀ b, D b → bs ≤ b ∧ b < (wr.alloc (.cells (ba fa) 35)).heap.size := fun b h => ⟨(hD b h).1, by have := (hD b h).2; omega⟩
          have hb4 : bs ≤ (wr.alloc (.cells (ba fa) 35)).heap.size := by omega
          clear hD hbw hs4
          generalize wr.alloc (.cells (ba fa) 35) = w4 at *
          generalize wr.heap.size = gx at *
          obtain ⟨hA, ld⟩ := O4.load q (by rw [List.length_map]; exact hqo)
          have hgb' : (o.map (wF id m))[q]'(by rw [List.length_map]; exact hqo) = fb := by
            rw [List.getElem?_eq_getElem (by rw [List.length_map]; exact hqo)] at hgb
            exact Option.some.inj hgb
          rw [hgb'] at ld
          obtain ⟨_, w5, st1, O5, x5⟩ := O4.store i (by rw [List.length_map]; exact hio) fb hFb
          have nA : ∀ b, ob A2 = some b → b < bs := hA3
          have X5 := X4.trans x5 (fun b hb h => by have := hlo b h; omega)
          have J5 := J4.ext x5 (fun b hb h => by have := nA b h; have := (hD4 b hb).1; omega)
          have Bx5 := Bx.ext x5 (fun h => by have := nA _ h; omega)
          have hs5 := x5.size
          clear O4 X4 J4 Bx hgb hgb' x5
          go_upto_region 13 with (fail)
          clear ld st1
          obtain ⟨_, w6, st2, O6, x6⟩ := O5.store q (by rw [List.length_set, List.length_map]; exact hqo) fa hFa
          rw [hms] at O6
          have X6 := X5.trans x6 (fun b hb h => by have := hlo b h; omega)
          have J6 := J5.ext x6 (fun b hb h => by have := nA b h; have := (hD4 b hb).1; omega)
          have hs6 := x6.size
          have lb := load_ba Bx5 hFa
          clear O5 X5 J5 x6 Bx5 hms hFa hFb
          go_wp2_with fail
          exact ⟨⟨i + 1, o', D, by omega, by go_num, ho', O6, X6, J6, fun b h => ⟨(hD4 b h).1, by have := (hD4 b h).2; omega⟩, by omega⟩, by simp [intOf]; omega⟩
end Go.Proofs.Ytcdpmedmhindaaa
