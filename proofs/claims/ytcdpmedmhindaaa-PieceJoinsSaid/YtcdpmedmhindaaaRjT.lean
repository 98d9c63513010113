/- The document's joiner: Take. -/
import Derived.Test.YtcdpmedmhindaaaRjM
import Derived.Test.YtcdpmedmhindaaaSeqTN
import Derived.Deep.DeepCutAuto
namespace Go.Proofs.Ytcdpmedmhindaaa
open Go.RowKit

@[go_sem ↓] theorem big_store_rm (x v : Value) : Instr.storeAt 48 x v = bigStore 48 x v := rfl
def rmsg (p : Pc) : Option (List UInt8) → Array Value
  | none => #[.int .u32 0, .int .u16 0, .int .u16 0, .string ⟨#[]⟩]
  | some m => #[.int .u32 p.id, .int .u16 p.fr, .int .u16 p.bx, .string (str m)]
theorem OwP.made (w : World) {base : Nat} (hb : base ≤ w.heap.size) : OwP (w.alloc (.cells #[] 52)) base (some ⟨w.heap.size, 0, none⟩) 0 [] :=
  ⟨rfl, Nat.le_refl _, Nat.zero_le _, .inr ⟨w.heap.size, 0, #[], rfl, hb, Blk.new w _ _, by simp, by simp [rpls]⟩⟩
theorem run_apQ (ty : TypeId) {w : World} {base base' : Nat} {A B : Option Addr} {c cB : Nat} {ps qs : List Pc} (hown : OwP w base A c ps) (hsrc : OwP w base' B cB qs) (n m : Nat) (hn : ps.length = n) (hm : qs.length = m) (hlen : n + m ≤ 900000) (hbase : base ≤ w.heap.size) :
    ∃ A' c' w', (Builtin.append_ #[41, 41] ty #[.slice A n c, .slice B m cB]).run Try.prog w = .ok (.slice A' (n + m) c') w' ∧ OwP w' base A' c' (ps ++ qs) ∧ Ext (fun k => ob A = some k) w w' ∧ (ob A' = ob A ∨ ob A' = some w.heap.size) := by
  cases B with
  | some a =>
    refine run_apP ty hown (fun j u hu => ?_) cB n m hn hm hlen hbase
    exact (hsrc.rd.ix hu).2
  | none =>
    have hle := hsrc.le
    rcases hsrc.ex with ⟨_, h0⟩ | ⟨g, off, cur, h, _⟩
    · have hq : qs = [] := List.eq_nil_of_length_eq_zero (by omega)
      subst hq
      obtain rfl : m = 0 := hm.symm
      subst hn
      have hlc := hown.le
      obtain ⟨i, hi, hz0, hz1, hz2⟩ := info_parts rpinfo
      refine ⟨A, c, w, ?_, by rw [List.append_nil]; exact hown, Ext.refl _ _, .inl rfl⟩
      have hfc := run_firstCells_none (P := Try.prog) w i.size 0 0 cB
      cases A with
      | none => simp [Builtin.append_, run_underlying Try.underlying41, sizeOf, typeInfo, hi, Builtin.lenOf, hlc, hfc]
      | some a => simp [storeCells, Builtin.append_, run_underlying Try.underlying41, sizeOf, typeInfo, hi, Builtin.lenOf, hlc, hfc]
    · cases h
theorem OwP.ne_j {w : World} {base j : Nat} {A : Option Addr} {c : Nat} {ps : List Pc} {cs : Array Value} (h : OwP w base A c ps) (B : Blk w j 43 cs) (k : Nat) (hk : ob A = some k) : k ≠ j := by
  rcases h.ex with ⟨rfl, _⟩ | ⟨g, off, cur, rfl, _, hg, _⟩
  · cases hk
  · have hk : g = k := Option.some.inj hk
    subst hk
    exact hg.ne_ B (by decide)
theorem rpls_drop1 : ∀ l : List Pc, rpls (l.drop 1) = (rpls l).drop 7
  | [] => rfl
  | x :: r => by
    have e : rpls (x :: r) = rpl x ++ rpls r := by unfold rpls; rw [List.flatMap_cons]
    rw [e]
    show rpls r = (rpl x ++ rpls r).drop 7
    rw [List.drop_append, List.drop_of_length_le (by rw [rpl_len]; exact Nat.le_refl _), rpl_len]
    rfl
def bl (M : List Pc) (i : Nat) : List UInt8 := M.flatMap fun q => if q.place = (i : Int) then q.b else []
theorem ball_succ (M : List Pc) (i : Nat) : ball M (i + 1) = ball M i ++ bl M i := by simp [ball, bl, List.range_succ]
theorem bl_snoc (M : List Pc) (q : Pc) (i : Nat) : bl (M ++ [q]) i = bl M i ++ if q.place = (i : Int) then q.b else [] := by simp [bl]
theorem bl_len (i : Nat) : ∀ {M : List Pc}, (∀ q ∈ M, q.b.length ≤ 300) → (bl M i).length ≤ M.length * 300
  | [], _ => Nat.zero_le _
  | x :: M, h => by
    have h1 := h x (by simp)
    have h2 := bl_len i (M := M) (fun q hq => h q (by simp [hq]))
    have e : bl (x :: M) i = (if x.place = (i : Int) then x.b else []) ++ bl M i := rfl
    rw [e, List.length_append, List.length_cons]
    split
    · omega
    · simp only [List.length_nil]; omega
theorem ball_len {M : List Pc} (h : ∀ q ∈ M, q.b.length ≤ 300) : ∀ c : Nat, (ball M c).length ≤ c * (M.length * 300)
  | 0 => by simp [ball]
  | c + 1 => by
    have := ball_len h c
    have := bl_len c h
    rw [ball_succ, List.length_append, Nat.succ_mul]
    omega
theorem src_ap {w5 U : World} {AL A : Option Addr} {cL c : Nat} {L : List Pc} (OL5 : OwP w5 0 AL cL L) (X : Ext (fun k => w5.heap.size ≤ k) w5 U) (o : OwP U w5.heap.size A c []) (n : Nat) (hn : L.length = n) (hL : n ≤ 300) :
    ∃ A' c' U', (Builtin.append_ #[41, 41] 41 #[.slice A 0 c, .slice AL n cL]).run Try.prog U = .ok (.slice A' n c') U' ∧ OwP U' w5.heap.size A' c' L ∧ Ext (fun k => w5.heap.size ≤ k) w5 U' := by
  have hs := X.size
  obtain ⟨A', c', U', h1, h2, h3, _⟩ := run_apQ 41 o (OwO.ext OL5 X (fun k hk h => by have := (OwO.lt OL5 hk).2; have h : w5.heap.size ≤ k := h; omega)) 0 n rfl hn (by omega) hs
  rw [Nat.zero_add] at h1
  exact ⟨A', c', U', h1, h2, X.trans h3 (fun b hb h => by have := (OwO.lt o h).1; omega)⟩
/-- As src_ap, where another block is not touched. -/
theorem src_ap1 {w5 U : World} {AL A : Option Addr} {cL c g : Nat} {L : List Pc} {t : TypeId} {cs : Array Value} (OL5 : OwP w5 0 AL cL L) (X : Ext (fun k => w5.heap.size ≤ k) w5 U) (o : OwP U w5.heap.size A c []) (Bp : Blk U g t cs) (hg : ob A ≠ some g) (n : Nat) (hn : L.length = n) (hL : n ≤ 300) :
    ∃ A' c' U', (Builtin.append_ #[41, 41] 41 #[.slice A 0 c, .slice AL n cL]).run Try.prog U = .ok (.slice A' n c') U' ∧ OwP U' w5.heap.size A' c' L ∧ Ext (fun k => w5.heap.size ≤ k) w5 U' ∧ Blk U' g t cs := by
  have hs := X.size
  obtain ⟨A', c', U', h1, h2, h3, _⟩ := run_apQ 41 o (OwO.ext OL5 X (fun k hk h => by have := (OwO.lt OL5 hk).2; have h : w5.heap.size ≤ k := h; omega)) 0 n rfl hn (by omega) hs
  rw [Nat.zero_add] at h1
  exact ⟨A', c', U', h1, h2, X.trans h3 (fun b hb h => by have := (OwO.lt o h).1; omega), Bp.ext h3 hg⟩
theorem one_ap {w5 U : World} {A : Option Addr} {c g : Nat} {L : List Pc} {p : Pc} (X : Ext (fun k => w5.heap.size ≤ k) w5 U) (o : OwP U w5.heap.size A c L) (Bp : Blk U g 52 (rpc p)) (n : Nat) (hn : L.length = n) (hL : n ≤ 300) :
    ∃ A' c' U', (Builtin.append_ #[41, 41] 41 #[.slice A n c, .slice (some ⟨g, 0, none⟩) 1 1]).run Try.prog U = .ok (.slice A' (n + 1) c') U' ∧ OwP U' w5.heap.size A' c' (L ++ [p]) ∧ Ext (fun k => w5.heap.size ≤ k) w5 U' := by
  have hs := X.size
  have hcell : ∀ j u, (rpls [p])[j]? = some u → U.cell? ((⟨g, 0, none⟩ : Addr).add j) = some u := by
    intro j u hu
    rw [addr_add, Nat.zero_add, Bp.cell]
    have e : rpls [p] = rpl p := by unfold rpls; simp
    rw [e] at hu
    rw [← hu]
    simp [rpl]
  obtain ⟨A', c', U', h1, h2, h3, _⟩ := run_apP 41 o hcell 1 n 1 hn rfl (by omega) hs
  exact ⟨A', c', U', h1, h2, X.trans h3 (fun b hb h => by have := (OwO.lt o h).1; omega)⟩
set_option maxRecDepth 100000 in
set_option maxHeartbeats 4000000 in
theorem rtake_calls {w : World} {D : Nat → Prop} {j : Nat} {R : RJ} (H : RJo w D j R) (p : Pc) (hp : p.ok) (hb3 : p.b.length ≤ 300) (hL : R.L.length ≤ 200) (hdn : R.dn.length ≤ 64) (hDw : ∀ k, D k → k < w.heap.size) (hLb : ∀ q ∈ R.L, q.b.length ≤ 300) :
    Calls Try.prog 21 #[.pointer (some ⟨j, 0, none⟩), .agg (rpc p)] w fun e w' => ∃ D' : Nat → Prop, e = .returned (.tuple #[.agg (rmsg p (rtake R p).2.2), .bool (rtake R p).2.2.isSome, .int .i64 ((rtake R p).2.1 : Nat)]) ∧
      RJo w' D' j (rtake R p).1 ∧ (∀ k, D' k → (D k ∨ w.heap.size ≤ k) ∧ k < w'.heap.size) ∧ Ext D w w' := by
  have hjw := H.lt
  have X0 := ((Ext.refl Non w).alloc (.cells (rpc p) 52)).alloc (.cells #[.int .u32 0, .int .u16 0, .int .u16 0, .string ⟨#[]⟩] 48)
  have B0 := (Blk.new w 52 (rpc p)).alloc (.cells #[.int .u32 0, .int .u16 0, .int .u16 0, .string ⟨#[]⟩] 48)
  have M0 := Blk.new (w.alloc (.cells (rpc p) 52)) 48 #[.int .u32 0, .int .u16 0, .int .u16 0, .string ⟨#[]⟩]
  rw [World.size_alloc] at M0
  have hs0 : ((w.alloc (.cells (rpc p) 52)).alloc (.cells #[.int .u32 0, .int .u16 0, .int .u16 0, .string ⟨#[]⟩] 48)).heap.size = w.heap.size + 2 := by rw [World.size_alloc, World.size_alloc]
  have H1 := H.extN X0
  have rpne : rpc p ≠ #[] := by unfold rpc; simp
  have fin : ∀ (W : World) (e : Nat), Ext Non ((w.alloc (.cells (rpc p) 52)).alloc (.cells #[.int .u32 0, .int .u16 0, .int .u16 0, .string ⟨#[]⟩] 48)) W → rtake R p = (R, e, none) → ∃ D' : Nat → Prop, Ending.returned (.tuple #[.agg #[.int .u32 0, .int .u16 0, .int .u16 0, .string ⟨#[]⟩], .bool false, .int .i64 (e : Nat)]) = Ending.returned (.tuple #[.agg (rmsg p (rtake R p).2.2), .bool (rtake R p).2.2.isSome, .int .i64 ((rtake R p).2.1 : Nat)]) ∧
      RJo (W.setRow (w.heap.size + 1) #[.int .u32 0, .int .u16 0, .int .u16 0, .string ⟨#[]⟩]) D' j (rtake R p).1 ∧ (∀ k, D' k → (D k ∨ w.heap.size ≤ k) ∧ k < (W.setRow (w.heap.size + 1) #[.int .u32 0, .int .u16 0, .int .u16 0, .string ⟨#[]⟩]).heap.size) ∧ Ext D w (W.setRow (w.heap.size + 1) #[.int .u32 0, .int .u16 0, .int .u16 0, .string ⟨#[]⟩]) := by
    intro W e x h
    rw [h]
    have Y := (Ext.refl (One (w.heap.size + 1)) W).setRow (g := w.heap.size + 1) (.inr rfl) #[.int .u32 0, .int .u16 0, .int .u16 0, .string ⟨#[]⟩]
    have hsz := x.size
    have hsy := Y.size
    refine ⟨D, rfl, (H1.extN x).ext Y (fun k hk h => by have h : k = w.heap.size + 1 := h; have := hDw k hk; omega), fun k hk => ⟨.inl hk, by have := hDw k hk; omega⟩, ?_⟩
    exact ((X0.transN x).setRow (g := w.heap.size + 1) (.inl (by omega)) #[.int .u32 0, .int .u16 0, .int .u16 0, .string ⟨#[]⟩]).imp (fun _ _ h => h.elim)
  have hrt : rtake R p = if prt p = true ∧ p.kind = 1 then
      if ∃ q ∈ R.dn, q.key = p.key then (R, 7, none)
      else if own R.L p.key = [] ∧ 1 < p.count ∧ max R.room 1 ≤ ((opnOf R.L).length : Int) then (R, 8, none)
      else if bad (own R.L p.key) p then (R, 3, none)
      else if thr (own R.L p.key) p then (R, 7, none)
      else if ((own R.L p.key).length : Int) + 1 < p.count then (⟨R.room, R.L ++ [p], R.dn⟩, 0, none)
      else (⟨R.room, oth R.L p.key, dn64 (R.dn ++ [p])⟩, 0, some (ball (own R.L p.key ++ [p]) p.count.toNat))
    else (R, 1, none) := rfl
  obtain ⟨rt, hrtt⟩ : ∃ r, rtake R p = r := ⟨_, rfl⟩
  simp only [hrtt] at fin hrt ⊢
  have HRT := Lib.hid hrt
  clear hrt hrtt
  obtain ⟨AL, cL, AD, cD, BJ, OL, OD, dAL, dAD⟩ := H1.ex
  have BJ0 := BJ
  obtain ⟨nL, hnL⟩ : ∃ n, R.L.length = n := ⟨_, rfl⟩
  obtain ⟨nD, hnD⟩ : ∃ n, R.dn.length = n := ⟨_, rfl⟩
  rw [hnL] at hL
  rw [hnD] at hdn
  rw [hnL, hnD] at BJ
  have cr := fun W => rright_calls W p (by simp only [maxLen]; omega)
  obtain ⟨rp, hrp⟩ : ∃ r, prt p = r := ⟨_, rfl⟩
  simp only [hrp] at cr
  go_enter Try.func21, Try.ntmps21
  go_upto_region 1 with (fail)
  generalize (w.alloc (.cells (rpc p) 52)).alloc (.cells #[.int .u32 0, .int .u16 0, .int .u16 0, .string ⟨#[]⟩] 48) = w1 at *
  have lp : ∀ W, Ext Non w1 W → (bigLoad 52 (.pointer (some ⟨w.heap.size, 0, none⟩))).run Try.prog W = .ok (.agg (rpc p)) W := fun W x => (B0.extN_ x).big_load Try.underlying52 rfl (by kernel_rfl)
  have sz : ∀ W, Ext Non w1 W → (bigStore 48 (.pointer (some ⟨w.heap.size + 1, 0, none⟩)) (.agg #[.int .u32 0, .int .u16 0, .int .u16 0, .string ⟨#[]⟩])).run Try.prog W = .ok () (W.setRow (w.heap.size + 1) #[.int .u32 0, .int .u16 0, .int .u16 0, .string ⟨#[]⟩]) := fun W x => (M0.extN_ x).big_store (P := Try.prog) rfl (by kernel_rfl) (by simp [Value.oneCell'])
  have mz : ∀ W, Ext Non w1 W → Blk (W.setRow (w.heap.size + 1) #[.int .u32 0, .int .u16 0, .int .u16 0, .string ⟨#[]⟩]) (w.heap.size + 1) 48 #[.int .u32 0, .int .u16 0, .int .u16 0, .string ⟨#[]⟩] := fun W x => (M0.extN_ x).setRow #[.int .u32 0, .int .u16 0, .int .u16 0, .string ⟨#[]⟩]
  have pc : ∀ W, Ext Non w1 W → W.cell? ⟨w.heap.size, 0, none⟩ = some (.int .i64 p.kind) ∧ W.cell? ⟨w.heap.size, 4, none⟩ = some (.int .i64 p.place) ∧ W.cell? ⟨w.heap.size, 5, none⟩ = some (.int .i64 p.count) ∧ W.cell? ⟨w.heap.size, 6, none⟩ = some (.string (str p.b)) := fun W x =>
    ⟨(B0.extN_ x).cell 0, (B0.extN_ x).cell 4, (B0.extN_ x).cell 5, (B0.extN_ x).cell 6⟩
  have jc : ∀ W, Ext Non w1 W → W.cell? ⟨j, 0, none⟩ = some (.int .i64 R.room) ∧ W.cell? ⟨j, 1, none⟩ = some (.slice AL nL cL) ∧ W.cell? ⟨j, 2, none⟩ = some (.slice AD nD cD) := fun W x => ⟨(BJ.extN_ x).cell 0, (BJ.extN_ x).cell 1, (BJ.extN_ x).cell 2⟩
  have l1 := lp w1 (Ext.refl _ _)
  go_wp2_with fail
  clear l1
  have ctr := cr w1
  with_reducible refine Calls.mono ctr ?_
  clear ctr
  rintro e w2 ⟨rfl, x2⟩
  clear cr
  obtain ⟨k0, k4, k5, k6⟩ := pc w2 x2
  by_cases hr : rp = true ∧ p.kind = 1
  · obtain ⟨rfl, hk1⟩ := hr
    rw [if_pos ⟨hrp, hk1⟩] at HRT
    go_wp2_with fail
    clear k0 k4 k5 k6
    go_loopw [8] (fun z wr => ∃ i : Nat, i ≤ nD ∧ z = .int .i64 i ∧ (∀ q ∈ R.dn.take i, q.key ≠ p.key) ∧ Ext Non w1 wr) (fun z _ => nD - (intOf z).toNat)
    case atStart => exact ⟨0, by omega, rfl, fun q hq => by simp at hq, x2⟩
    case round =>
      clear x2
      obtain ⟨i, hi, rfl, hno, x2⟩ := hrel
      obtain ⟨j0, j1, j2⟩ := jc wr x2
      by_cases hlt : i < nD
      · have i1 : (i : Int) < (nD : Int) := by omega
        have hiD : i < R.dn.length := by omega
        obtain ⟨q, hq⟩ : ∃ q, R.dn[i] = q := ⟨_, rfl⟩
        obtain ⟨hA, ldq⟩ := OD.ld i hiD hq
        have htk : R.dn.take (i + 1) = R.dn.take i ++ [q] := by rw [List.take_succ_eq_append_getElem hiD, hq]
        go_upto_region 7 with (fail)
        refine wp_region_seq Non ((0, true) :: (1, true) :: (2, true) :: (3, true) :: (4, true) :: (5, true) :: (6, true) :: (7, true) :: (8, false) :: (9, true) :: []) (by kernel_rfl) (by kernel_rfl) (by kernel_rfl) ?_
        iterate 8 (refine wpSeq_quiet rfl rfl ?_; apply Exists.intro; refine ⟨?_, ?_⟩; (intro W hW; have u0 := (jc W (x2.transN hW.drewL)).2.2; have u1 := ldq W (x2.transN hW.drewL); have u2 := lp W (x2.transN hW.drewL); go_simp; try with_reducible rfl); (intro K hK; simp only [Act.put, List.setIfInBounds_toArray, List.set_cons_zero, List.set_cons_succ]; refine hK _ ?_; clear hK K))
        refine wpSeq_call rfl rfl (fun K hK => ?_)
        go_simp
        have ctr := rof_calls wr.drew q p
        with_reducible refine Calls.mono ctr ?_
        clear ctr
        rintro e w3 ⟨rfl, x3⟩
        go_simp
        refine hK _ _ x3 ?_
        clear hK K
        iterate 1 (refine wpSeq_quiet rfl rfl ?_; apply Exists.intro; refine ⟨?_, ?_⟩; (intro W hW; go_simp; try with_reducible rfl); (intro K hK; simp only [Act.put, List.setIfInBounds_toArray, List.set_cons_zero, List.set_cons_succ]; refine hK _ ?_; clear hK K))
        refine wpSeq_end ?_
        have X3 := x2.transN x3.drewL
        by_cases hqp : q.key = p.key
        · have hd : ∃ q ∈ R.dn, q.key = p.key := ⟨q, by rw [← hq]; exact List.getElem_mem hiD, hqp⟩
          have hrt := HRT.out
          rw [if_pos hd] at hrt
          have s1 := sz w3 X3
          have ff := fin w3 7 X3 hrt
          have mm := mz w3 X3
          rw [decide_eq_true hqp]
          clear fin sz mz HRT
          go_wp2_with fail
          exact bodyPost_ret (results3 mm Try.results21 _ _ _ rfl rfl rfl Try.underlying48 rfl (by kernel_rfl)) rfl ff
        · rw [decide_eq_false hqp]
          go_wp2_with fail
          exact ⟨⟨i + 1, by omega, by go_num, fun r hr => by
            rw [htk] at hr
            rcases List.mem_append.1 hr with hr | hr
            · exact hno r hr
            · rw [List.mem_singleton.1 hr]; exact hqp, X3⟩, by simp [intOf]; omega⟩
      · obtain rfl : nD = i := by omega
        have i1 : ¬ (nD : Int) < (nD : Int) := by omega
        have hd : ¬ ∃ q ∈ R.dn, q.key = p.key := by
          rintro ⟨q, hq, e⟩
          rw [List.take_of_length_le (by omega)] at hno
          exact hno q hq e
        rw [if_neg hd] at HRT
        clear hno hd j0 j1 j2
        have o11 := OwP.made (wr.alloc (.cells #[] 52)) (base := w1.heap.size) (Nat.le_trans x2.size (by rw [World.size_alloc]; omega))
        have o10 := (OwP.made wr (base := w1.heap.size) x2.size).extN ((Ext.refl Non (wr.alloc (.cells #[] 52))).alloc (.cells #[] 52))
        have X := (x2.alloc (.cells #[] 52)).alloc (.cells #[] 52)
        rw [World.size_alloc] at o11
        go_wp2_with fail
        clear x2 hi
        go_loopw [10, 11, 12] (fun s u z wr => ∃ (i : Nat) (A10 : Option Addr) (c10 : Nat) (A11 : Option Addr) (c11 n10 n11 : Nat), i ≤ nL ∧ z = .int .i64 i ∧ s = .slice A10 n10 c10 ∧ u = .slice A11 n11 c11 ∧ (own (R.L.take i) p.key).length = n10 ∧ (oth (R.L.take i) p.key).length = n11 ∧
          OwP wr w1.heap.size A10 c10 (own (R.L.take i) p.key) ∧ OwP wr w1.heap.size A11 c11 (oth (R.L.take i) p.key) ∧ (∀ b, ob A10 = some b → ob A11 ≠ some b) ∧ Ext Non w1 wr) (fun _ _ z _ => nL - (intOf z).toNat)
        case atStart => exact ⟨0, _, _, _, _, _, _, by omega, rfl, rfl, rfl, rfl, rfl, o10, o11, fun b hb h => by
          have hb : wr.heap.size = b := Option.some.inj hb
          have h : wr.heap.size + 1 = b := Option.some.inj h
          omega, X⟩
        case round =>
          clear o10 o11 X
          obtain ⟨i, A10, c10, A11, c11, n10, n11, hi, rfl, rfl, rfl, hn10, hn11, o10, o11, dj, x2⟩ := hrel
          obtain ⟨j0, j1, j2⟩ := jc wr x2
          by_cases hlt : i < nL
          · have i1 : (i : Int) < (nL : Int) := by omega
            have hiL : i < R.L.length := by omega
            obtain ⟨q, hq⟩ : ∃ q, R.L[i] = q := ⟨_, rfl⟩
            obtain ⟨hA, ldq⟩ := OL.ld i hiL hq
            have hown := own_snoc (R.L.take i) q p.key
            have hoth := oth_snoc (R.L.take i) q p.key
            rw [← hq, ← List.take_succ_eq_append_getElem hiL, hq] at hown hoth
            have hn10i : n10 ≤ i := by
              rw [← hn10]
              exact Nat.le_trans (List.length_filter_le _ _) (by rw [List.length_take]; omega)
            have hn11i : n11 ≤ i := by
              rw [← hn11]
              exact Nat.le_trans (List.length_filter_le _ _) (by rw [List.length_take]; omega)
            clear j0 j1 j2
            go_upto_region 15 with (fail)
            refine wp_region_seq Non ((0, true) :: (1, true) :: (2, true) :: (3, true) :: (4, true) :: (5, true) :: (6, true) :: (7, true) :: (8, false) :: (9, true) :: []) (by kernel_rfl) (by kernel_rfl) (by kernel_rfl) ?_
            iterate 8 (refine wpSeq_quiet rfl rfl ?_; apply Exists.intro; refine ⟨?_, ?_⟩; (intro W hW; have u0 := (jc W (x2.transN hW.drewL)).2.1; have u1 := ldq W (x2.transN hW.drewL); have u2 := lp W (x2.transN hW.drewL); go_simp; try with_reducible rfl); (intro K hK; simp only [Act.put, List.setIfInBounds_toArray, List.set_cons_zero, List.set_cons_succ]; refine hK _ ?_; clear hK K))
            refine wpSeq_call rfl rfl (fun K hK => ?_)
            go_simp
            have ctr := rof_calls wr.drew q p
            with_reducible refine Calls.mono ctr ?_
            clear ctr
            rintro e w3 ⟨rfl, x3⟩
            go_simp
            refine hK _ _ x3 ?_
            clear hK K
            iterate 1 (refine wpSeq_quiet rfl rfl ?_; apply Exists.intro; refine ⟨?_, ?_⟩; (intro W hW; go_simp; try with_reducible rfl); (intro K hK; simp only [Act.put, List.setIfInBounds_toArray, List.set_cons_zero, List.set_cons_succ]; refine hK _ ?_; clear hK K))
            refine wpSeq_end ?_
            have X3 := x2.transN x3.drewL
            have Bq := Blk.new w3 52 (rpc q)
            have Y := x3.drewL.alloc (.cells (rpc q) 52)
            have o10' := o10.extN Y
            have o11' := o11.extN Y
            have X4 := x2.transN Y
            have hb4 : w1.heap.size ≤ (w3.alloc (.cells (rpc q) 52)).heap.size := X4.size
            obtain ⟨_, j1, _⟩ := jc w3 X3
            have lq := ldq w3 X3
            have bp := build_p w3 q
            have HN := Lib.hid hn10
            have HM := Lib.hid hn11
            clear x3 Y o10 o11 x2 hn10 hn11
            by_cases hqp : q.key = p.key
            · rw [decide_eq_true hqp]
              rw [if_pos hqp] at hown hoth
              go_wp2_with (at_builtin; refine wp_apP rfl (.tmp 70) (.tmp 78) rfl n10 rfl o10' HN.out 1 rfl Bq (by omega) hb4 ?_; intro A' c' w5 o5 x5 hob)
              have X5 := X4.trans x5 (fun b hb h => by have := (o10'.lt h).1; omega)
              have o11'' := o11'.ext x5 (fun b hb h => dj b h hb)
              rw [← hown] at o5
              rw [← hoth] at o11''
              refine ⟨⟨i + 1, A', c', A11, c11, n10 + 1, n11, by omega, by go_num, rfl, rfl, by rw [hown, List.length_append, HN.out]; rfl, by rw [hoth]; exact HM.out, o5, o11'', fun b hb h => ?_, X5⟩, by simp [intOf]; omega⟩
              rcases hob with e | e
              · exact dj b (by rw [← e]; exact hb) h
              · rw [e] at hb
                have hb := Option.some.inj hb
                have := (o11'.lt h).2
                omega
            · rw [decide_eq_false hqp]
              rw [if_neg hqp] at hown hoth
              go_wp2_with (at_builtin; refine wp_apP rfl (.tmp 80) (.tmp 88) rfl n11 rfl o11' HM.out 1 rfl Bq (by omega) hb4 ?_; intro A' c' w5 o5 x5 hob)
              have X5 := X4.trans x5 (fun b hb h => by have := (o11'.lt h).1; omega)
              have o10'' := o10'.ext x5 (fun b hb h => dj b hb h)
              rw [← hoth] at o5
              rw [← hown] at o10''
              refine ⟨⟨i + 1, A10, c10, A', c', n10, n11 + 1, by omega, by go_num, rfl, rfl, by rw [hown]; exact HN.out, by rw [hoth, List.length_append, HM.out]; rfl, o10'', o5, fun b hb h => ?_, X5⟩, by simp [intOf]; omega⟩
              rcases hob with e | e
              · exact dj b hb (by rw [← e]; exact h)
              · rw [e] at h
                have h := Option.some.inj h
                have := (o10'.lt hb).2
                omega
          · obtain rfl : nL = i := by omega
            have i1 : ¬ (nL : Int) < (nL : Int) := by omega
            have hall : R.L.take nL = R.L := List.take_of_length_le (by omega)
            rw [hall] at hn10 hn11 o10 o11
            have hn10i : n10 ≤ nL := by
              rw [← hn10, ← hnL]
              exact List.length_filter_le _ _
            clear hall j0 j1 j2 i1 hlt hi
            obtain ⟨ow, how⟩ : ∃ x, own R.L p.key = x := ⟨_, rfl⟩
            obtain ⟨ot, hot⟩ : ∃ x, oth R.L p.key = x := ⟨_, rfl⟩
            obtain ⟨m, hm⟩ : ∃ x, (opnOf R.L).length = x := ⟨_, rfl⟩
            rw [how] at hn10 o10 HRT
            rw [hot] at hn11 o11 HRT
            rw [hm] at HRT
            have hm200 : m ≤ 200 := by
              have := opn_le R.L
              omega
            have ow0 : ow = [] ↔ n10 = 0 := by rw [← hn10, List.length_eq_zero_iff]
            have HD1 := H1.extN x2.drew
            have HN := Lib.hid hn10
            have HM := Lib.hid hn11
            have HOW := Lib.hid how
            have HOT := Lib.hid hot
            clear hn10 hn11 how hot
            go_upto_region 19 with (fail)
            go_cut [107] (fun s wc => s = .bool (decide (ow = [] ∧ 1 < p.count ∧ max R.room 1 ≤ (m : Int))) ∧ Ext Non wr wc)
            case first =>
              as_aux_lemma =>
              by_cases h0 : n10 = 0
              · have i0 : ((n10 : Int) == 0) = true := by rw [h0]; rfl
                by_cases h1 : 1 < p.count
                · have hx : decide (ow = [] ∧ 1 < p.count ∧ max R.room 1 ≤ (m : Int)) = decide (max R.room 1 ≤ (m : Int)) := by
                    rw [Bool.eq_iff_iff, decide_eq_true_eq, decide_eq_true_eq]
                    exact ⟨fun h => h.2.2, fun h => ⟨ow0.2 h0, h1, h⟩⟩
                  have hro : (R.room < 1 ∧ max R.room 1 = 1) ∨ (¬ R.room < 1 ∧ max R.room 1 = R.room) := by omega
                  rcases hro with ⟨hr1, hr2⟩ | ⟨hr1, hr2⟩
                  all_goals
                    have hx2 := hx.trans (congrArg (fun x : Int => decide (x ≤ (m : Int))) hr2)
                    have HX := Lib.hid hx2
                    clear hx hx2 h0 ow0 hr2
                    refine wp_region_seq Non ((0, true) :: (1, true) :: (2, true) :: (3, true) :: (4, true) :: (5, true) :: (6, true) :: (7, true) :: (8, true) :: (9, true) :: (11, true) :: (12, true) :: (13, true) :: (14, true) :: (15, true) :: (10, false) :: (16, true) :: (17, true) :: []) (by kernel_rfl) (by kernel_rfl) (by kernel_rfl) ?_
                    iterate 15 (refine wpSeq_quiet rfl rfl ?_; apply Exists.intro; refine ⟨?_, ?_⟩; (intro W hW; have u0 := (pc W (x2.transN hW.drewL)).2.2.1; have u1 := (jc W (x2.transN hW.drewL)).1; go_simp; try with_reducible rfl); (intro K hK; simp only [Act.put, List.setIfInBounds_toArray, List.set_cons_zero, List.set_cons_succ]; refine hK _ ?_; clear hK K))
                    refine wpSeq_call rfl rfl (fun K hK => ?_)
                    go_simp
                    have ctr := rlen_calls HD1 _ hnL (by omega) m hm
                    with_reducible refine Calls.mono ctr ?_
                    clear ctr
                    rintro e w3 ⟨rfl, x3⟩
                    go_simp
                    refine hK _ _ x3 ?_
                    clear hK K
                    iterate 2 (refine wpSeq_quiet rfl rfl ?_; apply Exists.intro; refine ⟨?_, ?_⟩; (intro W hW; go_simp; try with_reducible rfl); (intro K hK; simp only [Act.put, List.setIfInBounds_toArray, List.set_cons_zero, List.set_cons_succ]; refine hK _ ?_; clear hK K))
                    refine wpSeq_end ?_
                    have Y := x3.drewL
                    go_wp2_with fail
                    go_meet
                    case rel => exact ⟨by rw [HX.out], Y⟩
                · have hx : decide (ow = [] ∧ 1 < p.count ∧ max R.room 1 ≤ (m : Int)) = false := decide_eq_false fun h => h1 h.2.1
                  have HX := Lib.hid hx
                  clear hx h0 ow0
                  refine wp_region_seq Non ((0, true) :: (1, true) :: (2, true) :: (3, true) :: (4, true) :: (5, true) :: (6, true) :: (7, true) :: (8, true) :: (9, true) :: (11, true) :: (12, true) :: (13, true) :: (14, true) :: (15, true) :: (10, false) :: (16, true) :: (17, true) :: []) (by kernel_rfl) (by kernel_rfl) (by kernel_rfl) ?_
                  iterate 9 (refine wpSeq_quiet rfl rfl ?_; apply Exists.intro; refine ⟨?_, ?_⟩; (intro W hW; have u0 := (pc W (x2.transN hW.drewL)).2.2.1; go_simp; try with_reducible rfl); (intro K hK; simp only [Act.put, List.setIfInBounds_toArray, List.set_cons_zero, List.set_cons_succ]; refine hK _ ?_; clear hK K))
                  iterate 6 (refine wpSeq_skip rfl rfl (fun K hK => ?_); simp only [Act.put, List.setIfInBounds_toArray, List.set_cons_zero, List.set_cons_succ]; refine hK _ ?_; clear hK K)
                  iterate 1 (refine wpSeq_pass rfl rfl (fun K hK => ?_); simp only [Act.put, List.setIfInBounds_toArray, List.set_cons_zero, List.set_cons_succ]; refine hK _ ?_; clear hK K)
                  iterate 1 (refine wpSeq_skip rfl rfl (fun K hK => ?_); simp only [Act.put, List.setIfInBounds_toArray, List.set_cons_zero, List.set_cons_succ]; refine hK _ ?_; clear hK K)
                  iterate 1 (refine wpSeq_quiet rfl rfl ?_; apply Exists.intro; refine ⟨?_, ?_⟩; (intro W hW; go_simp; try with_reducible rfl); (intro K hK; simp only [Act.put, List.setIfInBounds_toArray, List.set_cons_zero, List.set_cons_succ]; refine hK _ ?_; clear hK K))
                  refine wpSeq_end ?_
                  go_wp2_with fail
                  go_meet
                  case rel => exact ⟨by rw [HX.out], (Ext.refl Non wr).drew⟩
              · have i0 : ((n10 : Int) == 0) = false := by rw [beq_eq_false_iff_ne]; omega
                have hx : decide (ow = [] ∧ 1 < p.count ∧ max R.room 1 ≤ (m : Int)) = false := decide_eq_false fun h => h0 (ow0.1 h.1)
                have HX := Lib.hid hx
                clear hx h0 ow0
                refine wp_region_seq Non ((0, true) :: (1, true) :: (2, true) :: (3, true) :: (4, true) :: (5, true) :: (6, true) :: (7, true) :: (8, true) :: (9, true) :: (11, true) :: (12, true) :: (13, true) :: (14, true) :: (15, true) :: (10, false) :: (16, true) :: (17, true) :: []) (by kernel_rfl) (by kernel_rfl) (by kernel_rfl) ?_
                iterate 4 (refine wpSeq_quiet rfl rfl ?_; apply Exists.intro; refine ⟨?_, ?_⟩; (intro W hW; go_simp; try with_reducible rfl); (intro K hK; simp only [Act.put, List.setIfInBounds_toArray, List.set_cons_zero, List.set_cons_succ]; refine hK _ ?_; clear hK K))
                iterate 3 (refine wpSeq_skip rfl rfl (fun K hK => ?_); simp only [Act.put, List.setIfInBounds_toArray, List.set_cons_zero, List.set_cons_succ]; refine hK _ ?_; clear hK K)
                iterate 2 (refine wpSeq_quiet rfl rfl ?_; apply Exists.intro; refine ⟨?_, ?_⟩; (intro W hW; go_simp; try with_reducible rfl); (intro K hK; simp only [Act.put, List.setIfInBounds_toArray, List.set_cons_zero, List.set_cons_succ]; refine hK _ ?_; clear hK K))
                iterate 6 (refine wpSeq_skip rfl rfl (fun K hK => ?_); simp only [Act.put, List.setIfInBounds_toArray, List.set_cons_zero, List.set_cons_succ]; refine hK _ ?_; clear hK K)
                iterate 1 (refine wpSeq_pass rfl rfl (fun K hK => ?_); simp only [Act.put, List.setIfInBounds_toArray, List.set_cons_zero, List.set_cons_succ]; refine hK _ ?_; clear hK K)
                iterate 1 (refine wpSeq_skip rfl rfl (fun K hK => ?_); simp only [Act.put, List.setIfInBounds_toArray, List.set_cons_zero, List.set_cons_succ]; refine hK _ ?_; clear hK K)
                iterate 1 (refine wpSeq_quiet rfl rfl ?_; apply Exists.intro; refine ⟨?_, ?_⟩; (intro W hW; go_simp; try with_reducible rfl); (intro K hK; simp only [Act.put, List.setIfInBounds_toArray, List.set_cons_zero, List.set_cons_succ]; refine hK _ ?_; clear hK K))
                refine wpSeq_end ?_
                go_wp2_with fail
                go_meet
                case rel => exact ⟨by rw [HX.out], (Ext.refl Non wr).drew⟩
            case rest =>
              obtain ⟨rfl, Y⟩ := hcut
              generalize wc = w5 at *
              have p10 := o10.extN Y
              have p11 := o11.extN Y
              have X5 := x2.transN Y
              clear HD1 o10 o11 x2 Y
              by_cases hf : ow = [] ∧ 1 < p.count ∧ max R.room 1 ≤ (m : Int)
              · rw [decide_eq_true hf]
                have hrt := HRT.out
                rw [if_pos hf] at hrt
                have s1 := sz w5 X5
                have ff := fin w5 8 X5 hrt
                have mm := mz w5 X5
                clear fin sz mz HRT
                go_wp2_with fail
                exact bodyPost_ret (results3 mm Try.results21 _ _ _ rfl rfl rfl Try.underlying48 rfl (by kernel_rfl)) rfl ff
              · rw [decide_eq_false hf]
                rw [if_neg hf] at HRT
                clear hf hm200 ow0
                go_wp2_with fail
                go_loopw [14, 15] (fun s z wr => ∃ i : Nat, i ≤ n10 ∧ z = .int .i64 i ∧ s = .bool (decide (thr (ow.take i) p)) ∧ ¬ bad (ow.take i) p ∧ OwP wr w1.heap.size A10 c10 ow ∧ OwP wr w1.heap.size A11 c11 ot ∧ Ext Non w1 wr) (fun _ z _ => n10 - (intOf z).toNat)
                case atStart => exact ⟨0, by omega, rfl, by rw [decide_eq_false]; rintro ⟨q, hq, _⟩; simp at hq, by rintro ⟨q, hq, _⟩; simp at hq, p10, p11, X5⟩
                case round =>
                  clear p10 p11 X5
                  obtain ⟨i, hi, rfl, rfl, hnb, p10, p11, x2⟩ := hrel
                  by_cases hlt : i < n10
                  · have i1 : (i : Int) < (n10 : Int) := by omega
                    have hiO : i < ow.length := by rw [HN.out]; exact hlt
                    obtain ⟨q, hq⟩ : ∃ q, ow[i] = q := ⟨_, rfl⟩
                    have hqm : q ∈ ow := by rw [← hq]; exact List.getElem_mem hiO
                    obtain ⟨hA, g, o, ha, hob, hcq⟩ := OwP.at_ p10 i hiO
                    rw [hq] at hcq
                    have hgw : ∀ W, Ext Non wr W → W.cell? ⟨g, o + 4, none⟩ = some (.int .i64 q.place) ∧ W.cell? ⟨g, o + 5, none⟩ = some (.int .i64 q.count) ∧ W.cell? ⟨g, o + 6, none⟩ = some (.string (str q.b)) := fun W x =>
                      ⟨x.cell (hcq 4 _ rfl) (fun h => h), x.cell (hcq 5 _ rfl) (fun h => h), x.cell (hcq 6 _ rfl) (fun h => h)⟩
                    have htk : ow.take (i + 1) = ow.take i ++ [q] := by rw [List.take_succ_eq_append_getElem hiO, hq]
                    have hsz : (str p.b).toList = p.b := str_toList _
                    have hsq : (str q.b).toList = q.b := str_toList _
                    clear hcq hob hq
                    go_upto_region 25 with (fail)
                    go_cut [142] (fun s wc => s = .bool (decide (q.count ≠ p.count ∨ (q.place = p.place ∧ q.b ≠ p.b))) ∧ Ext Non wr wc)
                    case first =>
                      as_aux_lemma =>
                      by_cases h1 : q.count = p.count
                      · by_cases h2 : q.place = p.place
                        · have hx : decide (q.count ≠ p.count ∨ (q.place = p.place ∧ q.b ≠ p.b)) = !(q.b == p.b) := by
                            rw [Bool.eq_iff_iff]
                            simp [h1, h2]
                          have HX := Lib.hid hx
                          clear hx
                          refine wp_region_seq Non ((0, true) :: (1, true) :: (2, true) :: (3, true) :: (4, true) :: (5, true) :: (6, true) :: (7, true) :: (8, true) :: (9, true) :: (10, true) :: (11, true) :: (12, true) :: (13, true) :: (14, true) :: (15, true) :: (16, true) :: (17, true) :: (18, true) :: (19, true) :: (20, true) :: (21, true) :: (22, true) :: (23, true) :: (24, true) :: (25, true) :: (26, true) :: (27, true) :: []) (by kernel_rfl) (by kernel_rfl) (by kernel_rfl) ?_
                          iterate 28 (refine wpSeq_quiet rfl rfl ?_; apply Exists.intro; refine ⟨?_, ?_⟩; (intro W hW; have u0 := pc W (x2.transN hW.drewL); have u1 := hgw W hW.drewL; obtain ⟨_, e4, e5, e6⟩ := u0; obtain ⟨d4, d5, d6⟩ := u1; go_simp; try with_reducible rfl); (intro K hK; simp only [Act.put, List.setIfInBounds_toArray, List.set_cons_zero, List.set_cons_succ]; refine hK _ ?_; clear hK K))
                          refine wpSeq_end ?_
                          go_wp2_with fail
                          go_meet
                          case rel => exact ⟨by rw [HX.out], (Ext.refl Non wr).drew⟩
                        · have h2' : (q.place == p.place) = false := beq_eq_false_iff_ne.2 h2
                          have hx : decide (q.count ≠ p.count ∨ (q.place = p.place ∧ q.b ≠ p.b)) = false := decide_eq_false fun h => h.elim (fun h => h h1) (fun h => h2 h.1)
                          have HX := Lib.hid hx
                          clear hx h2
                          refine wp_region_seq Non ((0, true) :: (1, true) :: (2, true) :: (3, true) :: (4, true) :: (5, true) :: (6, true) :: (7, true) :: (8, true) :: (9, true) :: (10, true) :: (11, true) :: (12, true) :: (13, true) :: (14, true) :: (15, true) :: (16, true) :: (17, true) :: (18, true) :: (19, true) :: (20, true) :: (21, true) :: (22, true) :: (23, true) :: (24, true) :: (25, true) :: (26, true) :: (27, true) :: []) (by kernel_rfl) (by kernel_rfl) (by kernel_rfl) ?_
                          iterate 18 (refine wpSeq_quiet rfl rfl ?_; apply Exists.intro; refine ⟨?_, ?_⟩; (intro W hW; have u0 := pc W (x2.transN hW.drewL); have u1 := hgw W hW.drewL; obtain ⟨_, e4, e5, e6⟩ := u0; obtain ⟨d4, d5, d6⟩ := u1; go_simp; try with_reducible rfl); (intro K hK; simp only [Act.put, List.setIfInBounds_toArray, List.set_cons_zero, List.set_cons_succ]; refine hK _ ?_; clear hK K))
                          iterate 8 (refine wpSeq_skip rfl rfl (fun K hK => ?_); simp only [Act.put, List.setIfInBounds_toArray, List.set_cons_zero, List.set_cons_succ]; refine hK _ ?_; clear hK K)
                          iterate 2 (refine wpSeq_quiet rfl rfl ?_; apply Exists.intro; refine ⟨?_, ?_⟩; (intro W hW; go_simp; try with_reducible rfl); (intro K hK; simp only [Act.put, List.setIfInBounds_toArray, List.set_cons_zero, List.set_cons_succ]; refine hK _ ?_; clear hK K))
                          refine wpSeq_end ?_
                          go_wp2_with fail
                          go_meet
                          case rel => exact ⟨by rw [HX.out], (Ext.refl Non wr).drew⟩
                      · have h1a : (q.count == p.count) = false := beq_eq_false_iff_ne.2 h1
                        have h1b : (!(q.count == p.count)) = true := by rw [h1a]; rfl
                        have h1c : (q.count != p.count) = true := bne_iff_ne.2 h1
                        have hx : decide (q.count ≠ p.count ∨ (q.place = p.place ∧ q.b ≠ p.b)) = true := decide_eq_true (.inl h1)
                        have HX := Lib.hid hx
                        clear hx
                        refine wp_region_seq Non ((0, true) :: (1, true) :: (2, true) :: (3, true) :: (4, true) :: (5, true) :: (6, true) :: (7, true) :: (8, true) :: (9, true) :: (10, true) :: (11, true) :: (12, true) :: (13, true) :: (14, true) :: (15, true) :: (16, true) :: (17, true) :: (18, true) :: (19, true) :: (20, true) :: (21, true) :: (22, true) :: (23, true) :: (24, true) :: (25, true) :: (26, true) :: (27, true) :: []) (by kernel_rfl) (by kernel_rfl) (by kernel_rfl) ?_
                        iterate 9 (refine wpSeq_quiet rfl rfl ?_; apply Exists.intro; refine ⟨?_, ?_⟩; (intro W hW; have u0 := pc W (x2.transN hW.drewL); have u1 := hgw W hW.drewL; obtain ⟨_, e4, e5, e6⟩ := u0; obtain ⟨d4, d5, d6⟩ := u1; go_simp; try with_reducible rfl); (intro K hK; simp only [Act.put, List.setIfInBounds_toArray, List.set_cons_zero, List.set_cons_succ]; refine hK _ ?_; clear hK K))
                        iterate 9 (refine wpSeq_skip rfl rfl (fun K hK => ?_); simp only [Act.put, List.setIfInBounds_toArray, List.set_cons_zero, List.set_cons_succ]; refine hK _ ?_; clear hK K)
                        iterate 8 (refine wpSeq_skip rfl rfl (fun K hK => ?_); simp only [Act.put, List.setIfInBounds_toArray, List.set_cons_zero, List.set_cons_succ]; refine hK _ ?_; clear hK K)
                        iterate 1 (refine wpSeq_skip rfl rfl (fun K hK => ?_); simp only [Act.put, List.setIfInBounds_toArray, List.set_cons_zero, List.set_cons_succ]; refine hK _ ?_; clear hK K)
                        iterate 1 (refine wpSeq_quiet rfl rfl ?_; apply Exists.intro; refine ⟨?_, ?_⟩; (intro W hW; go_simp; try with_reducible rfl); (intro K hK; simp only [Act.put, List.setIfInBounds_toArray, List.set_cons_zero, List.set_cons_succ]; refine hK _ ?_; clear hK K))
                        refine wpSeq_end ?_
                        go_wp2_with fail
                        go_meet
                        case rel => exact ⟨by rw [HX.out], (Ext.refl Non wr).drew⟩
                    case rest =>
                      obtain ⟨rfl, Y⟩ := hcut
                      generalize wc = w6 at *
                      have X6 := x2.transN Y
                      have p10 := p10.extN Y
                      have p11 := p11.extN Y
                      by_cases hbd : q.count ≠ p.count ∨ (q.place = p.place ∧ q.b ≠ p.b)
                      · have hbb : bad ow p := ⟨q, hqm, hbd⟩
                        have hrt := HRT.out
                        rw [if_pos hbb] at hrt
                        have s1 := sz w6 X6
                        have ff := fin w6 3 X6 hrt
                        have mm := mz w6 X6
                        rw [decide_eq_true hbd]
                        clear fin sz mz HRT hbd hbb
                        go_wp2_with fail
                        exact bodyPost_ret (results3 mm Try.results21 _ _ _ rfl rfl rfl Try.underlying48 rfl (by kernel_rfl)) rfl ff
                      · rw [decide_eq_false hbd]
                        have hnb' : ¬ bad (ow.take (i + 1)) p := by
                          rw [htk]
                          rintro ⟨r, hr, h⟩
                          rcases List.mem_append.1 hr with hr | hr
                          · exact hnb ⟨r, hr, h⟩
                          · rw [List.mem_singleton.1 hr] at h
                            exact hbd h
                        have htr : decide (thr (ow.take (i + 1)) p) = (decide (thr (ow.take i) p) || (q.place == p.place)) := by
                          rw [htk, Bool.eq_iff_iff, decide_eq_true_eq, Bool.or_eq_true, decide_eq_true_eq, beq_iff_eq]
                          constructor
                          · rintro ⟨r, hr, h⟩
                            rcases List.mem_append.1 hr with hr | hr
                            · exact .inl ⟨r, hr, h⟩
                            · rw [List.mem_singleton.1 hr] at h
                              exact .inr h
                          · rintro (⟨r, hr, h⟩ | h)
                            · exact ⟨r, List.mem_append_left _ hr, h⟩
                            · exact ⟨q, List.mem_append_right _ List.mem_cons_self, h⟩
                        have HTR := Lib.hid htr
                        clear htr hbd hnb htk
                        generalize decide (thr (ow.take i) p) = th at *
                        obtain ⟨tq, htq⟩ : ∃ x, (q.place == p.place) = x := ⟨_, rfl⟩
                        rw [htq] at HTR
                        go_upto_region 27 with (fail)
                        cases th
                        · refine wp_region_seq Non ((0, true) :: (1, true) :: (2, true) :: (3, true) :: (4, true) :: (5, true) :: (6, true) :: (7, true) :: (8, true) :: (9, true) :: (10, true) :: (11, true) :: []) (by kernel_rfl) (by kernel_rfl) (by kernel_rfl) ?_
                          iterate 12 (refine wpSeq_quiet rfl rfl ?_; apply Exists.intro; refine ⟨?_, ?_⟩; (intro W hW; have u0 := pc W (X6.transN hW.drewL); have u1 := hgw W (Y.transN hW.drewL); obtain ⟨_, e4, e5, e6⟩ := u0; obtain ⟨d4, d5, d6⟩ := u1; go_simp; try with_reducible rfl); (intro K hK; simp only [Act.put, List.setIfInBounds_toArray, List.set_cons_zero, List.set_cons_succ]; refine hK _ ?_; clear hK K))
                          refine wpSeq_end ?_
                          go_wp2_with fail
                          exact ⟨⟨i + 1, by omega, by go_num, by rw [HTR.out]; rfl, hnb', p10.extN (Ext.refl Non w6).drew, p11.extN (Ext.refl Non w6).drew, X6.drew⟩, by simp [intOf]; omega⟩
                        · refine wp_region_seq Non ((0, true) :: (1, true) :: (2, true) :: (3, true) :: (4, true) :: (5, true) :: (6, true) :: (7, true) :: (8, true) :: (9, true) :: (10, true) :: (11, true) :: []) (by kernel_rfl) (by kernel_rfl) (by kernel_rfl) ?_
                          iterate 2 (refine wpSeq_quiet rfl rfl ?_; apply Exists.intro; refine ⟨?_, ?_⟩; (intro W hW; go_simp; try with_reducible rfl); (intro K hK; simp only [Act.put, List.setIfInBounds_toArray, List.set_cons_zero, List.set_cons_succ]; refine hK _ ?_; clear hK K))
                          iterate 8 (refine wpSeq_skip rfl rfl (fun K hK => ?_); simp only [Act.put, List.setIfInBounds_toArray, List.set_cons_zero, List.set_cons_succ]; refine hK _ ?_; clear hK K)
                          iterate 2 (refine wpSeq_quiet rfl rfl ?_; apply Exists.intro; refine ⟨?_, ?_⟩; (intro W hW; go_simp; try with_reducible rfl); (intro K hK; simp only [Act.put, List.setIfInBounds_toArray, List.set_cons_zero, List.set_cons_succ]; refine hK _ ?_; clear hK K))
                          refine wpSeq_end ?_
                          go_wp2_with fail
                          exact ⟨⟨i + 1, by omega, by go_num, by rw [HTR.out]; rfl, hnb', p10.extN (Ext.refl Non w6).drew, p11.extN (Ext.refl Non w6).drew, X6.drew⟩, by simp [intOf]; omega⟩
                  · obtain rfl : n10 = i := by omega
                    have i1 : ¬ (n10 : Int) < (n10 : Int) := by omega
                    have hall : ow.take n10 = ow := List.take_of_length_le (by rw [HN.out]; exact Nat.le_refl _)
                    rw [hall] at hnb
                    rw [if_neg hnb] at HRT
                    rw [hall]
                    clear hall hnb
                    by_cases ht : thr ow p
                    · rw [decide_eq_true ht]
                      have hrt := HRT.out
                      rw [if_pos ht] at hrt
                      have s1 := sz wr x2
                      have ff := fin wr 7 x2 hrt
                      have mm := mz wr x2
                      clear fin sz mz HRT hrt
                      go_wp2_with fail
                      exact bodyPost_ret (results3 mm Try.results21 _ _ _ rfl rfl rfl Try.underlying48 rfl (by kernel_rfl)) rfl (by first | exact ff | (obtain ⟨D', f1, f2⟩ := ff; exact ⟨f1, D', f2⟩))
                    · rw [decide_eq_false ht]
                      rw [if_neg ht] at HRT
                      have Bp := Blk.new wr 52 (rpc p)
                      have Y := (Ext.refl Non wr).alloc (.cells (rpc p) 52)
                      have q10 := p10.extN Y
                      have q11 := p11.extN Y
                      have X4 := x2.transN Y
                      have hb4 : w1.heap.size ≤ (wr.alloc (.cells (rpc p) 52)).heap.size := X4.size
                      have l1 := lp wr x2
                      have bp := build_p wr p
                      clear ht fin i1 p10 p11 Y
                      go_upto_region 30 with (fail)
                      go_upto_region 31 with (at_builtin; refine wp_apP rfl (.tmp 157) (.tmp 159) rfl n10 rfl q10 HN.out 1 rfl Bp (by omega) hb4 ?_; intro A' c' w5 o5 x5 hob5)
                      have X5 := X4.trans x5 (fun b hb h => by have := (q10.lt h).1; omega)
                      have o11 := q11.ext x5 (fun b hb h => dj b h hb)
                      clear l1 bp q10 q11 X4 hb4 Bp x5 x2 dj
                      have HRT' := HRT.out
                      rw [HN.out] at HRT'
                      have HRU := Lib.hid HRT'
                      clear HRT' HRT
                      obtain ⟨_, _, k5, _⟩ := pc w5 X5
                      by_cases hc : (n10 : Int) + 1 < p.count
                      · have hrt := HRU.out
                        rw [if_pos hc] at hrt
                        have B05 := B0.extN_ X5
                        have BJ5 := BJ.extN_ X5
                        have OL5 := OwO.extN OL X5
                        have M5 := M0.extN_ X5
                        have HRV := Lib.hid hrt
                        clear hrt HRU HOW HOT
                        go_upto_region 32 with (fail)
                        go_cut [166] (fun s wc => ∃ (U : World) (A : Option Addr) (c : Nat), Ext (fun k => w5.heap.size ≤ k) w5 U ∧ OwP U w5.heap.size A c (R.L ++ [p]) ∧ wc = U.setCell ⟨j, 1, none⟩ (.slice A (nL + 1) c))
                        case first =>
                          as_aux_lemma =>
                          refine wp_region_treeN (fun W => Ext (fun k => w5.heap.size ≤ k) w5 W) 10 (.q 0 (.q 2 (.q 3 (.q 4 (.q 5 (.q 7 (.b 1 (.b 6 (.c 8 (.c 9 .stop)) 8 (.c 6 (.c 9 .stop))) 8 (.c 1 (.c 6 (.c 9 .stop)))))))))) [(10, true), (11, true), (12, false)] (by kernel_rfl) (by kernel_rfl) (by kernel_rfl) (by kernel_rfl) (Ext.refl _ w5).drew ?_
                          have hj5 : j < w5.heap.size := BJ5.lt
                          have hg5 : w.heap.size < w5.heap.size := B05.lt
                          have lpz : ∀ W, Ext (fun k => w5.heap.size ≤ k) w5 W → (bigLoad 52 (.pointer (some ⟨w.heap.size, 0, none⟩))).run Try.prog W = .ok (.agg (rpc p)) W := fun W x => (B05.ext x (fun h => by have h : w5.heap.size ≤ w.heap.size := h; omega)).big_load Try.underlying52 rfl (by kernel_rfl)
                          have jcz : ∀ W, Ext (fun k => w5.heap.size ≤ k) w5 W → W.cell? ⟨j, 1, none⟩ = some (.slice AL nL cL) := fun W x => (BJ5.ext x (fun h => by have h : w5.heap.size ≤ j := h; omega)).cell 1
                          iterate 6 (refine wpTreeE_quiet rfl rfl ?_; apply Exists.intro; refine ⟨?_, ?_⟩; (intro W hW; have u0 := jcz W hW; have u1 := lpz W hW; go_simp; try with_reducible rfl); (intro K hK; simp only [Act.put, List.setIfInBounds_toArray, List.set_cons_zero, List.set_cons_succ]; refine hK _ ?_; clear hK K))
                          have Xd : Ext (fun k => w5.heap.size ≤ k) w5 w5.drew := (Ext.refl _ w5).drew
                          have hvd : w5.heap.size = w5.drew.heap.size := rfl
                          generalize w5.drew = v at *
                          refine wpTreeE_both rfl rfl rfl rfl ?_ ?_
                          · intro K hK
                            go_simp
                            refine hK _ _ (Xd.alloc (.cells #[] 52)) ?_
                            clear hK K
                            have X1 := Xd.alloc (.cells #[] 52)
                            have o1 := OwP.made v (base := w5.heap.size) (by rw [hvd]; exact Nat.le_refl _)
                            refine wpTreeE_both rfl rfl rfl rfl ?_ ?_
                            · intro K hK
                              obtain ⟨A6, c6, u6, hrun6, o6, X6⟩ := src_ap OL5 X1 o1 nL hnL (by omega)
                              refine op_app (.tmp 167) (.tmp 171) rfl rfl rfl hrun6 ?_
                              simp only [Act.put, List.setIfInBounds_toArray, List.set_cons_zero, List.set_cons_succ]
                              refine hK _ _ X6 ?_
                              clear hK K
                              refine wpTreeE_call rfl rfl (fun K hK => ?_)
                              have bp := build_p u6 p
                              go_simp
                              refine hK _ _ (X6.alloc (.cells (rpc p) 52)) ?_
                              clear hK K
                              obtain ⟨A9, c9, u9, hrun9, o9, X9⟩ := one_ap (X6.alloc (.cells (rpc p) 52)) (OwO.extN o6 ((Ext.refl Non u6).alloc (.cells (rpc p) 52))) (Blk.new u6 52 (rpc p)) nL hnL (by omega)
                              refine wpTreeE_call rfl rfl (fun K hK => ?_)
                              refine op_app (.tmp 172) (.tmp 174) rfl rfl rfl hrun9 ?_
                              simp only [Act.put, List.setIfInBounds_toArray, List.set_cons_zero, List.set_cons_succ]
                              refine hK _ _ X9 ?_
                              clear hK K
                              refine wpTreeE_end ?_
                              have cJ : u9.cell? ⟨j, 1, none⟩ = some (.slice AL nL cL) := (BJ5.ext X9 (fun h => by have h : w5.heap.size ≤ j := h; omega)).cell 1
                              have fJ := (BJ5.ext X9 (fun h => by have h : w5.heap.size ≤ j := h; omega)).frozen 1
                              iterate 2 (refine wpSeqP_quiet rfl rfl ?_; apply Exists.intro; refine ⟨?_, ?_⟩; (intro W hW; go_simp; try with_reducible rfl); (intro K hK; simp only [Act.put, List.setIfInBounds_toArray, List.set_cons_zero, List.set_cons_succ]; refine hK _ ?_; clear hK K))
                              refine wpSeqP_call rfl rfl (fun K hK => ?_)
                              go_simp
                              refine hK _ _ trivial ?_
                              clear hK K cJ fJ
                              refine wpSeqP_end ?_
                              go_wp2_with fail
                              go_meet
                              case rel => exact ⟨u9, _, _, X9, o9, rfl⟩
                            · intro K hK
                              have bp := build_p (v.alloc (.cells #[] 52)) p
                              go_simp
                              refine hK _ _ (X1.alloc (.cells (rpc p) 52)) ?_
                              clear hK K
                              have Bp := Blk.new (v.alloc (.cells #[] 52)) 52 (rpc p)
                              have o2 := OwO.extN o1 ((Ext.refl Non (v.alloc (.cells #[] 52))).alloc (.cells (rpc p) 52))
                              obtain ⟨A6, c6, u6, hrun6, o6, X6, B6⟩ := src_ap1 OL5 (X1.alloc (.cells (rpc p) 52)) o2 Bp (fun h => by have h : v.heap.size = (v.alloc (.cells #[] 52)).heap.size := Option.some.inj h; rw [World.size_alloc] at h; omega) nL hnL (by omega)
                              simp only [World.size_alloc] at B6
                              refine wpTreeE_call rfl rfl (fun K hK => ?_)
                              refine op_app (.tmp 167) (.tmp 171) rfl rfl rfl hrun6 ?_
                              simp only [Act.put, List.setIfInBounds_toArray, List.set_cons_zero, List.set_cons_succ]
                              refine hK _ _ X6 ?_
                              clear hK K
                              obtain ⟨A9, c9, u9, hrun9, o9, X9⟩ := one_ap X6 o6 B6 nL hnL (by omega)
                              refine wpTreeE_call rfl rfl (fun K hK => ?_)
                              refine op_app (.tmp 172) (.tmp 174) rfl rfl rfl hrun9 ?_
                              simp only [Act.put, List.setIfInBounds_toArray, List.set_cons_zero, List.set_cons_succ]
                              refine hK _ _ X9 ?_
                              clear hK K
                              refine wpTreeE_end ?_
                              have cJ : u9.cell? ⟨j, 1, none⟩ = some (.slice AL nL cL) := (BJ5.ext X9 (fun h => by have h : w5.heap.size ≤ j := h; omega)).cell 1
                              have fJ := (BJ5.ext X9 (fun h => by have h : w5.heap.size ≤ j := h; omega)).frozen 1
                              iterate 2 (refine wpSeqP_quiet rfl rfl ?_; apply Exists.intro; refine ⟨?_, ?_⟩; (intro W hW; go_simp; try with_reducible rfl); (intro K hK; simp only [Act.put, List.setIfInBounds_toArray, List.set_cons_zero, List.set_cons_succ]; refine hK _ ?_; clear hK K))
                              refine wpSeqP_call rfl rfl (fun K hK => ?_)
                              go_simp
                              refine hK _ _ trivial ?_
                              clear hK K cJ fJ
                              refine wpSeqP_end ?_
                              go_wp2_with fail
                              go_meet
                              case rel => exact ⟨u9, _, _, X9, o9, rfl⟩
                          · intro K hK
                            have bp := build_p v p
                            go_simp
                            refine hK _ _ (Xd.alloc (.cells (rpc p) 52)) ?_
                            clear hK K
                            refine wpTreeE_call rfl rfl (fun K hK => ?_)
                            go_simp
                            refine hK _ _ ((Xd.alloc (.cells (rpc p) 52)).alloc (.cells #[] 52)) ?_
                            clear hK K
                            have X1 := (Xd.alloc (.cells (rpc p) 52)).alloc (.cells #[] 52)
                            have o1 := OwP.made (v.alloc (.cells (rpc p) 52)) (base := w5.heap.size) (Xd.alloc (.cells (rpc p) 52)).size
                            have Bp := (Blk.new v 52 (rpc p)).alloc (.cells #[] 52)
                            obtain ⟨A6, c6, u6, hrun6, o6, X6, B6⟩ := src_ap1 OL5 X1 o1 Bp (fun h => by have h : (v.alloc (.cells (rpc p) 52)).heap.size = v.heap.size := Option.some.inj h; rw [World.size_alloc] at h; omega) nL hnL (by omega)
                            simp only [World.size_alloc] at hrun6
                            refine wpTreeE_call rfl rfl (fun K hK => ?_)
                            refine op_app (.tmp 167) (.tmp 171) rfl rfl rfl hrun6 ?_
                            simp only [Act.put, List.setIfInBounds_toArray, List.set_cons_zero, List.set_cons_succ]
                            refine hK _ _ X6 ?_
                            clear hK K
                            obtain ⟨A9, c9, u9, hrun9, o9, X9⟩ := one_ap X6 o6 B6 nL hnL (by omega)
                            refine wpTreeE_call rfl rfl (fun K hK => ?_)
                            refine op_app (.tmp 172) (.tmp 174) rfl rfl rfl hrun9 ?_
                            simp only [Act.put, List.setIfInBounds_toArray, List.set_cons_zero, List.set_cons_succ]
                            refine hK _ _ X9 ?_
                            clear hK K
                            refine wpTreeE_end ?_
                            have cJ : u9.cell? ⟨j, 1, none⟩ = some (.slice AL nL cL) := (BJ5.ext X9 (fun h => by have h : w5.heap.size ≤ j := h; omega)).cell 1
                            have fJ := (BJ5.ext X9 (fun h => by have h : w5.heap.size ≤ j := h; omega)).frozen 1
                            iterate 2 (refine wpSeqP_quiet rfl rfl ?_; apply Exists.intro; refine ⟨?_, ?_⟩; (intro W hW; go_simp; try with_reducible rfl); (intro K hK; simp only [Act.put, List.setIfInBounds_toArray, List.set_cons_zero, List.set_cons_succ]; refine hK _ ?_; clear hK K))
                            refine wpSeqP_call rfl rfl (fun K hK => ?_)
                            go_simp
                            refine hK _ _ trivial ?_
                            clear hK K cJ fJ
                            refine wpSeqP_end ?_
                            go_wp2_with fail
                            go_meet
                            case rel => exact ⟨u9, _, _, X9, o9, rfl⟩
                        case rest =>
                          obtain ⟨U, A1, c1, XU, oU, rfl⟩ := hcut
                          have hj5 : j < w5.heap.size := BJ5.lt
                          have hsU := XU.size
                          have BJ6 := (BJ5.ext XU (fun h => by have h : w5.heap.size ≤ j := h; omega)).set_ 1 (.slice A1 (nL + 1) c1)
                          simp only [List.setIfInBounds_toArray, List.set_cons_succ, List.set_cons_zero] at BJ6
                          have hm5 : w.heap.size + 1 < w5.heap.size := M5.lt
                          have Y := (Ext.refl (One j) U).setCell (p := ⟨j, 1, none⟩) (.inr rfl) (.slice A1 (nL + 1) c1)
                          have M6 := (M5.ext XU (fun h => by have h : w5.heap.size ≤ w.heap.size + 1 := h; omega)).ext Y (fun h => by have h : w.heap.size + 1 = j := h; omega)
                          have oA : ∀ k, ob A1 = some k → w5.heap.size ≤ k := fun k hk => (OwO.lt oU hk).1
                          have o6 := OwO.ext oU Y (fun b hb h => by have h : b = j := h; have := oA b hb; omega)
                          have OD5 := OwO.extN OD X5
                          have OD6 := OwO.ext (OwO.ext OD5 XU (fun k hk h => by have := (OwO.lt OD5 hk).2; have h : w5.heap.size ≤ k := h; omega)) Y (fun k hk h => by
                            have h : k = j := h
                            exact OwP.ne_j OD5 BJ5 k hk h)
                          have XU' : Ext Non w U := (X0.transN X5).trans XU (fun b hb h => by
                            have h : w5.heap.size ≤ b := h
                            omega)
                          have XX : Ext D w (U.setCell ⟨j, 1, none⟩ (.slice A1 (nL + 1) c1)) := (XU'.imp (fun _ _ h => h.elim)).setCell (p := ⟨j, 1, none⟩) (.inr H.dj) (.slice A1 (nL + 1) c1)
                          have hsz : (U.setCell ⟨j, 1, none⟩ (.slice A1 (nL + 1) c1)).heap.size = U.heap.size := World.size_setCell ..
                          have hAU : ∀ k, ob A1 = some k → k < U.heap.size := fun k hk => (OwO.lt oU hk).2
                          clear XU' XU Y oU OD5 BJ5 M5 OL5 B05
                          generalize U.setCell ⟨j, 1, none⟩ (.slice A1 (nL + 1) c1) = w6 at *
                          have st := M6.big_store (P := Try.prog) (ty := 48) (cs' := #[.int .u32 0, .int .u16 0, .int .u16 0, .string ⟨#[]⟩]) rfl (by kernel_rfl) (by simp [Value.oneCell'])
                          have M7 := M6.setRow #[.int .u32 0, .int .u16 0, .int .u16 0, .string ⟨#[]⟩]
                          have Y := (Ext.refl (One (w.heap.size + 1)) w6).setRow (g := w.heap.size + 1) (.inr rfl) #[.int .u32 0, .int .u16 0, .int .u16 0, .string ⟨#[]⟩]
                          have XX7 := XX.setRow (g := w.heap.size + 1) (.inl (by omega)) #[.int .u32 0, .int .u16 0, .int .u16 0, .string ⟨#[]⟩]
                          have BJ7 := BJ6.ext Y (fun h => by have h : j = w.heap.size + 1 := h; omega)
                          have o7 := OwO.ext o6 Y (fun b hb h => by have h : b = w.heap.size + 1 := h; have := oA b hb; omega)
                          have OD7 := OwO.ext OD6 Y (fun k hk h => by have h : k = w.heap.size + 1 := h; have := hDw k (dAD k hk); omega)
                          have hsy : (w6.setRow (w.heap.size + 1) #[.int .u32 0, .int .u16 0, .int .u16 0, .string ⟨#[]⟩]).heap.size = w6.heap.size := by simp
                          have hlen : (R.L ++ [p]).length = nL + 1 := by rw [List.length_append, hnL]; rfl
                          have ff : Ending.returned (.tuple #[.agg #[.int .u32 0, .int .u16 0, .int .u16 0, .string ⟨#[]⟩], .bool false, .int .i64 0]) = Ending.returned (.tuple #[.agg (rmsg p rt.2.2), .bool rt.2.2.isSome, .int .i64 (rt.2.1 : Nat)]) ∧ ∃ D' : Nat → Prop,
                              RJo (w6.setRow (w.heap.size + 1) #[.int .u32 0, .int .u16 0, .int .u16 0, .string ⟨#[]⟩]) D' j rt.1 ∧ (∀ k, D' k → (D k ∨ w.heap.size ≤ k) ∧ k < (w6.setRow (w.heap.size + 1) #[.int .u32 0, .int .u16 0, .int .u16 0, .string ⟨#[]⟩]).heap.size) ∧ Ext D w (w6.setRow (w.heap.size + 1) #[.int .u32 0, .int .u16 0, .int .u16 0, .string ⟨#[]⟩]) := by
                            rw [HRV.out]
                            refine ⟨rfl, fun k => D k ∨ ob A1 = some k, ⟨.inl H.dj, A1, c1, AD, cD, ?_, OwO.lower o7 (fun _ _ => Nat.zero_le _), OD7, fun k hk => .inr hk, fun k hk => .inl (dAD k hk)⟩, fun k hk => ?_, XX7⟩
                            · show Blk _ j _ #[.int .i64 R.room, .slice A1 (R.L ++ [p]).length c1, .slice AD R.dn.length cD]
                              rw [hlen, hnD]
                              exact BJ7
                            · rcases hk with hk | hk
                              · have := hDw k hk
                                exact ⟨.inl hk, by omega⟩
                              · have h1 := oA k hk
                                have h2 := hAU k hk
                                exact ⟨.inr (by omega), by omega⟩
                          clear HRV XX XX7 BJ6 BJ7 o6 o7 OD6 OD7 M6 Y
                          go_wp2_with fail
                          exact bodyPost_ret (results3 M7 Try.results21 _ _ _ rfl rfl rfl Try.underlying48 rfl (by kernel_rfl)) rfl (by obtain ⟨f1, D', f2⟩ := ff; first | exact ⟨D', f1, f2⟩ | exact ⟨f1, D', f2⟩)
                      · have hMb : ∀ q ∈ ow ++ [p], q.b.length ≤ 300 := fun q hq => by
                          rcases List.mem_append.1 hq with hq | hq
                          · exact hLb q (own_key (by rw [HOW.out]; exact hq)).2
                          · rw [List.mem_singleton.1 hq]; exact hb3
                        have hrt := HRU.out
                        rw [if_neg hc] at hrt
                        have HRV := Lib.hid hrt
                        clear hrt HRU HOW HOT
                        have BJ5 := BJ.extN_ X5
                        have OD5 := OwO.extN OD X5
                        have j1 : w5.cell? ⟨j, 1, none⟩ = some (.slice AL nL cL) := BJ5.cell 1
                        have f1 := BJ5.frozen 1
                        go_upto_region 34 with (fail)
                        clear k5
                        go_upto_region 35 with (fail)
                        clear j1 f1
                        have Y := (Ext.refl (One j) w5).setCell (p := ⟨j, 1, none⟩) (.inr rfl) (.slice A11 n11 c11)
                        have BJ6 := BJ5.set_ 1 (.slice A11 n11 c11)
                        simp only [List.setIfInBounds_toArray, List.set_cons_succ, List.set_cons_zero] at BJ6
                        have B06 := (B0.extN_ X5).ext Y (fun h => by have h : w.heap.size = j := h; omega)
                        have M6 := (M0.extN_ X5).ext Y (fun h => by have h : w.heap.size + 1 = j := h; omega)
                        have q6 := OwO.ext o5 Y (fun k hk h => OwP.ne_j o5 BJ5 k hk h)
                        have p6 := OwO.ext o11 Y (fun k hk h => OwP.ne_j o11 BJ5 k hk h)
                        have OD6 := OwO.ext OD5 Y (fun k hk h => OwP.ne_j OD5 BJ5 k hk h)
                        have XX6 : Ext D w (w5.setCell ⟨j, 1, none⟩ (.slice A11 n11 c11)) := ((X0.transN X5).imp (fun _ _ h => h.elim)).setCell (p := ⟨j, 1, none⟩) (.inr H.dj) (.slice A11 n11 c11)
                        have hs6 : (w5.setCell ⟨j, 1, none⟩ (.slice A11 n11 c11)).heap.size = w5.heap.size := World.size_setCell ..
                        have hs5 := X5.size
                        have hs1 := X0.size
                        clear Y BJ5 OD5 o5 o11
                        generalize w5.setCell ⟨j, 1, none⟩ (.slice A11 n11 c11) = w6 at *
                        go_cut [183] (fun s wc => ∃ (U : World) (A : Option Addr) (c : Nat), Ext (fun k => w6.heap.size ≤ k) w6 U ∧ OwP U w6.heap.size A c (R.dn ++ [p]) ∧ wc = U.setCell ⟨j, 2, none⟩ (.slice A (nD + 1) c))
                        case first =>
                          as_aux_lemma =>
                          refine wp_region_treeN (fun W => Ext (fun k => w6.heap.size ≤ k) w6 W) 10 (.q 0 (.q 2 (.q 3 (.q 4 (.q 5 (.q 7 (.b 1 (.b 6 (.c 8 (.c 9 .stop)) 8 (.c 6 (.c 9 .stop))) 8 (.c 1 (.c 6 (.c 9 .stop)))))))))) [(10, true), (11, true), (12, false)] (by kernel_rfl) (by kernel_rfl) (by kernel_rfl) (by kernel_rfl) (Ext.refl _ w6).drew ?_
                          have hj5 : j < w6.heap.size := BJ6.lt
                          have hg5 : w.heap.size < w6.heap.size := B06.lt
                          have lpz : ∀ W, Ext (fun k => w6.heap.size ≤ k) w6 W → (bigLoad 52 (.pointer (some ⟨w.heap.size, 0, none⟩))).run Try.prog W = .ok (.agg (rpc p)) W := fun W x => (B06.ext x (fun h => by have h : w6.heap.size ≤ w.heap.size := h; omega)).big_load Try.underlying52 rfl (by kernel_rfl)
                          have jcz : ∀ W, Ext (fun k => w6.heap.size ≤ k) w6 W → W.cell? ⟨j, 2, none⟩ = some (.slice AD nD cD) := fun W x => (BJ6.ext x (fun h => by have h : w6.heap.size ≤ j := h; omega)).cell 2
                          iterate 6 (refine wpTreeE_quiet rfl rfl ?_; apply Exists.intro; refine ⟨?_, ?_⟩; (intro W hW; have u0 := jcz W hW; have u1 := lpz W hW; go_simp; try with_reducible rfl); (intro K hK; simp only [Act.put, List.setIfInBounds_toArray, List.set_cons_zero, List.set_cons_succ]; refine hK _ ?_; clear hK K))
                          have Xd : Ext (fun k => w6.heap.size ≤ k) w6 w6.drew := (Ext.refl _ w6).drew
                          have hvd : w6.heap.size = w6.drew.heap.size := rfl
                          generalize w6.drew = v at *
                          refine wpTreeE_both rfl rfl rfl rfl ?_ ?_
                          · intro K hK
                            go_simp
                            refine hK _ _ (Xd.alloc (.cells #[] 52)) ?_
                            clear hK K
                            have X1 := Xd.alloc (.cells #[] 52)
                            have o1 := OwP.made v (base := w6.heap.size) (by rw [hvd]; exact Nat.le_refl _)
                            refine wpTreeE_both rfl rfl rfl rfl ?_ ?_
                            · intro K hK
                              obtain ⟨A6, c6, u6, hrun6, o6, X6⟩ := src_ap OD6 X1 o1 nD hnD (by omega)
                              refine op_app (.tmp 184) (.tmp 188) rfl rfl rfl hrun6 ?_
                              simp only [Act.put, List.setIfInBounds_toArray, List.set_cons_zero, List.set_cons_succ]
                              refine hK _ _ X6 ?_
                              clear hK K
                              refine wpTreeE_call rfl rfl (fun K hK => ?_)
                              have bp := build_p u6 p
                              go_simp
                              refine hK _ _ (X6.alloc (.cells (rpc p) 52)) ?_
                              clear hK K
                              obtain ⟨A9, c9, u9, hrun9, o9, X9⟩ := one_ap (X6.alloc (.cells (rpc p) 52)) (OwO.extN o6 ((Ext.refl Non u6).alloc (.cells (rpc p) 52))) (Blk.new u6 52 (rpc p)) nD hnD (by omega)
                              refine wpTreeE_call rfl rfl (fun K hK => ?_)
                              refine op_app (.tmp 189) (.tmp 191) rfl rfl rfl hrun9 ?_
                              simp only [Act.put, List.setIfInBounds_toArray, List.set_cons_zero, List.set_cons_succ]
                              refine hK _ _ X9 ?_
                              clear hK K
                              refine wpTreeE_end ?_
                              have cJ : u9.cell? ⟨j, 2, none⟩ = some (.slice AD nD cD) := (BJ6.ext X9 (fun h => by have h : w6.heap.size ≤ j := h; omega)).cell 2
                              have fJ := (BJ6.ext X9 (fun h => by have h : w6.heap.size ≤ j := h; omega)).frozen 2
                              iterate 2 (refine wpSeqP_quiet rfl rfl ?_; apply Exists.intro; refine ⟨?_, ?_⟩; (intro W hW; go_simp; try with_reducible rfl); (intro K hK; simp only [Act.put, List.setIfInBounds_toArray, List.set_cons_zero, List.set_cons_succ]; refine hK _ ?_; clear hK K))
                              refine wpSeqP_call rfl rfl (fun K hK => ?_)
                              go_simp
                              refine hK _ _ trivial ?_
                              clear hK K cJ fJ
                              refine wpSeqP_end ?_
                              go_wp2_with fail
                              go_meet
                              case rel => exact ⟨u9, _, _, X9, o9, rfl⟩
                            · intro K hK
                              have bp := build_p (v.alloc (.cells #[] 52)) p
                              go_simp
                              refine hK _ _ (X1.alloc (.cells (rpc p) 52)) ?_
                              clear hK K
                              have Bp := Blk.new (v.alloc (.cells #[] 52)) 52 (rpc p)
                              have o2 := OwO.extN o1 ((Ext.refl Non (v.alloc (.cells #[] 52))).alloc (.cells (rpc p) 52))
                              obtain ⟨A6, c6, u6, hrun6, o6, X6, B6⟩ := src_ap1 OD6 (X1.alloc (.cells (rpc p) 52)) o2 Bp (fun h => by have h : v.heap.size = (v.alloc (.cells #[] 52)).heap.size := Option.some.inj h; rw [World.size_alloc] at h; omega) nD hnD (by omega)
                              simp only [World.size_alloc] at B6
                              refine wpTreeE_call rfl rfl (fun K hK => ?_)
                              refine op_app (.tmp 184) (.tmp 188) rfl rfl rfl hrun6 ?_
                              simp only [Act.put, List.setIfInBounds_toArray, List.set_cons_zero, List.set_cons_succ]
                              refine hK _ _ X6 ?_
                              clear hK K
                              obtain ⟨A9, c9, u9, hrun9, o9, X9⟩ := one_ap X6 o6 B6 nD hnD (by omega)
                              refine wpTreeE_call rfl rfl (fun K hK => ?_)
                              refine op_app (.tmp 189) (.tmp 191) rfl rfl rfl hrun9 ?_
                              simp only [Act.put, List.setIfInBounds_toArray, List.set_cons_zero, List.set_cons_succ]
                              refine hK _ _ X9 ?_
                              clear hK K
                              refine wpTreeE_end ?_
                              have cJ : u9.cell? ⟨j, 2, none⟩ = some (.slice AD nD cD) := (BJ6.ext X9 (fun h => by have h : w6.heap.size ≤ j := h; omega)).cell 2
                              have fJ := (BJ6.ext X9 (fun h => by have h : w6.heap.size ≤ j := h; omega)).frozen 2
                              iterate 2 (refine wpSeqP_quiet rfl rfl ?_; apply Exists.intro; refine ⟨?_, ?_⟩; (intro W hW; go_simp; try with_reducible rfl); (intro K hK; simp only [Act.put, List.setIfInBounds_toArray, List.set_cons_zero, List.set_cons_succ]; refine hK _ ?_; clear hK K))
                              refine wpSeqP_call rfl rfl (fun K hK => ?_)
                              go_simp
                              refine hK _ _ trivial ?_
                              clear hK K cJ fJ
                              refine wpSeqP_end ?_
                              go_wp2_with fail
                              go_meet
                              case rel => exact ⟨u9, _, _, X9, o9, rfl⟩
                          · intro K hK
                            have bp := build_p v p
                            go_simp
                            refine hK _ _ (Xd.alloc (.cells (rpc p) 52)) ?_
                            clear hK K
                            refine wpTreeE_call rfl rfl (fun K hK => ?_)
                            go_simp
                            refine hK _ _ ((Xd.alloc (.cells (rpc p) 52)).alloc (.cells #[] 52)) ?_
                            clear hK K
                            have X1 := (Xd.alloc (.cells (rpc p) 52)).alloc (.cells #[] 52)
                            have o1 := OwP.made (v.alloc (.cells (rpc p) 52)) (base := w6.heap.size) (Xd.alloc (.cells (rpc p) 52)).size
                            have Bp := (Blk.new v 52 (rpc p)).alloc (.cells #[] 52)
                            obtain ⟨A6, c6, u6, hrun6, o6, X6, B6⟩ := src_ap1 OD6 X1 o1 Bp (fun h => by have h : (v.alloc (.cells (rpc p) 52)).heap.size = v.heap.size := Option.some.inj h; rw [World.size_alloc] at h; omega) nD hnD (by omega)
                            simp only [World.size_alloc] at hrun6
                            refine wpTreeE_call rfl rfl (fun K hK => ?_)
                            refine op_app (.tmp 184) (.tmp 188) rfl rfl rfl hrun6 ?_
                            simp only [Act.put, List.setIfInBounds_toArray, List.set_cons_zero, List.set_cons_succ]
                            refine hK _ _ X6 ?_
                            clear hK K
                            obtain ⟨A9, c9, u9, hrun9, o9, X9⟩ := one_ap X6 o6 B6 nD hnD (by omega)
                            refine wpTreeE_call rfl rfl (fun K hK => ?_)
                            refine op_app (.tmp 189) (.tmp 191) rfl rfl rfl hrun9 ?_
                            simp only [Act.put, List.setIfInBounds_toArray, List.set_cons_zero, List.set_cons_succ]
                            refine hK _ _ X9 ?_
                            clear hK K
                            refine wpTreeE_end ?_
                            have cJ : u9.cell? ⟨j, 2, none⟩ = some (.slice AD nD cD) := (BJ6.ext X9 (fun h => by have h : w6.heap.size ≤ j := h; omega)).cell 2
                            have fJ := (BJ6.ext X9 (fun h => by have h : w6.heap.size ≤ j := h; omega)).frozen 2
                            iterate 2 (refine wpSeqP_quiet rfl rfl ?_; apply Exists.intro; refine ⟨?_, ?_⟩; (intro W hW; go_simp; try with_reducible rfl); (intro K hK; simp only [Act.put, List.setIfInBounds_toArray, List.set_cons_zero, List.set_cons_succ]; refine hK _ ?_; clear hK K))
                            refine wpSeqP_call rfl rfl (fun K hK => ?_)
                            go_simp
                            refine hK _ _ trivial ?_
                            clear hK K cJ fJ
                            refine wpSeqP_end ?_
                            go_wp2_with fail
                            go_meet
                            case rel => exact ⟨u9, _, _, X9, o9, rfl⟩
                        case rest =>
                          obtain ⟨U, A2, c2, XU, oU, rfl⟩ := hcut
                          have hj6 : j < w6.heap.size := BJ6.lt
                          have hm6 : w.heap.size + 1 < w6.heap.size := M6.lt
                          have nF : ∀ b, b < w6.heap.size → ¬ (fun k => w6.heap.size ≤ k) b := fun b hb h => by have h : w6.heap.size ≤ b := h; omega
                          have BJU := BJ6.ext XU (nF j hj6)
                          have hA2 : ∀ k, ob A2 = some k → w6.heap.size ≤ k ∧ k < U.heap.size := fun k hk => OwO.lt oU hk
                          have BJ7 := BJU.set_ 2 (.slice A2 (nD + 1) c2)
                          simp only [List.setIfInBounds_toArray, List.set_cons_succ, List.set_cons_zero] at BJ7
                          have Y := (Ext.refl (One j) U).setCell (p := ⟨j, 2, none⟩) (.inr rfl) (.slice A2 (nD + 1) c2)
                          have B07 := (B06.ext XU (nF _ (by omega))).ext Y (fun h => by have h : w.heap.size = j := h; omega)
                          have M7 := (M6.ext XU (nF _ hm6)).ext Y (fun h => by have h : w.heap.size + 1 = j := h; omega)
                          have q7 := OwO.ext (OwO.ext q6 XU (fun k hk => nF k (OwO.lt q6 hk).2)) Y (fun k hk h => by have h : k = j := h; exact OwP.ne_j q6 BJ6 k hk h)
                          have p7 := OwO.ext (OwO.ext p6 XU (fun k hk => nF k (OwO.lt p6 hk).2)) Y (fun k hk h => by have h : k = j := h; exact OwP.ne_j p6 BJ6 k hk h)
                          have o7 := OwO.ext oU Y (fun b hb h => by have h : b = j := h; have := hA2 b hb; omega)
                          have XX7 : Ext D w (U.setCell ⟨j, 2, none⟩ (.slice A2 (nD + 1) c2)) := (XX6.trans XU (fun b hb h => by
                            have h : w6.heap.size ≤ b := h
                            omega)).setCell (p := ⟨j, 2, none⟩) (.inr H.dj) (.slice A2 (nD + 1) c2)
                          have hs7 : (U.setCell ⟨j, 2, none⟩ (.slice A2 (nD + 1) c2)).heap.size = U.heap.size := World.size_setCell ..
                          have hsU := XU.size
                          have hlen : (R.dn ++ [p]).length = nD + 1 := by rw [List.length_append, hnD]; rfl
                          clear Y BJU XU oU q6 p6 XX6 BJ6 M6 B06 OD6 nF
                          generalize U.setCell ⟨j, 2, none⟩ (.slice A2 (nD + 1) c2) = w7 at *
                          have j2 : w7.cell? ⟨j, 2, none⟩ = some (.slice A2 (nD + 1) c2) := BJ7.cell 2
                          have f2 := BJ7.frozen 2
                          go_upto_region 36 with (fail)
                          go_upto_if 200 with (fail)
                          go_cut [207] (fun s wc => ∃ (A : Option Addr) (c m : Nat), (dn64 (R.dn ++ [p])).length = m ∧ Ext (One j) w7 wc ∧ Blk wc j 43 #[.int .i64 R.room, .slice A11 n11 c11, .slice A m c] ∧ OwP wc w6.heap.size A c (dn64 (R.dn ++ [p])) ∧ ∀ k, ob A = some k → w6.heap.size ≤ k ∧ k < w7.heap.size)
                          case first =>
                            as_aux_lemma =>
                            by_cases h64 : nD = 64
                            · have hdn : dn64 (R.dn ++ [p]) = (R.dn ++ [p]).drop 1 := by unfold dn64; rw [if_pos (by omega)]
                              have i64 : 64 < (nD : Int) + 1 := by omega
                              have hc2 := o7.le
                              rw [hlen] at hc2
                              have i65 : (nD : Int) + 1 ≤ (c2 : Int) := by omega
                              have i66 : (1 : Int) ≤ (c2 : Int) := by omega
                              have i67 : (1 : Int) ≤ (nD : Int) + 1 := by omega
                              clear h64
                              obtain ⟨g2, off2, e2⟩ : ∃ g off, A2 = some ⟨g, off, none⟩ := by
                                rcases o7.ex with ⟨_, h0⟩ | ⟨g, off, cur, h, _⟩
                                · omega
                                · exact ⟨g, off, h⟩
                              have od := OwO.drop o7 1 (by rw [hlen]; omega) (by rw [e2]; rfl) (by omega)
                              have eA : (A2.map fun x => (⟨x.block, x.off + 7, none⟩ : Addr)) = A2.map (·.add (1 * 7)) := by rw [e2]; exact congrArg some (addr_add g2 off2 (1 * 7)).symm
                              have eB : ob (A2.map fun x => (⟨x.block, x.off + 7, none⟩ : Addr)) = ob A2 := by rw [e2]; rfl
                              have HEA := Lib.hid eA
                              have HEB := Lib.hid eB
                              clear e2 eA eB
                              go_wp2_with fail
                              go_meet
                              case rel =>
                                have BJ8 := BJ7.set_ 2 (.slice (A2.map fun x => (⟨x.block, x.off + 7, none⟩ : Addr)) nD (c2 - 1))
                                simp only [List.setIfInBounds_toArray, List.set_cons_succ, List.set_cons_zero] at BJ8
                                have Y8 := (Ext.refl (One j) w7).setCell (p := ⟨j, 2, none⟩) (.inr rfl) (.slice (A2.map fun x => (⟨x.block, x.off + 7, none⟩ : Addr)) nD (c2 - 1))
                                refine ⟨_, _, _, by rw [hdn, List.length_drop, hlen]; rfl, Y8, BJ8, ?_, fun k hk => by rw [HEB.out] at hk; have := hA2 k hk; omega⟩
                                rw [HEA.out, hdn]
                                have od' : OwP w7 w6.heap.size (A2.map (·.add (1 * 7))) (c2 - 1) ((R.dn ++ [p]).drop 1) := by
                                  unfold OwP
                                  rw [rpls_drop1, List.length_drop]
                                  exact od
                                exact OwO.ext od' Y8 (fun k hk h => by have h : k = j := h; exact OwP.ne_j od' BJ7 k hk h)
                            · have hdn : dn64 (R.dn ++ [p]) = R.dn ++ [p] := by unfold dn64; rw [if_neg (by omega)]
                              have i64 : ¬ 64 < (nD : Int) + 1 := by omega
                              go_wp2_with fail
                              go_meet
                              case rel => exact ⟨A2, c2, nD + 1, by rw [hdn]; exact hlen, Ext.refl _ _, BJ7, by rw [hdn]; exact o7, fun k hk => by have := hA2 k hk; omega⟩
                          case rest =>
                            clear j2 f2
                            obtain ⟨A3, c3, m3, hm3, Y3, BJ8, o8, hA3⟩ := hcut
                            generalize wc = w8 at *
                            have B08 := B07.ext Y3 (fun h => by have h : w.heap.size = j := h; omega)
                            have M8 := M7.ext Y3 (fun h => by have h : w.heap.size + 1 = j := h; omega)
                            have q8 := OwO.ext q7 Y3 (fun k hk h => by have h : k = j := h; exact OwP.ne_j q7 BJ7 k hk h)
                            have p8 := OwO.ext p7 Y3 (fun k hk h => by have h : k = j := h; exact OwP.ne_j p7 BJ7 k hk h)
                            have XX8 : Ext D w w8 := XX7.trans Y3 (fun b hb h => by have h : b = j := h; rw [h]; exact H.dj)
                            have hs8 := Y3.size
                            clear B07 M7 q7 p7 XX7 Y3 BJ7 o7
                            have hp17 := (prt_facts hrp).2.2.1
                            obtain ⟨C, hC⟩ : ∃ C : Nat, p.count = C := ⟨p.count.toNat, by omega⟩
                            obtain ⟨M, hM⟩ : ∃ M, ow ++ [p] = M := ⟨_, rfl⟩
                            have hMl : M.length = n10 + 1 := by rw [← hM, List.length_append, HN.out]; rfl
                            rw [hM] at q8 hMb
                            have HRW := Lib.hid hM
                            have pcc : ∀ W, Ext Non w8 W → W.cell? ⟨w.heap.size, 5, none⟩ = some (.int .i64 (C : Int)) := fun W x => by rw [← hC]; exact (B08.extN_ x).cell 5
                            have pc1 : ∀ W, Ext Non w8 W → W.cell? ⟨w.heap.size, 1, none⟩ = some (.int .u32 (p.id : Int)) ∧ W.cell? ⟨w.heap.size, 2, none⟩ = some (.int .u16 (p.fr : Int)) ∧ W.cell? ⟨w.heap.size, 3, none⟩ = some (.int .u16 (p.bx : Int)) := fun W x => ⟨(B08.extN_ x).cell 1, (B08.extN_ x).cell 2, (B08.extN_ x).cell 3⟩
                            have hC17 : C ≤ 17 := by omega
                            have hbl := ball_len hMb
                            rw [hMl] at hbl
                            clear hM
                            go_wp2_with fail
                            go_loopw [16, 17] (fun s z wr => ∃ i : Nat, i ≤ C ∧ z = .int .i64 i ∧ s = .string (str (ball M i)) ∧ Ext Non w8 wr) (fun _ z _ => C - (intOf z).toNat)
                            case atStart => exact ⟨0, by omega, rfl, rfl, Ext.refl _ _⟩
                            case round =>
                              obtain ⟨i, hi, rfl, rfl, X9⟩ := hrel
                              have c5 := pcc wr X9
                              by_cases hlt : i < C
                              · have i1 : (i : Int) < (C : Int) := by omega
                                have hbi := hbl i
                                have hCi : i * ((n10 + 1) * 300) ≤ 17 * ((n10 + 1) * 300) := Nat.mul_le_mul_right _ (by omega)
                                have hbs := ball_succ M i
                                obtain ⟨bi, hbi2⟩ : ∃ x, ball M i = x := ⟨_, rfl⟩
                                rw [hbi2] at hbs hbi ⊢
                                have HBS := Lib.hid hbs
                                clear hbs hbi2
                                go_wp2_with fail
                                go_loopw [16, 18] (fun s z wr => ∃ k : Nat, k ≤ n10 + 1 ∧ z = .int .i64 k ∧ s = .string (str (bi ++ bl (M.take k) i)) ∧ Ext Non w8 wr) (fun _ z _ => n10 + 1 - (intOf z).toNat)
                                case atStart => exact ⟨0, by omega, rfl, by simp [bl], X9⟩
                                case round =>
                                  clear X9 c5
                                  obtain ⟨k, hk, rfl, rfl, X9⟩ := hrel
                                  by_cases hlk : k < n10 + 1
                                  · have i2 : (k : Int) < (n10 : Int) + 1 := by omega
                                    have hkM : k < M.length := by omega
                                    obtain ⟨q, hq⟩ : ∃ q, M[k] = q := ⟨_, rfl⟩
                                    obtain ⟨hA, g, o, ha, _, hcq⟩ := OwP.at_ (OwO.extN q8 X9) k hkM
                                    rw [hq] at hcq
                                    have d4 : wr.cell? ⟨g, o + 4, none⟩ = some (.int .i64 q.place) := hcq 4 _ rfl
                                    have d6 : wr.cell? ⟨g, o + 6, none⟩ = some (.string (str q.b)) := hcq 6 _ rfl
                                    have htk : M.take (k + 1) = M.take k ++ [q] := by rw [List.take_succ_eq_append_getElem hkM, hq]
                                    have hbs := bl_snoc (M.take k) q i
                                    rw [← htk] at hbs
                                    have hqb := hMb q (by rw [← hq]; exact List.getElem_mem hkM)
                                    have hbk := bl_len i (M := M.take k) (fun q hq => hMb q (List.mem_of_mem_take hq))
                                    rw [List.length_take] at hbk
                                    have hbk2 : (bl (M.take k) i).length ≤ (n10 + 1) * 300 := Nat.le_trans hbk (Nat.mul_le_mul_right _ (by omega))
                                    obtain ⟨bk, hbk3⟩ : ∃ x, bi ++ bl (M.take k) i = x := ⟨_, rfl⟩
                                    have hbkl : bk.length = bi.length + (bl (M.take k) i).length := by rw [← hbk3, List.length_append]
                                    by_cases hqp : q.place = (i : Int)
                                    · rw [if_pos hqp] at hbs
                                      obtain ⟨br, hbr⟩ : ∃ x, bk ++ q.b = x := ⟨_, rfl⟩
                                      have hfin : bi ++ bl (M.take (k + 1)) i = br := by rw [hbs, ← hbr, ← hbk3, List.append_assoc]
                                      obtain ⟨s1, s2, s3, s4, s5⟩ := sum_facts hbr bk.length q.b.length rfl rfl (by omega)
                                      have HB := Lib.hid hfin
                                      rw [hbk3]
                                      clear hcq htk hbs hbk hbk2 hbk3 hfin hbr hq
                                      go_wp2_with fail
                                      exact ⟨⟨k + 1, by omega, by go_num, by rw [HB.out], X9⟩, by simp [intOf]; omega⟩
                                    · rw [if_neg hqp, List.append_nil] at hbs
                                      have HB := Lib.hid hbs
                                      clear hcq htk hbs hbk hbk2 hbk3 hbkl hqb
                                      go_wp2_with fail
                                      exact ⟨⟨k + 1, by omega, by go_num, by rw [HB.out], X9⟩, by simp [intOf]; omega⟩
                                  · obtain rfl : k = n10 + 1 := by omega
                                    have i2 : ¬ (n10 : Int) + 1 < (n10 : Int) + 1 := by omega
                                    have hall : M.take (n10 + 1) = M := List.take_of_length_le (by omega)
                                    rw [hall, ← HBS.out]
                                    go_wp2_with fail
                                    exact ⟨⟨i + 1, by omega, by go_num, rfl, X9⟩, by simp [intOf]; omega⟩
                              · obtain rfl : C = i := by omega
                                have i1 : ¬ (C : Int) < (C : Int) := by omega
                                obtain ⟨e1, e2, e3⟩ := pc1 wr X9
                                have M9 := M8.extN_ X9
                                have st := M9.big_store (P := Try.prog) (ty := 48) (cs' := #[.int .u32 p.id, .int .u16 p.fr, .int .u16 p.bx, .string (str (ball M C))]) rfl (by kernel_rfl) (by simp [Value.oneCell'])
                                have MZ := M9.setRow #[.int .u32 p.id, .int .u16 p.fr, .int .u16 p.bx, .string (str (ball M C))]
                                have Y := (Ext.refl (One (w.heap.size + 1)) wr).setRow (g := w.heap.size + 1) (.inr rfl) #[.int .u32 p.id, .int .u16 p.fr, .int .u16 p.bx, .string (str (ball M C))]
                                have hm8 : w.heap.size + 1 < w8.heap.size := M8.lt
                                have hA11 : ∀ k, ob A11 = some k → w1.heap.size ≤ k ∧ k < w8.heap.size := fun k hk => OwO.lt p8 hk
                                have hs9 := X9.size
                                have BJ9 := (BJ8.extN_ X9).ext Y (fun h => by have h : j = w.heap.size + 1 := h; omega)
                                have p9 := OwO.ext (OwO.extN p8 X9) Y (fun k hk h => by have h : k = w.heap.size + 1 := h; have := hA11 k hk; omega)
                                have o9 := OwO.ext (OwO.extN o8 X9) Y (fun k hk h => by have h : k = w.heap.size + 1 := h; have := hA3 k hk; omega)
                                have XX9 := (XX8.transN X9).setRow (g := w.heap.size + 1) (.inl (by omega)) #[.int .u32 p.id, .int .u16 p.fr, .int .u16 p.bx, .string (str (ball M C))]
                                have hsz : (wr.setRow (w.heap.size + 1) #[.int .u32 p.id, .int .u16 p.fr, .int .u16 p.bx, .string (str (ball M C))]).heap.size = wr.heap.size := by simp
                                have hCn : p.count.toNat = C := by omega
                                have ff : Ending.returned (.tuple #[.agg #[.int .u32 p.id, .int .u16 p.fr, .int .u16 p.bx, .string (str (ball M C))], .bool true, .int .i64 0]) = Ending.returned (.tuple #[.agg (rmsg p rt.2.2), .bool rt.2.2.isSome, .int .i64 (rt.2.1 : Nat)]) ∧ ∃ D' : Nat → Prop,
                                    RJo (wr.setRow (w.heap.size + 1) #[.int .u32 p.id, .int .u16 p.fr, .int .u16 p.bx, .string (str (ball M C))]) D' j rt.1 ∧ (∀ k, D' k → (D k ∨ w.heap.size ≤ k) ∧ k < (wr.setRow (w.heap.size + 1) #[.int .u32 p.id, .int .u16 p.fr, .int .u16 p.bx, .string (str (ball M C))]).heap.size) ∧ Ext D w (wr.setRow (w.heap.size + 1) #[.int .u32 p.id, .int .u16 p.fr, .int .u16 p.bx, .string (str (ball M C))]) := by
                                  rw [HRV.out, HRW.out, hCn]
                                  refine ⟨rfl, fun k => D k ∨ ob A11 = some k ∨ ob A3 = some k, ⟨.inl H.dj, A11, c11, A3, c3, ?_, OwO.lower p9 (fun _ _ => Nat.zero_le _), OwO.lower o9 (fun _ _ => Nat.zero_le _), fun k hk => .inr (.inl hk), fun k hk => .inr (.inr hk)⟩, fun k hk => ?_, XX9⟩
                                  · show Blk _ j _ #[.int .i64 R.room, .slice A11 ot.length c11, .slice A3 (dn64 (R.dn ++ [p])).length c3]
                                    rw [hm3, HM.out]
                                    exact BJ9
                                  · rcases hk with hk | hk | hk
                                    · have := hDw k hk
                                      exact ⟨.inl hk, by omega⟩
                                    · have := hA11 k hk
                                      exact ⟨.inr (by omega), by omega⟩
                                    · have := hA3 k hk
                                      exact ⟨.inr (by omega), by omega⟩
                                clear HRV HRW XX8 XX9 BJ8 BJ9 p8 p9 o8 o9 M8 M9 Y hbl hMb HM HN
                                go_wp2_with fail
                                exact bodyPost_ret (results3 MZ Try.results21 _ _ _ rfl rfl rfl Try.underlying48 rfl (by kernel_rfl)) rfl (by obtain ⟨f1, D', f2⟩ := ff; first | exact ⟨D', f1, f2⟩ | exact ⟨f1, D', f2⟩)
  · have hrt := HRT.out
    rw [hrp, if_neg hr] at hrt
    have s1 := sz w2 x2
    have ff := fin w2 1 x2 hrt
    have mm := mz w2 x2
    clear fin sz mz HRT
    cases rp
    · go_wp2_with fail
      exact bodyPost_ret (results3 mm Try.results21 _ _ _ rfl rfl rfl Try.underlying48 rfl (by kernel_rfl)) rfl ff
    · have hk1 : ¬ p.kind = 1 := fun h => hr ⟨rfl, h⟩
      go_wp2_with fail
      exact bodyPost_ret (results3 mm Try.results21 _ _ _ rfl rfl rfl Try.underlying48 rfl (by kernel_rfl)) rfl ff
end Go.Proofs.Ytcdpmedmhindaaa
