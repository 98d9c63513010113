/- The law OctetsWrites: bytes are put as the document says; for any puts: the Go text returns true. -/
import Derived.Deep.CutBlock
import Derived.LaidEqlPtr
import Derived.Test.YtkgnhkkmingenaaRef01
import Derived.Test.YtkgnhkkmingenaaDec
namespace Go.Proofs.Ytkgnhkkmingenaa
open Go.RowKit

theorem bvs_take4 (l : List UInt8) (n : Nat) : bvs (l.take n) = (bvs l).take n := by simp [bvs]

section
variable {w w' w'' : World} {base p : Nat} {g g' : Option Nat} {l m : List UInt8}
theorem WStep.pre (x : Ext Non w w') (S : WStep w' base p g w'' g' l) : WStep w base p g w'' g' l :=
  ⟨S.wr, (x.imp (fun _ _ h => h.elim)).trans S.ext (fun _ _ h => h), by
    rcases S.row with e | ⟨k, e, hk⟩
    · exact .inl e
    · exact .inr ⟨k, e, Nat.le_trans x.size hk⟩⟩
theorem WStep.post (S : WStep w base p g w' g' l) (x : Ext Non w' w'') : WStep w base p g w'' g' l :=
  ⟨S.wr.extN x, S.ext.transN x, S.row⟩
end

theorem be_mod1 (k n : Nat) : be k (n % 256 ^ k) = be k n := by
  have h := be_mod k (n / 256 ^ k) (n % 256 ^ k)
  rw [show n / 256 ^ k * 256 ^ k + n % 256 ^ k = n from by rw [Nat.mul_comm]; exact Nat.div_add_mod n _] at h
  exact h.symm

/-- A put: what it puts it tells. -/
def PutsPost (w : World) (base p : Nat) (g : Option Nat) (l : List UInt8) (e : Ending) (w' : World) : Prop :=
  ∃ (m : List UInt8) (g' : Option Nat), e = .returned (.string (str m)) ∧ m.length ≤ 100 ∧ WStep w base p g w' g' (l ++ m)

set_option maxRecDepth 100000 in
set_option maxHeartbeats 2000000 in
theorem puts_calls {w : World} {base p : Nat} {g : Option Nat} {l : List UInt8} (hW : Wr w base p g l) (hbase : base ≤ w.heap.size) (hlen : l.length ≤ 100000)
    (K Z : Int) (N : Nat) (hN : (N : Int) ≤ 18446744073709551615) (B : Option Addr) (nb cb : Nat) (lb : List UInt8) (hlb : lb.length = nb) (hcb : nb ≤ cb) {D : Nat → Prop} (rb : Rd w D B (bvs lb)) :
    Calls Try.prog 14 #[.pointer (some ⟨p, 0, none⟩), .agg #[.int .i64 K, .int .i64 Z, .int .u64 N, .slice B nb cb]] w (PutsPost w base p g l) := by
  have y0 : Ext Non w (w.alloc (.cells #[.int .i64 K, .int .i64 Z, .int .u64 N, .slice B nb cb] 35)) := (Ext.refl _ _).alloc _
  have bS := Blk.new w 35 #[.int .i64 K, .int .i64 Z, .int .u64 N, .slice B nb cb]
  have W0 := hW.extN y0
  have hbase0 : base ≤ (w.alloc (.cells #[.int .i64 K, .int .i64 Z, .int .u64 N, .slice B nb cb] 35)).heap.size := Nat.le_trans hbase y0.size
  have hgw : ∀ k, g = some k → k < w.heap.size := fun k hk => (hW.row hk).2
  have hpw := hW.lt
  have hSz : (w.alloc (.cells #[.int .i64 K, .int .i64 Z, .int .u64 N, .slice B nb cb] 35)).heap.size = w.heap.size + 1 := by simp
  have rb0 := rb.extN y0
  by_cases h1 : K = 1
  · subst h1
    obtain ⟨x, hx⟩ : ∃ x, N % 256 = x := ⟨_, rfl⟩
    have hx1 : (N : Int) % 256 = (x : Int) := by omega
    have hx3 : be 1 x = be 1 N := by
      have h := be_mod1 1 N
      rw [show 256 ^ 1 = 256 from by decide, hx] at h
      exact h
    have hx2 : (x : Int) ≤ 255 := by omega
    clear hx
    have bS2 := bS.cell 2
    as_aux_lemma =>
    go_enter Try.func14, Try.ntmps14
    go_wp2_with fail
    have ctr := wu8_calls W0 hbase0 x hx2 (by omega)
    with_reducible refine Calls.mono ctr ?_
    clear ctr
    rintro e w1 ⟨rfl, g1, S1⟩
    have bS1 := (bS.ext S1.ext (fun h => by rcases h with h | h; omega; have := hgw _ h; omega)).cell 2
    clear hx1 bS2
    go_wp2_with fail
    have ctr := text_calls w1 N hN 1 (by omega)
    with_reducible refine Calls.mono ctr ?_
    clear ctr
    rintro e w2 ⟨rfl, x2⟩
    go_wp2_with fail
    go_ret
    exact ⟨be 1 N, g1, rfl, by rw [be_length]; omega, hx3 ▸ (WStep.pre y0 S1).post x2⟩
  by_cases h2 : K = 2
  · subst h2
    obtain ⟨x, hx⟩ : ∃ x, N % 65536 = x := ⟨_, rfl⟩
    have hx1 : (N : Int) % 65536 = (x : Int) := by omega
    have hx3 : be 2 x = be 2 N := by
      have h := be_mod1 2 N
      rw [show 256 ^ 2 = 65536 from by decide, hx] at h
      exact h
    have hx2 : (x : Int) ≤ 65535 := by omega
    clear hx
    have bS2 := bS.cell 2
    as_aux_lemma =>
    go_enter Try.func14, Try.ntmps14
    go_wp2_with fail
    have ctr := wu16_calls W0 hbase0 x hx2 (by omega)
    with_reducible refine Calls.mono ctr ?_
    clear ctr
    rintro e w1 ⟨rfl, g1, S1⟩
    have bS1 := (bS.ext S1.ext (fun h => by rcases h with h | h; omega; have := hgw _ h; omega)).cell 2
    clear hx1 bS2
    go_wp2_with fail
    have ctr := text_calls w1 N hN 2 (by omega)
    with_reducible refine Calls.mono ctr ?_
    clear ctr
    rintro e w2 ⟨rfl, x2⟩
    go_wp2_with fail
    go_ret
    exact ⟨be 2 N, g1, rfl, by rw [be_length]; omega, hx3 ▸ (WStep.pre y0 S1).post x2⟩
  by_cases h3 : K = 3
  · subst h3
    obtain ⟨x, hx⟩ : ∃ x, N % 4294967296 = x := ⟨_, rfl⟩
    have hx1 : (N : Int) % 4294967296 = (x : Int) := by omega
    have hx3 : be 4 x = be 4 N := by
      have h := be_mod1 4 N
      rw [show 256 ^ 4 = 4294967296 from by decide, hx] at h
      exact h
    have hx2 : (x : Int) ≤ 4294967295 := by omega
    clear hx
    have bS2 := bS.cell 2
    as_aux_lemma =>
    go_enter Try.func14, Try.ntmps14
    go_wp2_with fail
    have ctr := wu32_calls W0 hbase0 x hx2 (by omega)
    with_reducible refine Calls.mono ctr ?_
    clear ctr
    rintro e w1 ⟨rfl, g1, S1⟩
    have bS1 := (bS.ext S1.ext (fun h => by rcases h with h | h; omega; have := hgw _ h; omega)).cell 2
    clear hx1 bS2
    go_wp2_with fail
    have ctr := text_calls w1 N hN 4 (by omega)
    with_reducible refine Calls.mono ctr ?_
    clear ctr
    rintro e w2 ⟨rfl, x2⟩
    go_wp2_with fail
    go_ret
    exact ⟨be 4 N, g1, rfl, by rw [be_length]; omega, hx3 ▸ (WStep.pre y0 S1).post x2⟩
  by_cases h4 : K = 4
  · subst h4
    have bS2 := bS.cell 2
    as_aux_lemma =>
    go_enter Try.func14, Try.ntmps14
    go_wp2_with fail
    have ctr := wu64_calls W0 hbase0 N hN (by omega)
    with_reducible refine Calls.mono ctr ?_
    clear ctr
    rintro e w1 ⟨rfl, g1, S1⟩
    have bS1 := (bS.ext S1.ext (fun h => by rcases h with h | h; omega; have := hgw _ h; omega)).cell 2
    clear bS2
    go_wp2_with fail
    have ctr := text_calls w1 N hN 8 (by omega)
    with_reducible refine Calls.mono ctr ?_
    clear ctr
    rintro e w2 ⟨rfl, x2⟩
    go_wp2_with fail
    go_ret
    exact ⟨be 8 N, g1, rfl, by rw [be_length]; omega, (WStep.pre y0 S1).post x2⟩
  by_cases h5 : K = 5
  · subst h5
    clear h1 h2 h3 h4
    have bS3 := bS.cell 3
    obtain ⟨k0, hk0, hk0a, hk0b, _⟩ := min_at nb 100 (by omega)
    obtain ⟨L, hL⟩ : ∃ L, L = lb.take k0 := ⟨_, rfl⟩
    have hLl : L.length = k0 := by rw [hL]; simp; omega
    have rL : Rd w D B (bvs L) := by rw [hL, bvs_take4]; exact rb.take k0
    clear hL rb rb0 hlb
    have ha0 : OwB ((w.alloc (.cells #[.int .i64 5, .int .i64 Z, .int .u64 N, .slice B nb cb] 35)).alloc (.cells #[] 5)) (w.heap.size + 1) (some ⟨w.heap.size + 1, 0, none⟩) 0 [] := hSz ▸ World.ownsRow_made (w.alloc (.cells #[.int .i64 5, .int .i64 Z, .int .u64 N, .slice B nb cb] 35)) #[] 0 (Nat.le_refl _) (by simp [maxLen]) rfl
    have hx0 : Ext Non w ((w.alloc (.cells #[.int .i64 5, .int .i64 Z, .int .u64 N, .slice B nb cb] 35)).alloc (.cells #[] 5)) := y0.alloc _
    go_enter Try.func14, Try.ntmps14
    go_wp2_with (at_builtin; refine wp_ap8 rfl (.tmp 55) (.tmp 62) rfl 0 rfl ha0 rfl k0 cb rfl (rL.extN hx0) hLl (by simpa using (by omega : L.length ≤ 70368744177664)) (by simp) ?_; intro A2 c2 w2 o2 x2 hob2)
    rw [List.nil_append] at o2
    have X2 : Ext Non w w2 := hx0.trans x2 (fun i hi he => by simp [ob] at he; omega)
    have W2 := hW.extN X2
    clear ha0 hx0 x2 hob2 bS bS3 W0 y0
    have ctr := wbytes_calls W2 (Nat.le_trans hbase X2.size) c2 k0 o2.rd hLl (by omega)
    with_reducible refine Calls.mono ctr ?_
    clear ctr
    rintro e w3 ⟨rfl, g3, S3⟩
    have hA2 : ∀ k, ob A2 = some k → w.heap.size < k ∧ k < w2.heap.size := fun k hk => ⟨by have := (o2.lt hk).1; omega, (o2.lt hk).2⟩
    have o3 := o2.ext S3.ext (fun k hk h => by
      have h1 := hA2 k hk
      rcases h with h | h
      · omega
      · have := hgw _ h; omega)
    have hg3 : ∀ k, ob A2 = some k → g3 ≠ some k := fun k hk h => by
      have h1 := hA2 k hk
      rcases S3.row with e | ⟨k', e, hk'⟩
      · have := hgw k (e ▸ h); omega
      · rw [e] at h; injection h with h; omega
    have S0 : WStep w base p g w3 g3 (l ++ L) := WStep.pre X2 S3
    have cv := run_convert_rd (P := Try.prog) w3 22 9 5 Try.underlying22 Try.underlying9 Try.underlying5 o3.rd k0 c2 hLl
    go_wp2_with fail
    clear cv
    go_loopw [7] (fun i wr => ∃ (j : Nat) (l' : List UInt8), j ≤ k0 ∧ i = .int .i64 j ∧ l'.length = k0 ∧ OwB wr (w.heap.size + 1) A2 c2 l' ∧ WStep w base p g wr g3 (l ++ L)) (fun i _ => k0 - (intOf i).toNat)
    case atStart => exact ⟨0, L, by omega, rfl, hLl, o3, S0⟩
    case round =>
      clear S0 o3 S3 o2
      obtain ⟨j, l', hj, rfl, hl', o, S⟩ := hrel
      by_cases hjk : j < k0
      · obtain ⟨hA, ⟨u, hc⟩, hf, o', x'⟩ := o.set_ (j := j) (by omega) 63 63 rfl
        have S' : WStep w base p g (wr.setCell ((A2.getD default).add j) (.int .u8 63)) g3 (l ++ L) :=
          ⟨S.wr.ext x' (fun h => by have := hA2 _ h; omega) (fun k hk h => hg3 k h hk), S.ext.trans x' (fun i hi h => by have := hA2 _ h; omega), S.row⟩
        clear hg3 hA2
        go_wp2
        exact ⟨⟨j + 1, l'.set j 63, by omega, by go_num, by simpa using hl', o', S'⟩, by simp [intOf]; omega⟩
      · go_wp2
        go_ret
        exact ⟨L, g3, rfl, by omega, S⟩
  by_cases h6 : K = 6
  · subst h6
    clear h1 h2 h3 h4 h5
    obtain ⟨n1, hn1, hn1a, hn1b, _⟩ := min_atI Z 100
    have bS1 := bS.cell 1
    as_aux_lemma =>
    go_enter Try.func14, Try.ntmps14
    go_wp2_with fail
    have ctr := wzeros_calls W0 hbase0 n1 (by omega)
    with_reducible refine Calls.mono ctr ?_
    clear ctr
    rintro e w1 ⟨rfl, g1, S1⟩
    clear bS1
    go_wp2_with fail
    have ctr := rzeros_calls w1 n1 (by omega)
    with_reducible refine Calls.mono ctr ?_
    clear ctr
    rintro e w2 ⟨rfl, rfl⟩
    go_wp2_with fail
    go_ret
    exact ⟨zeros n1.toNat, g1, rfl, by rw [zeros_length]; omega, WStep.pre y0 S1⟩
  · have bS0 := bS.cell 0
    as_aux_lemma =>
    go_enter Try.func14, Try.ntmps14
    go_wp2_with fail
    go_ret
    exact ⟨[], g, rfl, by simp, by rw [List.append_nil]; exact WStep.pre y0 (WStep.refl W0)⟩

/-- The elements of the puts: four cells each. -/
def putsAt (w : World) (A : Option Addr) (n : Nat) : Prop := ∀ i, i < n → A.isSome = true ∧ ∃ (K Z : Int) (N : Nat) (B : Option Addr) (nb cb : Nat) (lb : List UInt8), (N : Int) ≤ 18446744073709551615 ∧ lb.length = nb ∧ nb ≤ cb ∧ Rd w (· < w.heap.size) B (bvs lb) ∧
  w.cell? ((A.getD default).add (i * 4)) = some (.int .i64 K) ∧ w.cell? ⟨((A.getD default).add (i * 4)).block, ((A.getD default).add (i * 4)).off + 1, none⟩ = some (.int .i64 Z) ∧
  w.cell? ⟨((A.getD default).add (i * 4)).block, ((A.getD default).add (i * 4)).off + 2, none⟩ = some (.int .u64 N) ∧ w.cell? ⟨((A.getD default).add (i * 4)).block, ((A.getD default).add (i * 4)).off + 3, none⟩ = some (.slice B nb cb)

set_option maxRecDepth 100000 in
set_option maxHeartbeats 4000000 in
theorem writes_walk (A0 : Option Addr) (n0 c0 : Nat) (w : World) (hp : putsAt w A0 n0) :
    Calls Try.prog 4 #[.slice A0 n0 c0] w fun e w' => e = .returned (.bool true) ∧ Below w.heap.size w w' := by
  go_enter Try.func4, Try.ntmps4
  go_wp2_with fail
  have ctr := shown_calls w
  with_reducible refine Calls.mono ctr ?_
  clear ctr
  rintro e w1 ⟨rfl, x1⟩
  have W1 := new_wr w1 w.heap.size
  have X1 : Ext Non w (w1.alloc (.cells #[.slice none 0 0] 26)) := x1.alloc _
  have hw1 := x1.size
  go_wp2_with fail
  go_loopw [5, 6] (fun s i wr => ∃ (j : Nat) (g : Option Nat) (l : List UInt8), j ≤ 50 ∧ s = .string (str l) ∧ i = .int .i64 j ∧ l.length ≤ 100 * j ∧ Wr wr w.heap.size w1.heap.size g l ∧ Ext Non w wr) (fun _ i _ => 50 - (intOf i).toNat)
  case atStart => exact ⟨0, none, [], by omega, rfl, rfl, by simp, W1, X1⟩
  case round =>
    obtain ⟨j, g, l, hj, rfl, rfl, hl, W, X⟩ := hrel
    have hXs := X.size
    by_cases hj1 : j < n0 ∧ j < 50
    · obtain ⟨hj1, hj50⟩ := hj1
      have hj50' : (j : Int) < 50 := by omega
      obtain ⟨hA, K, Z, N, B, nb, cb, lb, hN, hlb, hcb, rb, e0, e1, e2, e3⟩ := hp j hj1
      replace e0 := X.cell e0 (fun h => h)
      replace e1 := X.cell e1 (fun h => h)
      replace e2 := X.cell e2 (fun h => h)
      replace e3 := X.cell e3 (fun h => h)
      go_wp2_with fail
      have ctr := puts_calls W hXs (by omega) K Z N hN B nb cb lb hlb hcb (rb.extN X)
      with_reducible refine Calls.mono ctr ?_
      clear ctr
      rintro e w2 ⟨m, g2, rfl, hm, S2⟩
      clear e0 e1 e2 e3
      obtain ⟨ln, hln⟩ : ∃ n, l.length = n := ⟨_, rfl⟩
      obtain ⟨mn, hmn⟩ : ∃ n, m.length = n := ⟨_, rfl⟩
      obtain ⟨L, hL⟩ : ∃ L, L = l ++ m := ⟨_, rfl⟩
      obtain ⟨hs1, hs2, hs3, hs4, hmax⟩ := sum_facts hL.symm ln mn hln hmn (by omega)
      rw [← hL] at S2
      have hLl : L.length = ln + mn := by rw [hL, List.length_append, hln, hmn]
      clear hL
      go_wp2_with fail
      have ctr := wdone_calls S2.wr (ln + mn) hLl (by omega)
      with_reducible refine Calls.mono ctr ?_
      clear ctr
      rintro e w3 ⟨A3, c3, rfl, o3, x3⟩
      have cv := run_convert_rd (P := Try.prog) w3 22 9 5 Try.underlying22 Try.underlying9 Try.underlying5 o3.rd (ln + mn) c3 hLl
      have W3 := S2.wr.extN x3
      have X3 : Ext Non w w3 := (X.trans S2.ext (fun k hk h => by rcases h with h | h; omega; have := (W.row h).1; omega)).transN x3
      have hq2 := S2.wr.lt
      have hg2 : ∀ k, ob A3 = some k → k ≠ w1.heap.size ∧ g2 ≠ some k ∧ w.heap.size ≤ k := fun k hk => by
        have h1 := (o3.lt hk).1
        have h2 := X3.size
        have h3 := S2.ext.size
        refine ⟨by omega, fun h => ?_, by omega⟩
        have := (S2.wr.row h).2
        omega
      go_wp2_with fail
      clear cv
      go_loopw [8] (fun i wr => ∃ (k : Nat) (l' : List UInt8), k ≤ ln + mn ∧ i = .int .i64 k ∧ l'.length = ln + mn ∧ OwB wr w2.heap.size A3 c3 l' ∧ Wr wr w.heap.size w1.heap.size g2 L ∧ Ext Non w wr) (fun i _ => ln + mn - (intOf i).toNat)
      case atStart => exact ⟨0, L, by omega, rfl, hLl, o3, W3, X3⟩
      case round =>
        clear W3 X3 o3
        obtain ⟨k, l', hk, rfl, hl', o, W, X⟩ := hrel
        by_cases hkn : k < ln + mn
        · obtain ⟨hA, ⟨u, hc⟩, hf, o', x'⟩ := o.set_ (j := k) (by omega) 33 33 rfl
          have W' := W.ext x' (fun h => (hg2 _ h).1 rfl) (fun k hk h => (hg2 k h).2.1 hk)
          have X' := X.trans x' (fun i hi h => by have := (hg2 i h).2.2; omega)
          clear hg2
          go_wp2
          exact ⟨⟨k + 1, l'.set k 33, by omega, by go_num, by simpa using hl', o', W', X'⟩, by simp [intOf]; omega⟩
        · go_wp2_with fail
          exact ⟨⟨j + 1, g2, L, by omega, rfl, by go_num, by omega, W, X⟩, by simp [intOf]; omega⟩
    · obtain ⟨ln, hln⟩ : ∃ n, l.length = n := ⟨_, rfl⟩
      obtain ⟨hs1, hs2, hs3, hs4, hmax⟩ := sum_facts (l := l) (m := [1]) (r := l ++ [1]) rfl ln 1 hln rfl (by omega)
      have hs3' : str l ++ { data := #[1] } = str (l ++ [1]) := hs3
      have hb1 : be 1 1 = [1] := rfl
      clear hs3
      go_wp2_with fail
      all_goals
        as_aux_lemma =>
        have ctr := wu8_calls W hXs 1 (by omega) (by omega)
        with_reducible refine Calls.mono ctr ?_
        clear ctr
        rintro e w2 ⟨rfl, g2, S2⟩
        rw [hb1] at S2
        go_wp2_with fail
        have ctr := wbytes_calls S2.wr (Nat.le_trans hXs S2.ext.size) (B := none) (D := Non) (m := []) 0 0 (.inl rfl) rfl (by simp; omega)
        with_reducible refine Calls.mono ctr ?_
        clear ctr
        rintro e w3 ⟨rfl, g3, S3⟩
        have S23 := S2.trans S3
        have ep3 := fun W : World => run_eql_ptr_same (P := Try.prog) W (j := (Try.prog.info? 26).getD default) (⟨w1.heap.size, 0, none⟩ : Addr) Try.underlying24 (by kernel_rfl)
        go_wp2_with fail
        have ctr := wzeros_calls S23.wr (Nat.le_trans hXs S23.ext.size) (-1) (by simp; omega)
        with_reducible refine Calls.mono ctr ?_
        clear ctr
        rintro e w4 ⟨rfl, g4, S4⟩
        have S24 := S23.trans S4
        have hz : zeros (-1 : Int).toNat = [] := rfl
        rw [hz, List.append_nil, List.append_nil] at S24
        go_wp2_with fail
        have ctr := wdone_calls S24.wr (ln + 1) (by simp [hln]) (by simp; omega)
        with_reducible refine Calls.mono ctr ?_
        clear ctr
        rintro e w5 ⟨A5, c5, rfl, o5, x5⟩
        have cv := run_convert_rd (P := Try.prog) w5 22 9 5 Try.underlying22 Try.underlying9 Try.underlying5 o5.rd (ln + 1) c5 (by simp [hln])
        go_wp2
        go_ret
        exact ⟨rfl, ((X.trans S24.ext (fun k hk h => by rcases h with h | h; omega; have := (W.row h).1; omega)).transN x5).belowN⟩
end Go.Proofs.Ytkgnhkkmingenaa
