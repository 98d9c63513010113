/- Log2 (layer 6): what it hands back. -/
import Derived.RangeFuncNested
import Derived.RangeFuncBound
import Derived.RangeFuncCalls
import Derived.RangeFuncLeaves
import Derived.Shelf.Abstract
import Derived.Shelf.RegionOpen
import Derived.OwnWalkIn
import Derived.TacticsInMore
import Derived.LoopNIn
import Derived.LoopIn
import Derived.Test.YthdahfogjdpefaaLz
import Derived.Test.YthdahfogjdpefaaBit
import Derived.Test.YthdahfogjdpefaaProg
namespace Go.Proofs.Ythdahfogjdpefaa
open Go.RowKit Go.Shelf

attribute [local go_sem] Oper.semAt_some

/-- One digit of a logarithm, and what is left. -/
def ysq (x : Nat) : Nat := x * x / 2147483648
def ybit (x : Nat) : Nat := ysq x / 4294967296
def xnext (x : Nat) : Nat := ysq x / 2 ^ ybit x
def xs (x0 : Nat) : Nat → Nat
  | 0 => x0
  | k + 1 => xnext (xs x0 k)
def lgk (l0 x0 : Nat) : Nat → Nat
  | 0 => l0
  | k + 1 => 2 * lgk l0 x0 k + ybit (xs x0 k)

theorem ysq_bounds {x : Nat} (h1 : 2147483648 ≤ x) (h2 : x < 4294967296) : 2147483648 ≤ ysq x ∧ ysq x < 8589934592 := by
  have a : 2147483648 * 2147483648 ≤ x * x := Nat.mul_le_mul h1 h1
  have b : x * x < 4294967296 * 4294967296 := Nat.mul_lt_mul'' h2 h2
  unfold ysq
  omega
theorem x_bounds {x : Nat} (h1 : 2147483648 ≤ x) (h2 : x < 4294967296) : ybit x ≤ 1 ∧ 2147483648 ≤ xnext x ∧ xnext x < 4294967296 ∧ (ybit x = 0 → xnext x = ysq x) ∧ (ybit x = 1 → xnext x = ysq x / 2) := by
  have := ysq_bounds h1 h2
  have hb : ybit x ≤ 1 := by unfold ybit; omega
  rcases Nat.lt_or_ge (ysq x) 4294967296 with h | h
  · have h0 : ybit x = 0 := by unfold ybit; omega
    have hx : xnext x = ysq x := by unfold xnext; rw [h0]; simp
    exact ⟨hb, by omega, by omega, fun _ => hx, fun h => by omega⟩
  · have h0 : ybit x = 1 := by unfold ybit; omega
    have hx : xnext x = ysq x / 2 := by unfold xnext; rw [h0]
    exact ⟨hb, by omega, by omega, fun h => by omega, fun _ => hx⟩
theorem xs_bounds {x0 : Nat} (h1 : 2147483648 ≤ x0) (h2 : x0 < 4294967296) : ∀ k, 2147483648 ≤ xs x0 k ∧ xs x0 k < 4294967296
  | 0 => ⟨h1, h2⟩
  | k + 1 => by
    have ih := xs_bounds h1 h2 k
    have := x_bounds ih.1 ih.2
    exact ⟨this.2.1, this.2.2.1⟩

theorem lgk_lt (l0 : Nat) {x0 : Nat} (h1 : 2147483648 ≤ x0) (h2 : x0 < 4294967296) : ∀ k, lgk l0 x0 k < (l0 + 1) * 2 ^ k
  | 0 => by simp [lgk]
  | k + 1 => by
    have ih := lgk_lt l0 h1 h2 k
    have hb := xs_bounds h1 h2 k
    have := (x_bounds hb.1 hb.2).1
    have e : (l0 + 1) * 2 ^ (k + 1) = 2 * ((l0 + 1) * 2 ^ k) := by rw [Nat.pow_succ, ← Nat.mul_assoc, Nat.mul_comm]
    show 2 * lgk l0 x0 k + ybit (xs x0 k) < _
    omega

set_option maxRecDepth 100000 in
set_option maxHeartbeats 1000000 in
/-- The closure of digits: sixteen rounds, its state in its own cell. -/
theorem digits_in (n : Nat) (l Bx x0 : Nat) (hx1 : 2147483648 ≤ x0) (hx2 : x0 < 4294967296) (J : Nat → World → Prop)
    (hJ : ∀ k W (v : Value), J k W → J k (W.setCell ⟨Bx, 0, none⟩ v))
    (hY : ∀ k W, k < 16 → J k W → YieldAt Fence.wide (n - 1) Try.prog l #[.int .u32 (ybit (xs x0 k) : Nat)] W fun e W' =>
      e = .returned (.bool true) ∧ J (k + 1) W' ∧ W'.cell? ⟨Bx, 0, none⟩ = W.cell? ⟨Bx, 0, none⟩ ∧ W'.frozen? ⟨Bx, 0, none⟩ = W.frozen? ⟨Bx, 0, none⟩)
    (W : World) (hB : W.cell? ⟨Bx, 0, none⟩ = some (.int .u64 x0)) (hf : W.frozen? ⟨Bx, 0, none⟩ = false) (h0 : J 0 W) :
    CallsIn Fence.wide n Try.prog 20 #[.func (.yield l) #[] #[], .pointer (some ⟨Bx, 0, none⟩)] W fun e W' => (∃ v, e = .returned v) ∧ J 16 W' := by
  refine callsIn_of_wp Try.func20 rfl trivial ?_ rfl
  simp only [Try.ntmps20, List.size_toArray, List.length_cons, List.length_nil, Nat.reduceAdd, Nat.reduceSub, Array.replicate_succ, Array.replicate_zero, List.push_toArray, List.append_toArray, List.nil_append, List.cons_append]
  gi_wp2
  gi_loopw [4] (fun i wr => ∃ k : Nat, k ≤ 16 ∧ i = .int .i64 k ∧ wr.cell? ⟨Bx, 0, none⟩ = some (.int .u64 (xs x0 k : Nat)) ∧ wr.frozen? ⟨Bx, 0, none⟩ = false ∧ J k wr) (fun i _ => 16 - (intOf i).toNat)
  case atStart => exact ⟨0, by omega, rfl, hB, hf, h0⟩
  case round =>
    obtain ⟨k, hk, rfl, hc, hfz, hj⟩ := hrel
    by_cases hk16 : k < 16
    · have hb := xs_bounds hx1 hx2 k
      have hY' := hY k
      have hxs : xs x0 (k + 1) = xnext (xs x0 k) := rfl
      have hxb := x_bounds hb.1 hb.2
      have hyb := ysq_bounds hb.1 hb.2
      have hyd : xs x0 k * xs x0 k / 2147483648 = ysq (xs x0 k) := rfl
      have hzd : ysq (xs x0 k) / 2 ^ ybit (xs x0 k) = xnext (xs x0 k) := rfl
      have hbd : ysq (xs x0 k) / 4294967296 = ybit (xs x0 k) := rfl
      obtain ⟨x', hx'⟩ : ∃ x', xs x0 (k + 1) = x' := ⟨_, rfl⟩
      rw [hx'] at hxs
      have HX := Lib.hid hx'
      clear hx'
      generalize xs x0 k = x at *
      have hxx : x * x < 18446744073709551616 := by
        have : x * x < 4294967296 * 4294967296 := Nat.mul_lt_mul'' hb.2 hb.2
        omega
      generalize xnext x = z at *
      subst hxs
      generalize ysq x = y at *
      generalize ybit x = b at *
      have m0 : (x : Int) * (x : Int) = ((x * x : Nat) : Int) := by simp
      have m1 : IntKind.u64.wrap ((x : Int) * (x : Int)) = ((x * x : Nat) : Int) := by rw [m0, IntKind.wrap_u64]; omega
      have m2 : ((x * x : Nat) : Int) / 2147483648 = (y : Int) := by omega
      generalize x * x = q at *
      have m3 : (y : Int) / 4294967296 = (b : Int) := by omega
      have m4 : (y : Int) / 2 ^ b = (x' : Int) := by rw [← hzd]; simp
      clear hxb hzd hbd hyd
      have J1 := hJ k wr (.int .u64 y) hj
      have J2 := hJ k _ (.int .u64 x') J1
      obtain ⟨fn, tmps, assign, body, hy, hR⟩ := hY' _ hk16 J2
      clear J1
      gi_wp2
      refine ⟨fun h => (nomatch h), hR.mono ?_⟩
      rintro e W3 ⟨rfl, hj3, hc3, hf3⟩
      have hc4 : W3.cell? ⟨Bx, 0, none⟩ = some (.int .u64 x') := hc3.trans (World.cell?_setCell_same' _ _ _ (by rw [World.cell?_setCell_same' _ _ _ (by rw [hc]; rfl)]; rfl))
      have hf4 : W3.frozen? ⟨Bx, 0, none⟩ = false := by rw [hf3, World.frozen?_setCell, World.frozen?_setCell]; exact hfz
      clear hc3 hf3 J2 hy hR
      gi_wp2
      exact ⟨⟨k + 1, by omega, by go_num, by rw [HX.out]; exact hc4, hf4, hj3⟩, by simp [intOf]; omega⟩
    · gi_wp2
      go_end0
      obtain rfl : k = 16 := by omega
      exact ⟨⟨_, rfl⟩, hj⟩

set_option maxHeartbeats 1000000 in
/-- The statement 'for x := range f', outermost: the loop's record behind a name, and how its operations run. -/
theorem wpIn_range_named {P : Program} {n : Nat} {g : Operand} {ps : Array Tmp} {assign body : Code} {Q : Exit → Act → World → Prop} {a : Act} {w : World} {gf : Nat} {lb : Array Value} (h1 : 1 ≤ n)
    (hg : a.eval g = .func (.func gf) #[] lb) (eg : ∀ args w, (callFunc gf args).run P w = .ok (.enter gf args) w)
    (h : ∀ (fn : FuncId) (r : LoopState → Loop),
      (∀ (V : World) (l : Nat) (args : Array Value), V.heap[l]? = some (.loop (r .ready)) → args.size = ps.size → (Instr.yield l args).run P V = .ok (.round l fn ((ps.zip args).foldl (fun t (p, v) => t.setIfInBounds p v) a.tmps) assign body) V) →
      (∀ (V : World) (l : Nat), V.heap[l]? = some (.loop (r .ready)) → (Instr.beginRound l).run P V = .ok () (V.putObj l (.loop (r .busy)))) →
      (∀ (V : World) (l : Nat), V.heap[l]? = some (.loop (r .busy)) → (Instr.endRound l none).run P V = .ok (.bool true) (V.putObj l (.loop (r .ready)))) →
      (∀ (V : World) (l : Nat), V.heap[l]? = some (.loop (r .ready)) → (Instr.endLoop l).run P V = .ok none (V.putObj l (.loop (r .exhausted)))) →
      CallsIn Fence.wide (n - 1) P gf (#[.func (.yield (w.heap.size + 1)) #[] #[]] ++ lb) ((w.alloc (.deferred (some []))).alloc (.loop (r .ready)))
        (rangePost Fence.wide n P (w.heap.size + 1) Q { a with defers := [{ target := .collected w.heap.size, args := #[] }] ++ a.defers })) :
    (Code.rangeFunc g ps assign body).wpIn Fence.wide n P Q a w := by
  refine wpIn_rangeFunc ?_
  intro fn _
  obtain ⟨r, hr⟩ : ∃ r : LoopState → Loop, r = fun st => { state := st, pending := none, fn, tmps := a.tmps, params := ps, assign, body, defers := w.heap.size } := ⟨_, rfl⟩
  refine ⟨w.heap.size + 1, [{ target := .collected w.heap.size, args := #[] }], (w.alloc (.deferred (some []))).alloc (.loop (r .ready)), { target := .fn (.func gf) lb, args := #[.func (.yield (w.heap.size + 1)) #[] #[]] }, (w.alloc (.deferred (some []))).alloc (.loop (r .ready)), gf,
    #[.func (.yield (w.heap.size + 1)) #[] #[]] ++ lb, (w.alloc (.deferred (some []))).alloc (.loop (r .ready)), ?_, ?_, fun _ _ => trivial, ?_, fun _ => h1, ?_⟩
  rotate_left 3
  · refine h fn r ?_ ?_ ?_ ?_
    · intro V l args hV hs
      have := run_yield (P := P) (args := args) hV (by rw [hr]; exact hs)
      rw [hr] at this
      exact this
    · intro V l hV
      have := run_beginRound (P := P) hV (by rw [hr])
      rw [hr] at this ⊢
      exact this
    · intro V l hV
      have := run_endRound (P := P) none hV
      rw [hr] at this ⊢
      exact this
    · intro V l hV
      have := run_endLoop (P := P) hV (by rw [hr]; simp)
      rw [hr] at this ⊢
      exact this
  · rw [hr]; exact run_enterLoop_outer _ _ _ _ _
  · simp only [resolve, hg]
    simp [go_sem]
  · simp [invoke, go_sem, eg]

theorem Ext.putObj {S : Nat → Prop} {a w : World} (h : Ext S a w) {l : Nat} (hl : a.heap.size ≤ l ∨ S l) (o : Obj) : Ext S a (w.putObj l o) :=
  ⟨h.os, h.tape, h.output, by rw [World.putObj_size]; exact h.size, fun k hk hn => (World.putObj_heap_other (by
    rintro rfl
    rcases hl with hl | hl
    · omega
    · exact hn hl)).trans (h.block k hk hn)⟩
theorem cell_putObj {W : World} {l b : Nat} (o : Obj) (h : b ≠ l) : (W.putObj l o).cell? ⟨b, 0, none⟩ = W.cell? ⟨b, 0, none⟩ := World.cell?_of_block (a := ⟨b, 0, none⟩) (World.putObj_heap_other h)
theorem frozen_putObj {W : World} {l b : Nat} (o : Obj) (h : b ≠ l) : (W.putObj l o).frozen? ⟨b, 0, none⟩ = W.frozen? ⟨b, 0, none⟩ := World.frozen?_of_block (a := ⟨b, 0, none⟩) (World.putObj_heap_other h)
theorem heap_setCell0 (W : World) {b k : Nat} (v : Value) (h : k ≠ b) : (W.setCell ⟨b, 0, none⟩ v).heap[k]? = W.heap[k]? := Below.heap_setCell W ⟨b, 0, none⟩ v k h
theorem cell_setCell0 (W : World) {b k : Nat} (v : Value) (h : k ≠ b) : (W.setCell ⟨b, 0, none⟩ v).cell? ⟨k, 0, none⟩ = W.cell? ⟨k, 0, none⟩ := World.cell?_of_block (a := ⟨k, 0, none⟩) (heap_setCell0 W v h)

/-- The value of a small closure's maker. -/
theorem digits_calls (w : World) (x : Nat) : Calls Try.prog 18 #[.int .u64 x] w fun e w' => e = .returned (.func (.func 20) #[] #[.pointer (some ⟨w.heap.size, 0, none⟩)]) ∧ w' = w.alloc (.cells #[.int .u64 x] 23) := by
  go_enter Try.func18, Try.ntmps18
  go_wp2
  go_ret
  exact ⟨rfl, rfl⟩

/-- What Log2 hands back. -/
def lg (n : Nat) : Nat := if n = 0 then 0 else lgk (Lib.bitLen n - 1) (n * 2 ^ (32 - Lib.bitLen n)) 16

set_option maxRecDepth 100000 in
set_option maxHeartbeats 1000000 in
theorem log2_calls (w : World) (n : Nat) (hn : n < 4294967296) :
    Calls Try.prog 11 #[.int .u32 n] w fun e w' => e = .returned (.int .u32 (lg n : Nat)) ∧ Ext Non w w' := by
  by_cases h0 : n = 0
  · subst h0
    go_enter Try.func11, Try.ntmps11
    go_wp2
    go_ret
    exact ⟨rfl, Ext.refl _ _⟩
  · have hb := bitLen_bounds _ n (Lib.bitLen_le n 32 (by omega) (by omega)) rfl (by omega) hn
    have hb2 := Lib.bitLen_le n 32 (by omega) (by omega)
    have hlg : lg n = lgk (Lib.bitLen n - 1) (n * 2 ^ (32 - Lib.bitLen n)) 16 := by unfold lg; rw [if_neg h0]
    have hx1 : 2147483648 ≤ n * 2 ^ (32 - Lib.bitLen n) := by
      have e : (2147483648 : Nat) = 2 ^ (Lib.bitLen n - 1) * 2 ^ (32 - Lib.bitLen n) := by rw [← Nat.pow_add, show Lib.bitLen n - 1 + (32 - Lib.bitLen n) = 31 from by omega]
      rw [e]
      exact Nat.mul_le_mul_right _ hb.2.1
    have hx2 : n * 2 ^ (32 - Lib.bitLen n) < 4294967296 := by
      have e : (4294967296 : Nat) = 2 ^ Lib.bitLen n * 2 ^ (32 - Lib.bitLen n) := by rw [← Nat.pow_add, show Lib.bitLen n + (32 - Lib.bitLen n) = 32 from by omega]
      rw [e]
      exact Nat.mul_lt_mul_of_pos_right hb.2.2 (Nat.two_pow_pos _)
    have h0' : ¬ (n : Int) = 0 := by omega
    refine (callsIn_wide (n := 3)).1 ?_
    refine callsIn_of_wp_marks Try.func11 rfl trivial ?_ rfl
    simp only [Try.ntmps11, List.size_toArray, List.length_cons, List.length_nil, Nat.reduceAdd, Nat.reduceSub, Array.replicate_succ, Array.replicate_zero, List.push_toArray, List.append_toArray, List.nil_append, List.cons_append]
    obtain ⟨c, hc⟩ : ∃ c, 32 - Lib.bitLen n = c := ⟨_, rfl⟩
    obtain ⟨p, hp⟩ : ∃ p, Lib.bitLen n - 1 = p := ⟨_, rfl⟩
    have hcp : (31 : Int) - (c : Int) = (p : Int) := by omega
    have hp31 : p ≤ 31 := by omega
    have hc31 : c ≤ 31 := by omega
    have hlz := lz32_calls w n hn
    rw [hc] at hlz hlg hx1 hx2
    rw [hp] at hlg
    clear hc hp hb hb2
    obtain ⟨x0, hx0⟩ : ∃ x0, n * 2 ^ c = x0 := ⟨_, rfl⟩
    rw [hx0] at hx1 hx2 hlg
    have hsh : (n : Int) * 2 ^ c = (x0 : Int) := by rw [← hx0]; simp
    have HLG := Lib.hid hlg
    clear hlg hx0
    gi_wp2_with fail
    refine ⟨trivial, (callsIn_wide.2 hlz).mono ?_⟩
    rintro e w1 ⟨rfl, rfl⟩
    clear hlz
    gi_wp2_with fail
    refine ⟨trivial, (callsIn_wide.2 (digits_calls _ x0)).mono ?_⟩
    rintro e w1 ⟨rfl, rfl⟩
    gi_wp2_with fail
    refine wpIn_range_named (gf := 20) (by omega) rfl (enters_of Try.func20 (by kernel_rfl) rfl) ?_
    intro fn r hYd hBg hEn hEl
    simp only [World.size_alloc]
    have hl16 : ∀ k, k ≤ 16 → lgk p x0 k < 2097152 := fun k hk => by
      have h1 := lgk_lt p hx1 hx2 k
      have h2 : (p + 1) * 2 ^ k ≤ 32 * 2 ^ 16 := Nat.mul_le_mul (by omega) (Nat.pow_le_pow_right (by omega) hk)
      omega
    have hone : w.heap.size + 1 ≠ w.heap.size := by omega
    have bx : Blk ((((w.alloc (.cells #[.int .u32 p] 22)).alloc (.cells #[.int .u64 x0] 23)).alloc (.deferred (some []))).alloc (.loop (r .ready))) (w.heap.size + 1) 23 #[.int .u64 x0] := by
      have := ((Blk.new (w.alloc (.cells #[.int .u32 p] 22)) 23 #[.int .u64 x0]).alloc (.deferred (some []))).alloc (.loop (r .ready))
      rwa [World.size_alloc] at this
    have bl : Blk ((((w.alloc (.cells #[.int .u32 p] 22)).alloc (.cells #[.int .u64 x0] 23)).alloc (.deferred (some []))).alloc (.loop (r .ready))) w.heap.size 22 #[.int .u32 p] :=
      (((Blk.new w 22 #[.int .u32 p]).alloc (.cells #[.int .u64 x0] 23)).alloc (.deferred (some []))).alloc (.loop (r .ready))
    have hD1 : ((((w.alloc (.cells #[.int .u32 p] 22)).alloc (.cells #[.int .u64 x0] 23)).alloc (.deferred (some []))).alloc (.loop (r .ready))).heap[w.heap.size + 1 + 1]? = some (.deferred (some [])) := by
      have := World.alloc_heap_new ((w.alloc (.cells #[.int .u32 p] 22)).alloc (.cells #[.int .u64 x0] 23)) (.deferred (some []))
      simp only [World.size_alloc] at this
      exact (Below.heap_alloc _ _ _ (by simp only [World.size_alloc]; omega)).trans this
    have hL1 : ((((w.alloc (.cells #[.int .u32 p] 22)).alloc (.cells #[.int .u64 x0] 23)).alloc (.deferred (some []))).alloc (.loop (r .ready))).heap[w.heap.size + 1 + 1 + 1]? = some (.loop (r .ready)) := by
      have := World.alloc_heap_new (((w.alloc (.cells #[.int .u32 p] 22)).alloc (.cells #[.int .u64 x0] 23)).alloc (.deferred (some []))) (.loop (r .ready))
      simpa only [World.size_alloc] using this
    refine (digits_in (3 - 1) (w.heap.size + 1 + 1 + 1) (w.heap.size + 1) x0 hx1 hx2 (fun k W => W.heap[w.heap.size + 1 + 1 + 1]? = some (.loop (r .ready)) ∧ W.heap[w.heap.size + 1 + 1]? = some (.deferred (some [])) ∧
      W.cell? ⟨w.heap.size, 0, none⟩ = some (.int .u32 (lgk p x0 k : Nat)) ∧ W.frozen? ⟨w.heap.size, 0, none⟩ = false ∧ Ext Non w W) ?_ ?_ _ ?_ ?_ ?_).mono ?_
    · rintro k W v ⟨h1, h2, h3, h4, h5⟩
      refine ⟨(Below.heap_setCell W _ v _ (by intro e; have e : w.heap.size + 1 + 1 + 1 = w.heap.size + 1 := e; omega)).trans h1, (Below.heap_setCell W _ v _ (by intro e; have e : w.heap.size + 1 + 1 = w.heap.size + 1 := e; omega)).trans h2, ?_, by rw [World.frozen?_setCell]; exact h4, h5.setCell (.inl (by show w.heap.size ≤ w.heap.size + 1; omega)) v⟩
      exact (World.cell?_of_block (a := ⟨w.heap.size, 0, none⟩) (Below.heap_setCell W _ v _ (by intro e; have e : w.heap.size = w.heap.size + 1 := e; omega))).trans h3
    · rintro k W hk ⟨h1, h2, h3, h4, h5⟩
      have hb := xs_bounds hx1 hx2 k
      have hyb := (x_bounds hb.1 hb.2).1
      have hll := hl16 k (by omega)
      have hl1 := hl16 (k + 1) (by omega)
      have hln : lgk p x0 (k + 1) = 2 * lgk p x0 k + ybit (xs x0 k) := rfl
      have hlt : w.heap.size + 1 + 1 + 1 < W.heap.size := (Array.getElem?_eq_some_iff.1 h1).1
      obtain ⟨l, hl⟩ : ∃ l, lgk p x0 k = l := ⟨_, rfl⟩
      rw [hl] at h3 hll hln
      obtain ⟨l', hl'⟩ : ∃ l, lgk p x0 (k + 1) = l := ⟨_, rfl⟩
      rw [hl'] at hln hl1
      have HL' := Lib.hid hl'
      clear hl hl' hb
      generalize ybit (xs x0 k) = b at *
      have c2 : (W.putObj (w.heap.size + 1 + 1 + 1) (.loop (r .busy))).cell? ⟨w.heap.size, 0, none⟩ = some (.int .u32 l) := (World.cell?_of_block (a := ⟨w.heap.size, 0, none⟩) (World.putObj_heap_other (by simp only []; omega))).trans h3
      have f2 : (W.putObj (w.heap.size + 1 + 1 + 1) (.loop (r .busy))).frozen? ⟨w.heap.size, 0, none⟩ = false := (World.frozen?_of_block (a := ⟨w.heap.size, 0, none⟩) (World.putObj_heap_other (by simp only []; omega))).trans h4
      have L2 : (W.putObj (w.heap.size + 1 + 1 + 1) (.loop (r .busy))).heap[w.heap.size + 1 + 1 + 1]? = some (.loop (r .busy)) := World.putObj_heap_same hlt
      have D2 : (W.putObj (w.heap.size + 1 + 1 + 1) (.loop (r .busy))).heap[w.heap.size + 1 + 1]? = some (.deferred (some [])) := (World.putObj_heap_other (by omega)).trans h2
      have hsz2 : (W.putObj (w.heap.size + 1 + 1 + 1) (.loop (r .busy))).heap.size = W.heap.size := World.putObj_size
      have hor : bits .or .u32 ((l : Int) * 2) (b : Int) = (l' : Int) := by
        have e1 : (l : Int) * 2 = ((l * 2 : Nat) : Int) := by simp
        have e2 : l * 2 ||| b = l * 2 + b := by
          have := or_add l b 1 (by omega)
          simpa using this
        rw [e1, bits_or_nat .u32 wrapn_u32 _ _ (lt32 (by omega)) (lt32 (by omega)), e2]
        omega
      clear hln
      refine ⟨fn, _, _, _, hYd W _ _ h1 rfl, roundIn_of_wpIn trivial ?_⟩
      gi_wp2
      refine ⟨_, hBg W _ h1, ?_⟩
      gi_wp2
      have L3 := (heap_setCell0 (W.putObj (w.heap.size + 1 + 1 + 1) (.loop (r .busy))) (b := w.heap.size) (k := w.heap.size + 1 + 1 + 1) (.int .u32 l') (by omega)).trans L2
      refine ⟨_, _, hEn _ _ L3, rfl, ⟨?_, ?_, ?_, ?_, ?_⟩, ?_, ?_⟩
      · exact World.putObj_heap_same (Array.getElem?_eq_some_iff.1 L3).1
      · exact (World.putObj_heap_other (by omega)).trans ((heap_setCell0 _ _ (by omega)).trans D2)
      · rw [cell_putObj _ (by omega), HL'.out]
        exact World.cell?_setCell_same' _ _ _ (by rw [c2]; rfl)
      · rw [frozen_putObj _ (by omega), World.frozen?_setCell]
        exact f2
      · exact ((h5.putObj (.inl (by omega)) _).setCell (p := ⟨w.heap.size, 0, none⟩) (.inl (Nat.le_refl _)) _).putObj (.inl (by omega)) _
      · rw [cell_putObj _ (by omega), cell_setCell0 _ _ (by omega), cell_putObj _ (by omega)]
      · rw [frozen_putObj _ (by omega), World.frozen?_setCell, frozen_putObj _ (by omega)]
    · exact bx.cell 0
    · exact bx.frozen 0
    · exact ⟨hL1, hD1, bl.cell 0, bl.frozen 0, (((Ext.refl _ w).alloc _).alloc _).alloc _ |>.alloc _⟩
    · rintro e W ⟨⟨v, rfl⟩, h1, h2, h3, h4, h5⟩
      refine ⟨none, _, hEl W _ h1, ?_⟩
      have hlt : w.heap.size + 1 + 1 + 1 < W.heap.size := (Array.getElem?_eq_some_iff.1 h1).1
      have c2 : (W.putObj (w.heap.size + 1 + 1 + 1) (.loop (r .exhausted))).cell? ⟨w.heap.size, 0, none⟩ = some (.int .u32 (lgk p x0 16)) := (cell_putObj _ (by omega)).trans h3
      have D2 : (W.putObj (w.heap.size + 1 + 1 + 1) (.loop (r .exhausted))).heap[w.heap.size + 1 + 1]? = some (.deferred (some [])) := (World.putObj_heap_other (by omega)).trans h2
      gi_wp2
      refine ⟨by simp, .inl ⟨_, _, rfl, run_takeDeferred D2, ?_⟩⟩
      exact ⟨_, results_tmp rfl _ _ _, by rw [HLG.out]; rfl, (h5.putObj (.inl (by omega)) _).putObj (.inl (by omega)) _⟩
end Go.Proofs.Ythdahfogjdpefaa
