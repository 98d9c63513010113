/- The document's answer for layer 16: Split. -/
import Derived.Test.YtcdpmedmhindaaaRef16
import Derived.Test.YtcdpmedmhindaaaOwV
import Derived.Deep.DeepCutAuto
namespace Go.Proofs.Ytcdpmedmhindaaa
open Go.RowKit

theorem rd_new (w : World) (t : TypeId) (cs : List Value) : Rd (w.alloc (.cells cs.toArray t)) (· < w.heap.size + 1) (some ⟨w.heap.size, 0, none⟩) cs := by
  have := Rd.of_blk (D := (· < w.heap.size + 1)) (Blk.new w t cs.toArray) (Nat.lt_succ_self _) 0 cs.length
  simpa using this
theorem strinfo : (Try.prog.info? 9).map (fun i => (i.zero, i.size, i.bytes)) = some (some (.string ByteArray.empty), 1, 16) := by kernel_rfl
def tx (l : List UInt8) : Value := .string (str l)
theorem rtext_x (w : World) (id fr bx : Nat) (hid : id < 4294967296) (hfr : fr < 65536) (hbx : bx < 65536) {m : List UInt8} (hm : m.length ≤ 4096) (i : Nat) (hi : i < cnt m) (nc : Nat) (hc : cnt m = nc) :
    Calls Try.prog 30 #[.agg #[.int .i64 1, .int .u32 id, .int .u16 fr, .int .u16 bx, .int .i64 (i : Int), .int .i64 (nc : Int), .string (str (pce m i))]] w fun e w' => e = .returned (.string (str (pcb (mpc id fr bx m i)))) ∧ Ext Non w w' := by
  subst hc
  exact rtext_calls w (mpc id fr bx m i) (mpc_ok hid hfr hbx m i) (mpc_rt id fr bx hm hi)
theorem pce_extract (m : List UInt8) (i n e : Nat) (hn : m.length = n) (he : min (244 * i + 244) n = e) : (str m).extract (244 * i) e = str (pce m i) := by
  rw [str_extract, List.drop_take]
  unfold pce
  congr 1
  rcases Nat.le_total (244 * i + 244) n with h | h
  · congr 1; omega
  · rw [List.take_of_length_le (by rw [List.length_drop]; omega), List.take_of_length_le (by rw [List.length_drop]; omega)]
set_option maxRecDepth 100000 in
set_option maxHeartbeats 4000000 in
theorem rsplit_calls (w : World) (id fr bx : Nat) (m : List UInt8) (hm : m.length ≤ 4096) (hid : id < 4294967296) (hfr : fr < 65536) (hbx : bx < 65536) (N : Nat) (hN : cnt m = N) :
    Calls Try.prog 18 #[.int .u32 id, .int .u16 fr, .int .u16 bx, .string (str m)] w fun e w' =>
      ∃ A c, e = .returned (.tuple #[.slice A N c, .int .i64 0]) ∧ OwV 9 w' w.heap.size A c ((pcbs id fr bx m N).map tx) ∧ Ext Non w w' := by
  obtain ⟨n, hn⟩ : ∃ n, m.length = n := ⟨_, rfl⟩
  have hsz : (str m).size = n := by rw [str_size, hn]
  have cf := cnt_facts m hm
  rw [hN] at cf
  have cf1 := cf.1
  have cf2 := cf.2.1
  have cf3 := cf.2.2
  rw [hn] at cf3
  have i0 : ¬ 4096 < (n : Int) := by omega
  have hmx : (1 ≤ ((n : Int) + 243) / 244 ∧ ((n : Int) + 243) / 244 = (N : Int)) ∨ (((n : Int) + 243) / 244 < 1 ∧ (N : Int) = 1) := by
    rw [← hN]
    unfold cnt
    rw [hn]
    omega
  clear cf
  go_enter Try.func18, Try.ntmps18
  go_upto_region 3 with (fail)
  go_cut [10] (fun s wc => s = .int .i64 (N : Int) ∧ w = wc)
  case first =>
    rcases hmx with ⟨h1, h2⟩ | ⟨h1, h2⟩
    · go_wp2_with fail
      go_meet
      case rel => exact ⟨rfl, rfl⟩
    · obtain rfl : N = 1 := by omega
      go_wp2_with fail
      go_meet
      case rel => exact ⟨rfl, rfl⟩
  case rest =>
    obtain ⟨rfl, rfl⟩ := hcut
    clear hmx
    have o1 : OwV 9 (w.alloc (.cells #[] 9)) w.heap.size (some ⟨w.heap.size, 0, none⟩) 0 [] := OwV.made w (Nat.le_refl _)
    have X1 := (Ext.refl Non w).alloc (.cells #[] 9)
    go_wp2_with fail
    go_loopw [11, 12] (fun s z wr => ∃ (i : Nat) (A : Option Addr) (c : Nat), i ≤ N ∧ z = .int .i64 i ∧ s = .slice A i c ∧ OwV 9 wr w.heap.size A c ((pcbs id fr bx m i).map tx) ∧ Ext Non w wr) (fun _ z _ => N - (intOf z).toNat)
    case atStart => exact ⟨0, _, _, by omega, rfl, rfl, o1, X1⟩
    case round =>
      clear o1 X1
      obtain ⟨i, A, c, hi, rfl, rfl, o, X⟩ := hrel
      by_cases hlt : i < N
      · have i1 : (i : Int) < (N : Int) := by omega
        obtain ⟨q, hq⟩ : ∃ q, min (244 * i + 244) n = q := ⟨_, rfl⟩
        have hx := pce_extract m i n q hn hq
        have hin : 244 * i ≤ n := by omega
        have hqn : q ≤ n := by omega
        have hiq : 244 * i ≤ q := by omega
        have w1 : IntKind.i64.wrap (244 * (i : Int)) = 244 * (i : Int) := by rw [IntKind.wrap_i64]; omega
        have w2 : IntKind.i64.wrap (244 * (i : Int) + 244) = 244 * (i : Int) + 244 := by rw [IntKind.wrap_i64]; omega
        have mn : (if (n : Int) < 244 * (i : Int) + 244 then (n : Int) else 244 * (i : Int) + 244) = (q : Int) := by split <;> omega
        have i2 : (0 : Int) ≤ 244 * (i : Int) := by omega
        have i3 : 244 * (i : Int) ≤ (q : Int) := by omega
        have i4 : (q : Int) ≤ (n : Int) := by omega
        have i5 : (244 * (i : Int)).toNat = 244 * i := by omega
        obtain ⟨bt, hbt⟩ : ∃ b, pcb (mpc id fr bx m i) = b := ⟨_, rfl⟩
        have ctt := rtext_x wr id fr bx hid hfr hbx hm i (by rw [hN]; exact hlt) N hN
        rw [hbt] at ctt
        clear hq
        go_wp2_with fail
        with_reducible refine Calls.mono ctt ?_
        clear ctt hx mn i2 i3 i4 i5 w1 w2
        rintro e w3 ⟨rfl, x3⟩
        have oT := OwV.alloc (o.extN x3) (.cells #[.string (str bt)] 9)
        have X4 := (X.transN x3).alloc (.cells #[.string (str bt)] 9)
        have hb4 : w.heap.size ≤ (w3.alloc (.cells #[.string (str bt)] 9)).heap.size := X4.size
        have hlen : ((pcbs id fr bx m i).map tx).length = i := by rw [List.length_map, pcbs_len]
        clear o X x3
        go_wp2_with (at_builtin; refine wp_apV Try.underlying32 strinfo rfl (by decide) rfl (.tmp 27) (.tmp 45) rfl i rfl oT hlen 1 1 rfl (rd_new w3 9 [.string (str bt)]) (by simp [Value.oneCell']) rfl (by rw [hlen]; simp; omega) hb4 ?_; intro A' c' w5 o5 x5 hob)
        have X5 := X4.trans x5 (fun b hb h => by have := (oT.lt h).1; omega)
        have o6 : OwV 9 w5 w.heap.size A' c' ((pcbs id fr bx m (i + 1)).map tx) := by
          rw [pcbs_succ, List.map_append, hbt]
          exact o5
        exact ⟨⟨i + 1, A', c', by omega, by go_num, rfl, o6, X5⟩, by simp [intOf]; omega⟩
      · obtain rfl : i = N := by omega
        have i1 : ¬ (i : Int) < (i : Int) := by omega
        go_wp2_with fail
        go_ret2
        exact ⟨A, c, rfl, o, X⟩
theorem rsplit_full (w : World) (m : List UInt8) (x1 x2 x3 : Int) (hm : 4096 < m.length) (hmm : m.length ≤ maxLen) :
    Calls Try.prog 18 #[.int .u32 x1, .int .u16 x2, .int .u16 x3, .string (str m)] w fun e w' => e = .returned (.tuple #[.slice none 0 0, .int .i64 8]) ∧ w = w' := by
  obtain ⟨n, hn⟩ : ∃ n, m.length = n := ⟨_, rfl⟩
  have hsz : (str m).size = n := by rw [str_size, hn]
  have i0 : 4096 < (n : Int) := by omega
  go_enter Try.func18, Try.ntmps18
  go_wp2_with fail
  go_ret2
  exact ⟨rfl, rfl⟩
end Go.Proofs.Ytcdpmedmhindaaa
