/- Codes of parts that a slice literal holds. -/
import Derived.Test.YtgbaijmpfdhoeaaDoorDerive
namespace Go.Proofs.YtgbaijmpfdhoeaaDoor
open Go.RowKit

theorem partsN {w v v' : World} (x : Ext Non w v) (ps : List Part) (hps : ∀ q ∈ ps, Rd w (· < w.heap.size) q.a (bvs q.l) ∧ q.l.length ≤ q.c) (cells : Array Value) (hc : (ps.map Part.val).toArray = cells) (y : Ext Non (v.alloc (.cells cells 22)) v') :
    Parts v' (· < v'.heap.size) (some ⟨v.heap.size, 0, none⟩) ps := by
  subst hc
  have hs := x.size
  have hs2 := y.size
  rw [World.size_alloc] at hs2
  have p1 := (parts_new (w := v) (D := (· < w.heap.size)) 22 ps (fun k hk => Nat.lt_of_lt_of_le hk hs) (fun q hq => ⟨(hps q hq).1.extN x, (hps q hq).2⟩)).extN y
  exact p1.imp (fun k _ hk => by omega)
section
variable {w v v' : World} (x : Ext Non w v) (G : Glob w) (hw2 : 2 ≤ w.heap.size) (ps : List Part) (hps : ∀ q ∈ ps, Rd w (· < w.heap.size) q.a (bvs q.l) ∧ q.l.length ≤ q.c) (n : Nat) (hn : ps.length = n) (hn6 : n ≤ 1000) (cells : Array Value) (hc : (ps.map Part.val).toArray = cells) (y : Ext Non (v.alloc (.cells cells 22)) v')
include x G hw2 hps hn hn6 hc y
theorem derN_calls (hps2 : ∀ q ∈ ps, q.l.length ≤ 1000) (k : List UInt8) (hk : k.length = 32) (label : List UInt8) (hl : label.length ≤ 1000) (msg : List UInt8) (hmsg : dmsg label (ps.map Part.l) = msg) :
    Calls Tryd.prog 19 #[.agg (ba k), .string (str label), .slice (some ⟨v.heap.size, 0, none⟩) n n] v' fun e w' => e = .returned (.agg (ba (hm k msg))) ∧ Ext Non v' w' := by
  subst hmsg
  have hx := (x.alloc (.cells cells 22)).transN y
  have := hx.size
  exact derive_calls (G.extN hx) (by omega) k hk label hl n n (partsN x ps hps cells hc y) hn (Nat.le_refl _) hn6 hps2
theorem macN_calls {A : Option Addr} {key : List UInt8} (m c : Nat) (hr : Rd v' (· < v'.heap.size) A (bvs key)) (hkm : key.length = m) (hcc : m ≤ c) (hlen : m ≤ 562949953421312) (hall : (allOf ps).length ≤ 562949953421000) (l : List UInt8) (hl : allOf ps = l) :
    Calls Tryd.prog 14 #[.slice A m c, .slice (some ⟨v.heap.size, 0, none⟩) n n] v' fun e w' => e = .returned (.agg (ba (hm key l))) ∧ Ext Non v' w' := by
  subst hl
  have hx := (x.alloc (.cells cells 22)).transN y
  have := hx.size
  exact mac_calls (G.extN hx) (by omega) m c hr hkm hcc hlen n n (partsN x ps hps cells hc y) hn (Nat.le_refl _) hall (by omega)
theorem shortN_calls (k : List UInt8) (hk : k.length = 32) (hall : (allOf ps).length ≤ 562949953421000) (l : List UInt8) (hl : allOf ps = l) :
    Calls Tryd.prog 16 #[.agg (ba k), .slice (some ⟨v.heap.size, 0, none⟩) n n] v' fun e w' => e = .returned (.agg (ba ((hm k l).take 16))) ∧ Ext Non v' w' := by
  subst hl
  have hx := (x.alloc (.cells cells 22)).transN y
  have := hx.size
  exact short_calls (G.extN hx) (by omega) k hk n n (partsN x ps hps cells hc y) hn (Nat.le_refl _) hall (by omega)
end
@[go_sem ↓] theorem eql_key (w : World) (k m k' m' : List UInt8) : (binOp .eql 29 (.agg (ba (hm k m))) (.agg (ba (hm k' m')))).run Tryd.prog w = .ok (.bool (hm k m == hm k' m')) w :=
  run_eql_bytes w Tryd.underlying29 Tryd.underlying5 s8 Tryd.isAgg5 _ _ (hm_len _ _) (hm_len _ _)
@[go_sem ↓] theorem eql_mac (w : World) (k m k' m' : List UInt8) : (binOp .eql 26 (.agg (ba (hm k m))) (.agg (ba (hm k' m')))).run Tryd.prog w = .ok (.bool (hm k m == hm k' m')) w :=
  run_eql_bytes w Tryd.underlying26 Tryd.underlying5 s8 Tryd.isAgg5 _ _ (hm_len _ _) (hm_len _ _)
@[go_sem ↓] theorem neq_mac (w : World) (k m k' m' : List UInt8) : (binOp .neq 26 (.agg (ba (hm k m))) (.agg (ba (hm k' m')))).run Tryd.prog w = .ok (.bool (!(hm k m == hm k' m'))) w :=
  run_neq_bytes w Tryd.underlying26 Tryd.underlying5 s8 Tryd.isAgg5 _ _ (hm_len _ _) (hm_len _ _)
@[go_sem ↓] theorem eql_m16 (w : World) (k m k' m' : List UInt8) : (binOp .eql 35 (.agg (ba ((hm k m).take 16))) (.agg (ba ((hm k' m').take 16)))).run Tryd.prog w = .ok (.bool ((hm k m).take 16 == (hm k' m').take 16)) w :=
  run_eql_bytes w Tryd.underlying35 Tryd.underlying5 s8 Tryd.isAgg5 _ _ (m16_len _ _) (m16_len _ _)
/-- One part, as a slice literal has it. -/
theorem one_part {w : World} {A : Option Addr} {l : List UInt8} {n c : Nat} (hr : Rd w (· < w.heap.size) A (bvs l)) (hn : l.length = n) (hc : n ≤ c) :
    (∀ q ∈ ([⟨A, c, l⟩] : List Part), Rd w (· < w.heap.size) q.a (bvs q.l) ∧ q.l.length ≤ q.c) ∧ Hid ((([⟨A, c, l⟩] : List Part).map Part.val).toArray = #[.slice A n c]) ∧ Hid (allOf [⟨A, c, l⟩] = l) := by
  refine ⟨fun q hq => ?_, ?_, ?_⟩
  · simp only [List.mem_cons, List.not_mem_nil, or_false] at hq
    subst hq
    exact ⟨hr, by show l.length ≤ c; omega⟩
  · show _ = _
    simp [Part.val, hn]
  · show _ = _
    simp [allOf]
end Go.Proofs.YtgbaijmpfdhoeaaDoor
