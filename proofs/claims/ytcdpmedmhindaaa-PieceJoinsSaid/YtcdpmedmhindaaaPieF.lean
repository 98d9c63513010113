/- Layer 16's statements: a piece that is looked at (few), the document's piece (of); comparing them. -/
import Derived.Test.YtcdpmedmhindaaaPieG
import Derived.Test.YtcdpmedmhindaaaSeqS
import Derived.StillTailTactics
namespace Go.Proofs.Ytcdpmedmhindaaa
open Go.RowKit

/-- The document's piece. -/
def rpc (p : Pc) : Array Value := #[.int .i64 p.kind, .int .u32 p.id, .int .u16 p.fr, .int .u16 p.bx, .int .i64 p.place, .int .i64 p.count, .string (str p.b)]
@[go_sem ↓] theorem big_store_rp (x v : Value) : Instr.storeAt 52 x v = bigStore 52 x v := rfl
set_option maxRecDepth 100000 in
theorem equalIn_rp (w : World) (p q : Pc) : (Op.equalIn 10000 52 (.agg (rpc p)) (.agg (rpc q))).run Try.prog w = .ok (decide (p = q)) w := by
  unfold rpc
  go_simp
  simp only [Int.natCast_inj]
  by_cases h : p = q
  · subst h
    simp
  · have hn : ∀ h0 : p.kind = q.kind, ∀ h1 : p.id = q.id, ∀ h2 : p.fr = q.fr, ∀ h3 : p.bx = q.bx, ∀ h4 : p.place = q.place, ∀ h5 : p.count = q.count, ∀ h6 : p.b = q.b, False := fun h0 h1 h2 h3 h4 h5 h6 => h (Pc.tup_inj (by simp only [Pc.tup, h0, h1, h2, h3, h4, h5, h6]))
    rw [decide_eq_false h]
    repeat' split
    all_goals first | rfl | (exfalso; apply hn <;> assumption) | skip
    all_goals simp_all
theorem eql_rp (w : World) (p q : Pc) : (binOp .eql 52 (.agg (rpc p)) (.agg (rpc q))).run Try.prog w = .ok (.bool (decide (p = q))) w := by
  rw [run_eql_struct, equalIn_rp w p q]
  rfl
theorem neq_rp (w : World) (p q : Pc) : (binOp .neq 52 (.agg (rpc p)) (.agg (rpc q))).run Try.prog w = .ok (.bool (!decide (p = q))) w := by
  rw [run_neq_struct, equalIn_rp w p q]
  rfl
set_option maxRecDepth 100000 in
set_option maxHeartbeats 1000000 in
/-- The document's piece of a piece. -/
theorem of_calls (w : World) (p : Pc) (A : Option Addr) (c : Nat) {D : Nat → Prop} (r : Rd w D A (bvs p.b)) :
    Calls Try.prog 22 #[.agg (pcA p A c)] w fun e w' => e = .returned (.agg (rpc p)) ∧ Ext Non w w' := by
  obtain ⟨ki, id, fr, bx, pl, co, b⟩ := p
  unfold pcA rpc
  obtain ⟨n, hn⟩ : ∃ n, b.length = n := ⟨_, rfl⟩
  simp only [hn]
  go_enter Try.func22, Try.ntmps22
  have Y := ((Ext.refl Non w).alloc (.cells #[.int .i64 ki, .int .u32 id, .int .u16 fr, .int .u16 bx, .int .i64 pl, .int .i64 co, .slice A n c] 45)).alloc (.cells #[.int .i64 0, .int .u32 0, .int .u16 0, .int .u16 0, .int .i64 0, .int .i64 0, .string ⟨#[]⟩] 52)
  have Bq := Blk.new (w.alloc (.cells #[.int .i64 ki, .int .u32 id, .int .u16 fr, .int .u16 bx, .int .i64 pl, .int .i64 co, .slice A n c] 45)) 52 #[.int .i64 0, .int .u32 0, .int .u16 0, .int .u16 0, .int .i64 0, .int .i64 0, .string ⟨#[]⟩]
  have cv := conv_str (r.extN Y) n c hn
  rw [World.size_alloc] at Bq
  have st := Bq.big_store (P := Try.prog) (ty := 52) (cs' := #[.int .i64 ki, .int .u32 id, .int .u16 fr, .int .u16 bx, .int .i64 pl, .int .i64 co, .string (str b)]) rfl (by kernel_rfl) (by simp [Value.oneCell'])
  have Bz := Bq.setRow #[.int .i64 ki, .int .u32 id, .int .u16 fr, .int .u16 bx, .int .i64 pl, .int .i64 co, .string (str b)]
  have X := Y.setRow (g := w.heap.size + 1) (.inl (by omega)) #[.int .i64 ki, .int .u32 id, .int .u16 fr, .int .u16 bx, .int .i64 pl, .int .i64 co, .string (str b)]
  clear Bq Y
  go_wp2_with fail
  exact bodyPost_ret (Blk.results Bz Try.results22 _ rfl Try.underlying52 rfl (by kernel_rfl)) rfl ⟨rfl, X⟩
set_option maxRecDepth 100000 in
set_option maxHeartbeats 2000000 in
/-- A piece with at most three hundred bytes. -/
theorem few_calls (w : World) (p : Pc) (A : Option Addr) (c : Nat) (hc : p.b.length ≤ c) (hcm : c ≤ maxLen) {D : Nat → Prop} (r : Rd w D A (bvs p.b)) :
    Calls Try.prog 20 #[.agg (pcA p A c)] w fun e w' => ∃ A' c', e = .returned (.agg (pcA { p with b := p.b.take 300 } A' c')) ∧ OwB w' w.heap.size A' c' (p.b.take 300) ∧ Ext Non w w' := by
  obtain ⟨ki, id, fr, bx, pl, co, b⟩ := p
  unfold pcA
  simp only at hc r ⊢
  obtain ⟨n, hn⟩ : ∃ n, b.length = n := ⟨_, rfl⟩
  obtain ⟨k, hk, hka, hkb, hkc⟩ := min_at n 300 (by omega)
  obtain ⟨l, hl⟩ : ∃ l, b.take 300 = l := ⟨_, rfl⟩
  have hlk : l.length = k := by rw [← hl, List.length_take]; omega
  have rl : Rd w D A (bvs l) := by
    have := r.take 300
    rw [← hl]
    simpa [bvs, List.map_take] using this
  simp only [hn, hl, hlk] at hc ⊢
  clear hl r
  go_enter Try.func20, Try.ntmps20
  have B1 := (Blk.new w 45 #[.int .i64 ki, .int .u32 id, .int .u16 fr, .int .u16 bx, .int .i64 pl, .int .i64 co, .slice A n c]).alloc (.cells #[.int .i64 0, .int .u32 0, .int .u16 0, .int .u16 0, .int .i64 0, .int .i64 0, .slice none 0 0] 45)
  have Z1 := Blk.new (w.alloc (.cells #[.int .i64 ki, .int .u32 id, .int .u16 fr, .int .u16 bx, .int .i64 pl, .int .i64 co, .slice A n c] 45)) 45 #[.int .i64 0, .int .u32 0, .int .u16 0, .int .u16 0, .int .i64 0, .int .i64 0, .slice none 0 0]
  have X1 := ((Ext.refl Non w).alloc (.cells #[.int .i64 ki, .int .u32 id, .int .u16 fr, .int .u16 bx, .int .i64 pl, .int .i64 co, .slice A n c] 45)).alloc (.cells #[.int .i64 0, .int .u32 0, .int .u16 0, .int .u16 0, .int .i64 0, .int .i64 0, .slice none 0 0] 45)
  have hs1 : ((w.alloc (.cells #[.int .i64 ki, .int .u32 id, .int .u16 fr, .int .u16 bx, .int .i64 pl, .int .i64 co, .slice A n c] 45)).alloc (.cells #[.int .i64 0, .int .u32 0, .int .u16 0, .int .u16 0, .int .i64 0, .int .i64 0, .slice none 0 0] 45)).heap.size = w.heap.size + 2 := by rw [World.size_alloc, World.size_alloc]
  rw [World.size_alloc] at Z1
  go_upto_region 1 with (fail)
  generalize (w.alloc (.cells #[.int .i64 ki, .int .u32 id, .int .u16 fr, .int .u16 bx, .int .i64 pl, .int .i64 co, .slice A n c] 45)).alloc (.cells #[.int .i64 0, .int .u32 0, .int .u16 0, .int .u16 0, .int .i64 0, .int .i64 0, .slice none 0 0] 45) = w1 at *
  have hs1' : w.heap.size + 2 ≤ w1.heap.size := by omega
  clear hs1
  have O2 : OwB (w1.alloc (.cells #[] 5)) w.heap.size (some ⟨w1.heap.size, 0, none⟩) 0 [] := World.ownsRow_made w1 #[] 0 (by omega) (by simp [maxLen]) rfl
  have X2 := X1.alloc (.cells #[] 5)
  have B2 := B1.alloc (.cells #[] 5)
  have Z2 := Z1.alloc (.cells #[] 5)
  have hs2 : w.heap.size ≤ (w1.alloc (.cells #[] 5)).heap.size := by rw [World.size_alloc]; omega
  obtain ⟨_, _, _, _, _, _, a6⟩ := pc_cellsR B2
  go_upto_region 2 with (at_builtin; refine wp_ap8 rfl (.tmp 3) (.tmp 10) rfl 0 rfl O2 rfl k c rfl (rl.extN X2) hlk (by simp; omega) hs2 ?_; intro A3 c3 w3 o3 x3 hob3; have B3 := B2.ext x3 (fun h => by have h : w1.heap.size = w.heap.size := Option.some.inj h; omega); have b3 := B3.cell 6; have f3 := B3.frozen 6; have b3 : w3.cell? ⟨w.heap.size, 6, none⟩ = some (.slice A n c) := b3)
  clear b3 f3 a6
  rw [List.nil_append] at o3
  have n3 : ∀ b, b < w1.heap.size → ¬ (ob (some (⟨w1.heap.size, 0, none⟩ : Addr)) = some b) := fun b hb h => by have h : w1.heap.size = b := Option.some.inj h; omega
  have X3 := X2.trans x3 (fun b hb h => by have h : w1.heap.size = b := Option.some.inj h; omega)
  have Z3 := Z2.ext x3 (n3 _ (by omega))
  have lo3 : ∀ b, ob A3 = some b → w.heap.size + 2 ≤ b := fun b hb => by
    rcases hob3 with h | h
    · rw [h] at hb
      have hb : w1.heap.size = b := Option.some.inj hb
      omega
    · rw [h] at hb
      have hb := Option.some.inj hb
      rw [World.size_alloc] at hb
      omega
  have B4 := B3.set_ 6 (.slice A3 k c3)
  simp only [List.setIfInBounds_toArray, List.set_cons_succ, List.set_cons_zero] at B4
  have Y := (Ext.refl (One w.heap.size) w3).setCell (p := ⟨w.heap.size, 6, none⟩) (.inr rfl) (.slice A3 k c3)
  have Z4 := Z3.ext Y (fun h => by have h : w.heap.size + 1 = w.heap.size := h; omega)
  have o4 := o3.ext Y (fun b hb h => by have h : b = w.heap.size := h; have := lo3 b hb; omega)
  have X4 := X3.setCell (p := ⟨w.heap.size, 6, none⟩) (.inl (Nat.le_refl _)) (.slice A3 k c3)
  clear B1 B2 B3 Z1 Z2 Z3 X1 X2 X3 O2 o3 x3 hob3 Y n3
  generalize w3.setCell ⟨w.heap.size, 6, none⟩ (.slice A3 k c3) = w4 at *
  obtain ⟨a0, a1, a2, a3, a4, a5, a6⟩ := pc_cellsR B4
  have st := Z4.big_store (P := Try.prog) (ty := 45) (cs' := #[.int .i64 ki, .int .u32 id, .int .u16 fr, .int .u16 bx, .int .i64 pl, .int .i64 co, .slice A3 k c3]) rfl (by kernel_rfl) (by simp [Value.oneCell'])
  have Z5 := Z4.setRow #[.int .i64 ki, .int .u32 id, .int .u16 fr, .int .u16 bx, .int .i64 pl, .int .i64 co, .slice A3 k c3]
  have X5 := X4.setRow (g := w.heap.size + 1) (.inl (by omega)) #[.int .i64 ki, .int .u32 id, .int .u16 fr, .int .u16 bx, .int .i64 pl, .int .i64 co, .slice A3 k c3]
  have o5 := o4.ext ((Ext.refl (One (w.heap.size + 1)) w4).setRow (g := w.heap.size + 1) (.inr rfl) #[.int .i64 ki, .int .u32 id, .int .u16 fr, .int .u16 bx, .int .i64 pl, .int .i64 co, .slice A3 k c3]) (fun b hb h => by have h : b = w.heap.size + 1 := h; have := lo3 b hb; omega)
  clear Z4 X4 o4 B4
  go_wp2_with fail
  exact bodyPost_ret (Blk.results Z5 Try.results20 _ rfl Try.underlying45 rfl (by kernel_rfl)) rfl ⟨A3, c3, rfl, o5, X5⟩
section
variable (w : World) (ki : Int) (id fr bx : Nat) (pl co : Int) (b : List UInt8) {x1 x2 x3 : Int} (h1 : x1 = id) (h2 : x2 = fr) (h3 : x3 = bx) (A : Option Addr) (c n : Nat) (hn : b.length = n) {D : Nat → Prop} (r : Rd w D A (bvs b))
include h1 h2 h3 hn r
theorem of_x : Calls Try.prog 22 #[.agg #[.int .i64 ki, .int .u32 x1, .int .u16 x2, .int .u16 x3, .int .i64 pl, .int .i64 co, .slice A n c]] w fun e w' => e = .returned (.agg (rpc ⟨ki, id, fr, bx, pl, co, b⟩)) ∧ Ext Non w w' := by
  subst h1 h2 h3 hn
  exact of_calls w ⟨ki, id, fr, bx, pl, co, b⟩ A c r
theorem few_x (hc : n ≤ c) (hcm : c ≤ maxLen) (l : List UInt8) (hl : b.take 300 = l) (k : Nat) (hk : l.length = k) : Calls Try.prog 20 #[.agg #[.int .i64 ki, .int .u32 x1, .int .u16 x2, .int .u16 x3, .int .i64 pl, .int .i64 co, .slice A n c]] w fun e w' =>
    ∃ A' c', e = .returned (.agg #[.int .i64 ki, .int .u32 x1, .int .u16 x2, .int .u16 x3, .int .i64 pl, .int .i64 co, .slice A' k c']) ∧ OwB w' w.heap.size A' c' l ∧ Ext Non w w' := by
  subst h1 h2 h3 hn hl hk
  exact few_calls w ⟨ki, id, fr, bx, pl, co, b⟩ A c hc hcm r
theorem right_x (hl : n ≤ maxLen) (er : Nat) (he : pence ⟨ki, id, fr, bx, pl, co, b⟩ = er) {ez : Int} (hz : ez = er) : Calls Try.prog 29 #[.agg #[.int .i64 ki, .int .u32 x1, .int .u16 x2, .int .u16 x3, .int .i64 pl, .int .i64 co, .slice A n c]] w fun e w' => e = .returned (.int .i64 ez) ∧ Ext Non w w' := by
  subst h1 h2 h3 hn he hz
  have _ := r
  exact right_e_calls w ⟨ki, id, fr, bx, pl, co, b⟩ A c hl
end
/-- The piece of any 256 bytes. -/
theorem parse_x (w : World) {l : List UInt8} (hl : l.length = 256) (ki : Int) (id fr bx : Nat) (pl co : Int) (b : List UInt8) (er : Nat) (hp : pdec l = ⟨ki, id, fr, bx, pl, co, b⟩) (he : pdece l = er) {x1 x2 x3 ez : Int} (h1 : x1 = id) (h2 : x2 = fr) (h3 : x3 = bx) (hz : ez = er) (n : Nat) (hn : b.length = n) :
    Calls Try.prog 26 #[.agg (ba l)] w fun e w' => ∃ A c, e = .returned (.tuple #[.agg #[.int .i64 ki, .int .u32 x1, .int .u16 x2, .int .u16 x3, .int .i64 pl, .int .i64 co, .slice A n c], .int .i64 ez]) ∧ OwB w' w.heap.size A c b ∧ Ext Non w w' := by
  subst h1 h2 h3 hn hz he
  have ctr := parse_calls w hl
  rw [hp] at ctr
  exact ctr
end Go.Proofs.Ytcdpmedmhindaaa
