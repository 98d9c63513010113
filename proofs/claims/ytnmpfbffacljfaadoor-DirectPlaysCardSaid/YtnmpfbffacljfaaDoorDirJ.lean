/- Layer 9's statements: comparing with the document's directory; bytes that are loaded are those of what was loaded. -/
import Derived.Test.YtnmpfbffacljfaaDoorRdL
namespace Go.Proofs.YtnmpfbffacljfaaDoor
open Go.RowKit

theorem rcb_rdr {l : List UInt8} (h : 14 ≤ l.length) : rcb (rdr l) = l.take 14 := by
  unfold rcb rdr
  simp only
  rw [be_num 2 _ (by rw [List.length_take]; omega), be_num 4 _ (by rw [List.length_take, List.length_drop]; omega), be_num 4 _ (by rw [List.length_take, List.length_drop]; omega), be_num 4 _ (by rw [List.length_take, List.length_drop]; omega)]
  rw [← List.take_add, ← List.take_add, ← List.take_add]
theorem dirb_recs : ∀ (n : Nat) (l : List UInt8), l.length = n * 14 → dirb (recs l) = l
  | 0, l, h => by
    have e : l = [] := List.eq_nil_of_length_eq_zero (by omega)
    subst e
    rfl
  | n + 1, l, h => by
    have ih := dirb_recs n (l.drop 14) (by rw [List.length_drop]; omega)
    have e : recs l = rdr l :: recs (l.drop 14) := by
      unfold recs
      rw [List.length_drop, show l.length / 14 = (l.length - 14) / 14 + 1 by omega, List.range_succ_eq_map, List.map_cons, List.map_map]
      congr 1
      refine List.map_congr_left fun i _ => ?_
      simp only [Function.comp, List.drop_drop]
      rw [show (i + 1) * 14 = 14 + i * 14 by omega]
    rw [e]
    unfold dirb at *
    rw [List.flatMap_cons, ih, rcb_rdr (by omega), List.take_append_drop]
/-- What is loaded is sound, and its bytes are those it was loaded from. -/
theorem lode_sound {b : List UInt8} {S : List Rc} (h : lode b = (0, S)) : Sound S ∧ dirs S = b := by
  unfold lode at h
  by_cases h32 : b.length < 32
  · rw [if_pos h32] at h
    injection h with h
    cases h
  · rw [if_neg h32] at h
    by_cases hs : sha (b.take (b.length - 32)) = b.drop (b.length - 32)
    · rw [if_pos hs] at h
      by_cases h14 : (b.length - 32) % 14 = 0
      · rw [if_pos h14] at h
        have hlo : (b.take (b.length - 32)).length = b.length - 32 := by rw [List.length_take]; omega
        have hb : b.take (b.length - 32) ++ b.drop (b.length - 32) = b := List.take_append_drop _ _
        rw [← hs] at hb
        generalize b.take (b.length - 32) = own at *
        generalize hR : ldl [] (recs own) = R at h
        cases R with
        | none => injection h with h; cases h
        | some T =>
          injection h with _ h
          subst h
          have hok : ∀ r ∈ recs own, r.ok := fun r hr => by
            obtain ⟨i, hi, rfl⟩ := List.getElem_of_mem hr
            rw [recs_get]
            rw [recs_len] at hi
            exact rdr_ok (by rw [List.length_drop]; omega)
          have hls := ldl_sound (recs own) [] T Sound.nil hok hR
          rw [List.nil_append] at hls
          refine ⟨hls.2, ?_⟩
          unfold dirs
          rw [hls.1, dirb_recs ((b.length - 32) / 14) own (by omega)]
          exact hb
      · rw [if_neg h14] at h
        injection h with h
        cases h
    · rw [if_neg hs] at h
      injection h with h
      cases h
theorem rload_ok (w : World) (b : List UInt8) (hl : b.length ≤ 1000000) (T : List Rc) (hT : lode b = (0, T)) :
    Calls Tryd.prog 28 #[.string (str b)] w fun e w' => ∃ d, e = .returned (.tuple #[.pointer (some ⟨d, 0, none⟩), .int .i64 0]) ∧ RDi w' (fun k => w.heap.size ≤ k ∧ k < w'.heap.size) d T ∧ Ext Non w w' := by
  refine (rload_calls w b hl).mono ?_
  rintro e w' ⟨X, h⟩
  rw [hT] at h
  rcases h with ⟨h, _⟩ | ⟨_, d, h1, h2⟩
  · exact absurd rfl h
  · exact ⟨d, h1, h2, X⟩
theorem rload_no (w : World) (b : List UInt8) (hl : b.length ≤ 1000000) (z : Nat) (hz : (lode b).1 = z) (h0 : z ≠ 0) :
    Calls Tryd.prog 28 #[.string (str b)] w fun e w' => e = .returned (.tuple #[.pointer none, .int .i64 (z : Int)]) ∧ Ext Non w w' := by
  refine (rload_calls w b hl).mono ?_
  rintro e w' ⟨X, h⟩
  rw [hz] at h
  rcases h with ⟨_, h⟩ | ⟨h, _⟩
  · exact ⟨h, X⟩
  · exact absurd h h0
set_option maxRecDepth 100000 in
theorem neq_rr (w : World) (a f u n : Nat) : (binOp .neq 40 (.agg #[.int .u16 a, .int .u32 f, .int .u32 u, .int .u32 n]) (.agg #[.int .u16 a, .int .u32 f, .int .u32 u, .int .u32 n])).run Tryd.prog w = .ok (.bool false) w := by
  have e : (Op.equalIn 10000 40 (.agg #[.int .u16 a, .int .u32 f, .int .u32 u, .int .u32 n]) (.agg #[.int .u16 a, .int .u32 f, .int .u32 u, .int .u32 n])).run Tryd.prog w = .ok true w := by
    go_simp
  rw [run_neq_struct, e]
  rfl
set_option maxRecDepth 100000 in
set_option maxHeartbeats 4000000 in
/-- Two rows of records that are the same. -/
theorem same_calls {w : World} {b1 b2 : Nat} {A A2 : Option Addr} {c c2 : Nat} {l : List Rc} (O : OwR w b1 A c l) (O2 : OwRD w b2 A2 c2 l) (n : Nat) (hn : l.length = n) (hn64 : n ≤ 64) :
    Calls Tryd.prog 21 #[.slice A n c, .slice A2 n c2] w fun e w' => e = .returned (.bool true) ∧ Ext Non w w' := by
  go_enter Tryd.func21, Tryd.ntmps21
  go_wp2_with fail
  go_loopw [5] (fun z wr => ∃ i : Nat, i ≤ n ∧ z = .int .i64 i ∧ Ext Non w wr) (fun z _ => n - (intOf z).toNat)
  case atStart => exact ⟨0, Nat.zero_le _, rfl, Ext.refl _ _⟩
  case round =>
    obtain ⟨i, hi, rfl, X⟩ := hrel
    by_cases him : i < n
    · have i3 : (i : Int) < (n : Int) := by omega
      have hil : i < l.length := by omega
      obtain ⟨hA, g, o, hga, _, f0, f1, f2, f3⟩ := OwR.at_ (OwO.extN O X.drew) i hil
      obtain ⟨hA2, g2, o2, hga2, _, k0, k1, k2, k3⟩ := OwRD.at_ (OwO.extN O2 X.drew) i hil
      generalize l[i] = x at *
      obtain ⟨xa, xf, xu, xn⟩ := x
      simp only at f0 f1 f2 f3 k0 k1 k2 k3
      have fc : ∀ W, Ext Non wr.drew W → W.cell? ⟨g, o, none⟩ = some (.int .u16 xa) ∧ W.cell? ⟨g, o + 1, none⟩ = some (.int .u32 xf) ∧ W.cell? ⟨g, o + 2, none⟩ = some (.int .u32 xu) ∧ W.cell? ⟨g, o + 3, none⟩ = some (.int .u32 xn) := fun W x => ⟨x.cell f0 (fun h => h), x.cell f1 (fun h => h), x.cell f2 (fun h => h), x.cell f3 (fun h => h)⟩
      have kc : ∀ W, Ext Non wr.drew W → W.cell? ⟨g2, o2, none⟩ = some (.int .u16 xa) ∧ W.cell? ⟨g2, o2 + 1, none⟩ = some (.int .u32 xf) ∧ W.cell? ⟨g2, o2 + 2, none⟩ = some (.int .u32 xu) ∧ W.cell? ⟨g2, o2 + 3, none⟩ = some (.int .u32 xn) := fun W x => ⟨x.cell k0 (fun h => h), x.cell k1 (fun h => h), x.cell k2 (fun h => h), x.cell k3 (fun h => h)⟩
      clear f0 f1 f2 f3 k0 k1 k2 k3
      go_upto_region 6 with (fail)
      replace X := X.drew
      refine wp_region_seq Non ((0, true) :: (1, true) :: (2, true) :: (3, true) :: (5, true) :: (6, true) :: (7, true) :: (8, true) :: (4, false) :: (9, true) :: []) (by kernel_rfl) (by kernel_rfl) (by kernel_rfl) ?_
      generalize wr.drew = v4 at *
      iterate 8 (refine wpSeq_quiet rfl rfl ?_; apply Exists.intro; refine ⟨?_, ?_⟩; (intro W hW; obtain ⟨u0, u1, u2, u3⟩ := fc W hW; obtain ⟨u4, u5, u6, u7⟩ := kc W hW; go_simp; try with_reducible rfl); (intro K hK; simp only [Act.put, List.setIfInBounds_toArray, List.set_cons_zero, List.set_cons_succ]; refine hK _ ?_; clear hK K))
      clear fc kc
      refine wpSeq_call rfl rfl (fun K hK => ?_)
      go_simp
      have ctr := of_calls v4 xa xf xu xn
      with_reducible refine Calls.mono ctr ?_
      clear ctr
      rintro e w5 ⟨rfl, x5⟩
      go_simp
      refine hK _ _ x5 ?_
      clear hK K
      iterate 1 (refine wpSeq_quiet rfl rfl ?_; apply Exists.intro; refine ⟨?_, ?_⟩; (intro W hW; have u0 := neq_rr W xa xf xu xn; go_simp; try with_reducible rfl); (intro K hK; simp only [Act.put, List.setIfInBounds_toArray, List.set_cons_zero, List.set_cons_succ]; refine hK _ ?_; clear hK K))
      refine wpSeq_end ?_
      go_wp2_with fail
      exact ⟨⟨i + 1, by omega, by go_num, X.transN x5⟩, by simp [intOf]; omega⟩
    · obtain rfl : n = i := by omega
      go_wp2_with fail
      go_ret
      exact ⟨rfl, X⟩
end Go.Proofs.YtnmpfbffacljfaaDoor
