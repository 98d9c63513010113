/- The document's directory: Load. -/
import Derived.Test.YtnmpfbffacljfaaDoorRdA
import Derived.Test.YtnmpfbffacljfaaDoorSeqT
import Derived.Test.YtnmpfbffacljfaaDoorSeqS
namespace Go.Proofs.YtnmpfbffacljfaaDoor
open Go.RowKit

theorem number_x (w : World) (l : List UInt8) (hl : l.length ≤ 8) (n : Nat) (hn : num l = n) :
    Calls Tryd.prog 47 #[.string (str l)] w fun e w' => e = .returned (.int .u64 n) ∧ w = w' := by
  subst hn
  exact number_calls w l hl
theorem Ext.reput (v : World) (o o' : Obj) {n : Nat} (hn : n ≤ v.heap.size) : Ext (fun k => n ≤ k) (v.alloc o) (v.alloc o') :=
  ⟨rfl, rfl, rfl, by simp, fun i _ hne => by
    have hi : i < v.heap.size := by omega
    exact (Below.heap_alloc v o' i hi).trans (Below.heap_alloc v o i hi).symm⟩
section
variable {P : Program} {l : List Oper} {Q : Exit → Act → World → Prop} {S : Nat → Prop} {r s : Ordr} {a : Act} {w : World} {i j : Nat} {o o' : Oper}
theorem wpTree_skip (hi : l[i]? = some o) (hw : Region.wanted o (yielded l.toArray a.tmps) = false)
    (h : ∀ K : Act → Prop, (∀ a, wpTree P l.toArray Q S r a w → K a) → K (a.put o.dst undef)) : wpTree P l.toArray Q S (.q i r) a w :=
  ⟨o, undef, by simpa using hi, .inr ⟨hw, rfl⟩, h _ (fun _ h => h)⟩
theorem wpOp_pass {ops : Array Oper} {K : Act → World → Prop} (hi : ops[i]? = some o) (hw : Region.wanted o (yielded ops a.tmps) = false) (h : K (a.put o.dst undef) w) : wpOp P ops Q i K a w := by
  unfold wpOp
  simp only [hi, hw]
  exact h
theorem wpTree_pass (hi : l[i]? = some o) (hw : Region.wanted o (yielded l.toArray a.tmps) = false)
    (h : ∀ K : Act → Prop, (∀ a, wpTree P l.toArray Q S r a w → K a) → K (a.put o.dst undef)) : wpTree P l.toArray Q S (.c i r) a w :=
  wpOp_pass (by simpa using hi) hw ⟨Ext.refl S w, h _ (fun _ h => h)⟩
theorem wpTree_neither (hi : l[i]? = some o) (hw : Region.wanted o (yielded l.toArray a.tmps) = false) (hj : l[j]? = some o') (hw' : Region.wanted o' (yielded l.toArray a.tmps) = false)
    (h : ∀ K : Act → Prop, (∀ a, wpTree P l.toArray Q S r a w → K a) → K (a.put o.dst undef))
    (h' : ∀ K : Act → Prop, (∀ a, wpTree P l.toArray Q S s a w → K a) → K (a.put o'.dst undef)) : wpTree P l.toArray Q S (.b i r j s) a w :=
  ⟨wpOp_pass (by simpa using hi) hw ⟨Ext.refl S w, h _ (fun _ h => h)⟩, wpOp_pass (by simpa using hj) hw' ⟨Ext.refl S w, h' _ (fun _ h => h)⟩⟩
end
/-- An empty record. -/
abbrev zr : Array Value := #[.int .u16 0, .int .u32 0, .int .u32 0, .int .u32 0]
set_option maxRecDepth 100000 in
set_option maxHeartbeats 4000000 in
theorem rload_calls (w : World) (b : List UInt8) (hl : b.length ≤ 1000000) :
    Calls Tryd.prog 28 #[.string (str b)] w fun e w' => Ext Non w w' ∧ ((lode b).1 ≠ 0 ∧ e = .returned (.tuple #[.pointer none, .int .i64 ((lode b).1 : Nat)]) ∨
      (lode b).1 = 0 ∧ ∃ d, e = .returned (.tuple #[.pointer (some ⟨d, 0, none⟩), .int .i64 0]) ∧ RDi w' (fun k => w.heap.size ≤ k ∧ k < w'.heap.size) d (lode b).2) := by
  obtain ⟨z, hz⟩ : ∃ z, lode b = z := ⟨_, rfl⟩
  rw [hz]
  unfold lode at hz
  have HZ := Lib.hid hz
  clear hz
  have hbs : (str b).size = b.length := str_size b
  by_cases h32 : b.length < 32
  · have i1 : (b.length : Int) < 32 := by omega
    obtain rfl : z = (2, []) := by rw [← HZ.out, if_pos h32]
    go_enter Tryd.func28, Tryd.ntmps28
    go_wp2_with fail
    go_ret2
    first | exact ⟨Ext.refl _ _, .inl ⟨by decide, rfl⟩⟩ | exact ⟨Ext.refl _ _, rfl⟩
  · obtain ⟨m, hm⟩ : ∃ m : Nat, b.length = m + 32 := ⟨b.length - 32, by omega⟩
    have hm2 : b.length - 32 = m := by omega
    rw [if_neg h32, hm2] at HZ
    rw [hm] at hbs
    have i1 : ¬ ((m + 32 : Nat) : Int) < 32 := by omega
    have i2 : IntKind.i64.wrap (((m + 32 : Nat) : Int) - 32) = (m : Int) := by rw [IntKind.wrap_i64]; omega
    have hex : (str b).extract 0 m = str (b.take m) := by rw [str_extract, List.drop_zero]
    have hlo : (b.take m).length = m := by rw [List.length_take]; omega
    obtain ⟨own, how⟩ : ∃ own, b.take m = own := ⟨_, rfl⟩
    obtain ⟨q, hq⟩ : ∃ q, own ++ sha own = q := ⟨_, rfl⟩
    have hqb : (q == b) = decide (sha own = b.drop m) := by
      have hb : b = own ++ b.drop m := by rw [← how]; exact (List.take_append_drop m b).symm
      rw [Bool.eq_iff_iff, beq_iff_eq, decide_eq_true_eq, ← hq]
      constructor
      · intro h
        have h2 : own ++ sha own = own ++ b.drop m := h.trans hb
        exact List.append_cancel_left h2
      · intro h
        rw [h]
        exact hb.symm
    rw [how] at hex hlo HZ
    have HQ := Lib.hid hq
    clear hq how
    go_enter Tryd.func28, Tryd.ntmps28
    go_wp2_with fail
    have ctr := sealed_calls w own (by omega) q HQ.out
    with_reducible refine Calls.mono ctr ?_
    clear ctr
    rintro e w2 ⟨rfl, x2⟩
    have hs2 := x2.size
    by_cases hsum : sha own = b.drop m
    case neg =>
      have nq : (q == b) = false := by rw [hqb, decide_eq_false hsum]
      obtain rfl : z = (4, []) := by rw [← HZ.out, if_neg hsum]
      go_wp2_with fail
      go_ret2
      first | exact ⟨x2, .inl ⟨by decide, by go_simp⟩⟩ | exact ⟨x2, by go_simp⟩
    have nq : (q == b) = true := by rw [hqb, decide_eq_true hsum]
    rw [if_pos hsum] at HZ
    clear hqb hsum
    have hos : (str own).size = m := by rw [str_size, hlo]
    by_cases h14 : m % 14 = 0
    case neg =>
      have i4 : ((m : Int) % 14 != 0) = true := by rw [bne_iff_ne]; omega
      obtain rfl : z = (3, []) := by rw [← HZ.out, if_neg h14]
      go_wp2_with fail
      go_ret2
      first | exact ⟨x2, .inl ⟨by decide, rfl⟩⟩ | exact ⟨x2, rfl⟩
    rw [if_pos h14] at HZ
    have i4 : ((m : Int) % 14 != 0) = false := by rw [bne_eq_false_iff_eq]; omega
    go_wp2_with fail
    have H3 := RDi.new w2
    have X3 := x2.alloc (.cells #[.slice none 0 0] 32)
    have hs3 : (w2.alloc (.cells #[.slice none 0 0] 32)).heap.size = w2.heap.size + 1 := World.size_alloc ..
    generalize w2.alloc (.cells #[.slice none 0 0] 32) = w3 at *
    generalize hd : w2.heap.size = d at *
    clear nq x2
    obtain ⟨R, hR⟩ : ∃ R, ldl [] (recs own) = R := ⟨_, rfl⟩
    have hrl : (recs own).length * 14 = m := by rw [recs_len, hlo]; omega
    go_loopw [6] (fun y wr => ∃ (k : Nat) (S : List Rc) (D : Nat → Prop), k * 14 ≤ m ∧ y = .int .i64 ((k * 14 : Nat) : Int) ∧ RDi wr D d S ∧ (∀ i, D i → d ≤ i ∧ i < wr.heap.size) ∧ Sound S ∧ Hid (ldl S ((recs own).drop k) = R) ∧ Ext Non w wr) (fun y _ => m - (intOf y).toNat)
    case atStart => exact ⟨0, [], _, by omega, by simp, H3, fun i hi => by have hi : i = d := hi; omega, Sound.nil, Lib.hid (by rw [List.drop_zero]; exact hR), X3⟩
    case round =>
      clear H3 X3 hs3
      obtain ⟨k, S, D, hk, rfl, H, hD, hS, HL, X⟩ := hrel
      obtain ⟨at_, hat⟩ : ∃ at_, k * 14 = at_ := ⟨_, rfl⟩
      rw [hat] at hk ⊢
      by_cases hlt : at_ < m
      · have i1 : (at_ : Int) < (m : Int) := by omega
        have hle : at_ + 14 ≤ m := by omega
        have i2 : IntKind.i64.wrap ((at_ : Int) + 14) = ((at_ + 14 : Nat) : Int) := by rw [IntKind.wrap_i64]; omega
        have i3 : (at_ : Int) ≤ ((at_ + 14 : Nat) : Int) := by omega
        have i4 : ((at_ + 14 : Nat) : Int) ≤ (m : Int) := by omega
        have hkr : k < (recs own).length := by omega
        have hrk := recs_get own k hkr
        have hdl : (own.drop at_).length = m - at_ := by rw [List.length_drop, hlo]
        have hro := rdr_ok (l := own.drop (k * 14)) (by rw [hat]; omega)
        rw [← hrk] at hro
        rw [hat] at hrk
        have hcons : (recs own).drop k = (recs own)[k] :: (recs own).drop (k + 1) := List.drop_eq_getElem_cons hkr
        rw [hcons] at HL
        have hx14 : (str own).extract at_ (at_ + 14) = str ((own.drop at_).take 14) := by rw [str_extract, List.drop_take, show at_ + 14 - at_ = 14 by omega]
        have htk : ((own.drop at_).take 14).length = 14 := by rw [List.length_take]; omega
        have hrt : rdr ((own.drop at_).take 14) = rdr (own.drop at_) := by
          unfold rdr
          simp [List.drop_take, List.take_take]
        rw [← hrt] at hrk
        clear hrt hcons hdl
        generalize (own.drop at_).take 14 = c at *
        have hcs : (str c).size = 14 := by rw [str_size, htk]
        generalize (recs own)[k] = x at *
        obtain ⟨xa, xf, xu, xn⟩ := x
        obtain ⟨rest, hrest⟩ : ∃ rest, (recs own).drop (k + 1) = rest := ⟨_, rfl⟩
        rw [hrest] at HL
        have HREST := Lib.hid hrest
        clear hrest
        unfold rdr at hrk
        injection hrk with n1 n2 n3 n4
        have e1 : (str c).extract 0 2 = str (c.take 2) := by rw [str_extract, List.drop_zero]
        have e2 : (str c).extract 2 6 = str ((c.drop 2).take 4) := by rw [str_extract, List.drop_take]
        have e3 : (str c).extract 6 10 = str ((c.drop 6).take 4) := by rw [str_extract, List.drop_take]
        have e4 : (str c).extract 10 14 = str ((c.drop 10).take 4) := by rw [str_extract, List.drop_take]
        have l1 : (c.take 2).length ≤ 8 := by rw [List.length_take]; omega
        have l2 : ((c.drop 2).take 4).length ≤ 8 := by rw [List.length_take]; omega
        have l3 : ((c.drop 6).take 4).length ≤ 8 := by rw [List.length_take]; omega
        have l4 : ((c.drop 10).take 4).length ≤ 8 := by rw [List.length_take]; omega
        have N1 := Lib.hid n1.symm
        have N2 := Lib.hid n2.symm
        have N3 := Lib.hid n3.symm
        have N4 := Lib.hid n4.symm
        clear n1 n2 n3 n4
        generalize c.take 2 = p1 at *
        generalize (c.drop 2).take 4 = p2 at *
        generalize (c.drop 6).take 4 = p3 at *
        generalize (c.drop 10).take 4 = p4 at *
        have o1 : xa < 65536 := hro.ad
        have o2 : xf < 4294967296 := hro.fr
        have o3 : xu < 4294967296 := hro.up
        have o4 : xn < 4294967296 := hro.ln
        have v1 : IntKind.u16.wrap (xa : Int) = xa := by rw [IntKind.wrap_u16]; omega
        have v2 : IntKind.u32.wrap (xf : Int) = xf := by rw [IntKind.wrap_u32]; omega
        have v3 : IntKind.u32.wrap (xu : Int) = xu := by rw [IntKind.wrap_u32]; omega
        have v4 : IntKind.u32.wrap (xn : Int) = xn := by rw [IntKind.wrap_u32]; omega
        go_upto_region 13 with (fail)
        rw [hx14]
        go_cut [8] (fun s8 wc => ∃ g, s8 = .pointer (some ⟨g, 0, none⟩) ∧ wr.heap.size ≤ g ∧ Blk wc g 40 #[.int .u16 xa, .int .u32 xf, .int .u32 xu, .int .u32 xn] ∧ Ext Non wr wc)
        case first =>
          as_aux_lemma =>
          clear X HL H hD
          refine wp_region_tree (fun k => wr.heap.size ≤ k) (.q 0 (.q 1 (.q 4 (.q 5 (.q 8 (.q 9 (.q 12 (.q 13 (.b 2 (.q 3 (.b 6 (.q 7 (.b 10 (.q 11 (.b 14 (.q 15 (.q 16 (.c 17 (.c 18 .stop)))) 17 (.c 14 (.q 15 (.q 16 (.c 18 .stop)))))) 17 (.c 10 (.q 11 (.c 14 (.q 15 (.q 16 (.c 18 .stop)))))))) 17 (.c 6 (.q 7 (.c 10 (.q 11 (.c 14 (.q 15 (.q 16 (.c 18 .stop)))))))))) 17 (.c 2 (.q 3 (.c 6 (.q 7 (.c 10 (.q 11 (.c 14 (.q 15 (.q 16 (.c 18 .stop))))))))))))))))))) (by kernel_rfl) (by kernel_rfl) (by kernel_rfl) ?_
          have XW : Ext Non wr wr.drew := (Ext.refl Non wr).drew
          have hsv : wr.drew.heap.size = wr.heap.size := rfl
          iterate 8 (refine wpTree_quiet rfl rfl ?_; apply Exists.intro; refine ⟨?_, ?_⟩; (intro W hW; go_simp; try with_reducible rfl); (intro K hK; simp only [Act.put, List.setIfInBounds_toArray, List.set_cons_zero, List.set_cons_succ]; refine hK _ ?_; clear hK K))
          generalize wr.drew = v at *
          refine wpTree_both rfl rfl rfl rfl ?_ ?_
          · intro K hK
            go_simp
            have ctr := number_x v p1 l1 xa N1.out
            with_reducible refine Calls.mono ctr ?_
            clear ctr
            rintro e u ⟨rfl, rfl⟩
            go_simp
            refine hK _ _ (Ext.refl _ _) ?_
            clear hK K
            iterate 1 (refine wpTree_quiet rfl rfl ?_; apply Exists.intro; refine ⟨?_, ?_⟩; (intro W hW; go_simp; try with_reducible rfl); (intro K hK; simp only [Act.put, List.setIfInBounds_toArray, List.set_cons_zero, List.set_cons_succ]; refine hK _ ?_; clear hK K))
            refine wpTree_both rfl rfl rfl rfl ?_ ?_
            · intro K hK
              go_simp
              have ctr := number_x v p2 l2 xf N2.out
              with_reducible refine Calls.mono ctr ?_
              clear ctr
              rintro e u ⟨rfl, rfl⟩
              go_simp
              refine hK _ _ (Ext.refl _ _) ?_
              clear hK K
              iterate 1 (refine wpTree_quiet rfl rfl ?_; apply Exists.intro; refine ⟨?_, ?_⟩; (intro W hW; go_simp; try with_reducible rfl); (intro K hK; simp only [Act.put, List.setIfInBounds_toArray, List.set_cons_zero, List.set_cons_succ]; refine hK _ ?_; clear hK K))
              refine wpTree_both rfl rfl rfl rfl ?_ ?_
              · intro K hK
                go_simp
                have ctr := number_x v p3 l3 xu N3.out
                with_reducible refine Calls.mono ctr ?_
                clear ctr
                rintro e u ⟨rfl, rfl⟩
                go_simp
                refine hK _ _ (Ext.refl _ _) ?_
                clear hK K
                iterate 1 (refine wpTree_quiet rfl rfl ?_; apply Exists.intro; refine ⟨?_, ?_⟩; (intro W hW; go_simp; try with_reducible rfl); (intro K hK; simp only [Act.put, List.setIfInBounds_toArray, List.set_cons_zero, List.set_cons_succ]; refine hK _ ?_; clear hK K))
                refine wpTree_both rfl rfl rfl rfl ?_ ?_
                · intro K hK
                  go_simp
                  have ctr := number_x v p4 l4 xn N4.out
                  with_reducible refine Calls.mono ctr ?_
                  clear ctr
                  rintro e u ⟨rfl, rfl⟩
                  go_simp
                  refine hK _ _ (Ext.refl _ _) ?_
                  clear hK K
                  iterate 2 (refine wpTree_quiet rfl rfl ?_; apply Exists.intro; refine ⟨?_, ?_⟩; (intro W hW; go_simp; try with_reducible rfl); (intro K hK; simp only [Act.put, List.setIfInBounds_toArray, List.set_cons_zero, List.set_cons_succ]; refine hK _ ?_; clear hK K))
                  refine wpTree_call rfl rfl (fun K hK => ?_)
                  go_simp
                  refine hK _ _ ((Ext.refl (fun k => wr.heap.size ≤ k) v).alloc _) ?_
                  clear hK K
                  refine wpTree_call rfl rfl (fun K hK => ?_)
                  go_simp
                  refine hK _ _ (Ext.reput v _ _ (Nat.le_of_eq hsv.symm)) ?_
                  clear hK K
                  refine wpTree_end ?_
                  go_wp2_with fail
                  go_meet
                  case rel => exact ⟨_, rfl, Nat.le_refl _, by rw [← hsv]; exact Blk.new v 40 _, XW.alloc _⟩
                · intro K hK
                  go_simp
                  refine hK _ _ ((Ext.refl (fun k => wr.heap.size ≤ k) v).alloc _) ?_
                  clear hK K
                  refine wpTree_call rfl rfl (fun K hK => ?_)
                  go_simp
                  have ctr := number_x (v.alloc (.cells zr 40)) p4 l4 xn N4.out
                  with_reducible refine Calls.mono ctr ?_
                  clear ctr
                  rintro e u ⟨rfl, rfl⟩
                  go_simp
                  refine hK _ _ (Ext.refl _ _) ?_
                  clear hK K
                  iterate 2 (refine wpTree_quiet rfl rfl ?_; apply Exists.intro; refine ⟨?_, ?_⟩; (intro W hW; go_simp; try with_reducible rfl); (intro K hK; simp only [Act.put, List.setIfInBounds_toArray, List.set_cons_zero, List.set_cons_succ]; refine hK _ ?_; clear hK K))
                  refine wpTree_call rfl rfl (fun K hK => ?_)
                  go_simp
                  refine hK _ _ (Ext.reput v _ _ (Nat.le_of_eq hsv.symm)) ?_
                  clear hK K
                  refine wpTree_end ?_
                  go_wp2_with fail
                  go_meet
                  case rel => exact ⟨_, rfl, Nat.le_refl _, by rw [← hsv]; exact Blk.new v 40 _, XW.alloc _⟩
              · intro K hK
                go_simp
                refine hK _ _ ((Ext.refl (fun k => wr.heap.size ≤ k) v).alloc _) ?_
                clear hK K
                refine wpTree_call rfl rfl (fun K hK => ?_)
                go_simp
                have ctr := number_x (v.alloc (.cells zr 40)) p3 l3 xu N3.out
                with_reducible refine Calls.mono ctr ?_
                clear ctr
                rintro e u ⟨rfl, rfl⟩
                go_simp
                refine hK _ _ (Ext.refl _ _) ?_
                clear hK K
                iterate 1 (refine wpTree_quiet rfl rfl ?_; apply Exists.intro; refine ⟨?_, ?_⟩; (intro W hW; go_simp; try with_reducible rfl); (intro K hK; simp only [Act.put, List.setIfInBounds_toArray, List.set_cons_zero, List.set_cons_succ]; refine hK _ ?_; clear hK K))
                refine wpTree_call rfl rfl (fun K hK => ?_)
                go_simp
                have ctr := number_x (v.alloc (.cells zr 40)) p4 l4 xn N4.out
                with_reducible refine Calls.mono ctr ?_
                clear ctr
                rintro e u ⟨rfl, rfl⟩
                go_simp
                refine hK _ _ (Ext.refl _ _) ?_
                clear hK K
                iterate 2 (refine wpTree_quiet rfl rfl ?_; apply Exists.intro; refine ⟨?_, ?_⟩; (intro W hW; go_simp; try with_reducible rfl); (intro K hK; simp only [Act.put, List.setIfInBounds_toArray, List.set_cons_zero, List.set_cons_succ]; refine hK _ ?_; clear hK K))
                refine wpTree_call rfl rfl (fun K hK => ?_)
                go_simp
                refine hK _ _ (Ext.reput v _ _ (Nat.le_of_eq hsv.symm)) ?_
                clear hK K
                refine wpTree_end ?_
                go_wp2_with fail
                go_meet
                case rel => exact ⟨_, rfl, Nat.le_refl _, by rw [← hsv]; exact Blk.new v 40 _, XW.alloc _⟩
            · intro K hK
              go_simp
              refine hK _ _ ((Ext.refl (fun k => wr.heap.size ≤ k) v).alloc _) ?_
              clear hK K
              refine wpTree_call rfl rfl (fun K hK => ?_)
              go_simp
              have ctr := number_x (v.alloc (.cells zr 40)) p2 l2 xf N2.out
              with_reducible refine Calls.mono ctr ?_
              clear ctr
              rintro e u ⟨rfl, rfl⟩
              go_simp
              refine hK _ _ (Ext.refl _ _) ?_
              clear hK K
              iterate 1 (refine wpTree_quiet rfl rfl ?_; apply Exists.intro; refine ⟨?_, ?_⟩; (intro W hW; go_simp; try with_reducible rfl); (intro K hK; simp only [Act.put, List.setIfInBounds_toArray, List.set_cons_zero, List.set_cons_succ]; refine hK _ ?_; clear hK K))
              refine wpTree_call rfl rfl (fun K hK => ?_)
              go_simp
              have ctr := number_x (v.alloc (.cells zr 40)) p3 l3 xu N3.out
              with_reducible refine Calls.mono ctr ?_
              clear ctr
              rintro e u ⟨rfl, rfl⟩
              go_simp
              refine hK _ _ (Ext.refl _ _) ?_
              clear hK K
              iterate 1 (refine wpTree_quiet rfl rfl ?_; apply Exists.intro; refine ⟨?_, ?_⟩; (intro W hW; go_simp; try with_reducible rfl); (intro K hK; simp only [Act.put, List.setIfInBounds_toArray, List.set_cons_zero, List.set_cons_succ]; refine hK _ ?_; clear hK K))
              refine wpTree_call rfl rfl (fun K hK => ?_)
              go_simp
              have ctr := number_x (v.alloc (.cells zr 40)) p4 l4 xn N4.out
              with_reducible refine Calls.mono ctr ?_
              clear ctr
              rintro e u ⟨rfl, rfl⟩
              go_simp
              refine hK _ _ (Ext.refl _ _) ?_
              clear hK K
              iterate 2 (refine wpTree_quiet rfl rfl ?_; apply Exists.intro; refine ⟨?_, ?_⟩; (intro W hW; go_simp; try with_reducible rfl); (intro K hK; simp only [Act.put, List.setIfInBounds_toArray, List.set_cons_zero, List.set_cons_succ]; refine hK _ ?_; clear hK K))
              refine wpTree_call rfl rfl (fun K hK => ?_)
              go_simp
              refine hK _ _ (Ext.reput v _ _ (Nat.le_of_eq hsv.symm)) ?_
              clear hK K
              refine wpTree_end ?_
              go_wp2_with fail
              go_meet
              case rel => exact ⟨_, rfl, Nat.le_refl _, by rw [← hsv]; exact Blk.new v 40 _, XW.alloc _⟩
          · intro K hK
            go_simp
            refine hK _ _ ((Ext.refl (fun k => wr.heap.size ≤ k) v).alloc _) ?_
            clear hK K
            refine wpTree_call rfl rfl (fun K hK => ?_)
            go_simp
            have ctr := number_x (v.alloc (.cells zr 40)) p1 l1 xa N1.out
            with_reducible refine Calls.mono ctr ?_
            clear ctr
            rintro e u ⟨rfl, rfl⟩
            go_simp
            refine hK _ _ (Ext.refl _ _) ?_
            clear hK K
            iterate 1 (refine wpTree_quiet rfl rfl ?_; apply Exists.intro; refine ⟨?_, ?_⟩; (intro W hW; go_simp; try with_reducible rfl); (intro K hK; simp only [Act.put, List.setIfInBounds_toArray, List.set_cons_zero, List.set_cons_succ]; refine hK _ ?_; clear hK K))
            refine wpTree_call rfl rfl (fun K hK => ?_)
            go_simp
            have ctr := number_x (v.alloc (.cells zr 40)) p2 l2 xf N2.out
            with_reducible refine Calls.mono ctr ?_
            clear ctr
            rintro e u ⟨rfl, rfl⟩
            go_simp
            refine hK _ _ (Ext.refl _ _) ?_
            clear hK K
            iterate 1 (refine wpTree_quiet rfl rfl ?_; apply Exists.intro; refine ⟨?_, ?_⟩; (intro W hW; go_simp; try with_reducible rfl); (intro K hK; simp only [Act.put, List.setIfInBounds_toArray, List.set_cons_zero, List.set_cons_succ]; refine hK _ ?_; clear hK K))
            refine wpTree_call rfl rfl (fun K hK => ?_)
            go_simp
            have ctr := number_x (v.alloc (.cells zr 40)) p3 l3 xu N3.out
            with_reducible refine Calls.mono ctr ?_
            clear ctr
            rintro e u ⟨rfl, rfl⟩
            go_simp
            refine hK _ _ (Ext.refl _ _) ?_
            clear hK K
            iterate 1 (refine wpTree_quiet rfl rfl ?_; apply Exists.intro; refine ⟨?_, ?_⟩; (intro W hW; go_simp; try with_reducible rfl); (intro K hK; simp only [Act.put, List.setIfInBounds_toArray, List.set_cons_zero, List.set_cons_succ]; refine hK _ ?_; clear hK K))
            refine wpTree_call rfl rfl (fun K hK => ?_)
            go_simp
            have ctr := number_x (v.alloc (.cells zr 40)) p4 l4 xn N4.out
            with_reducible refine Calls.mono ctr ?_
            clear ctr
            rintro e u ⟨rfl, rfl⟩
            go_simp
            refine hK _ _ (Ext.refl _ _) ?_
            clear hK K
            iterate 2 (refine wpTree_quiet rfl rfl ?_; apply Exists.intro; refine ⟨?_, ?_⟩; (intro W hW; go_simp; try with_reducible rfl); (intro K hK; simp only [Act.put, List.setIfInBounds_toArray, List.set_cons_zero, List.set_cons_succ]; refine hK _ ?_; clear hK K))
            refine wpTree_call rfl rfl (fun K hK => ?_)
            go_simp
            refine hK _ _ (Ext.reput v _ _ (Nat.le_of_eq hsv.symm)) ?_
            clear hK K
            refine wpTree_end ?_
            go_wp2_with fail
            go_meet
            case rel => exact ⟨_, rfl, Nat.le_refl _, by rw [← hsv]; exact Blk.new v 40 _, XW.alloc _⟩
        case rest =>
          obtain ⟨g, rfl, hgw, B, Y⟩ := hcut
          have X4 := X.transN Y
          have H4 := H.extN Y
          have hsy := Y.size
          have hD4 : ∀ i, D i → i < wc.heap.size := fun i hi => by have := (hD i hi).2; omega
          have hgD : ¬ D g := fun h => by have := (hD g h).2; omega
          obtain ⟨n, hn⟩ : ∃ n, S.length = n := ⟨_, rfl⟩
          have hn64 : n ≤ 64 := by rw [← hn]; exact hS.len
          obtain ⟨A, cA, Bd, O, _⟩ := H4.ex
          rw [hn] at Bd
          clear H X Y p1 p2 p3 p4 N1 N2 N3 N4 e1 e2 e3 e4 l1 l2 l3 l4 v1 v2 v3 v4 hcs htk hx14
          go_upto_region 14 with (fail)
          have Bw := B.extN_ (Ext.refl Non wc).drew
          have yc := fun W (x : Ext D wc.drew W) => rc_cells (Bw.ext x hgD)
          have Bdw := Bd.extN_ (Ext.refl Non wc).drew
          have dc : wc.drew.cell? ⟨d, 0, none⟩ = some (.slice A n cA) := Bdw.cell 0
          replace H4 := H4.extN (Ext.refl Non wc).drew
          replace X4 := X4.drew
          replace hD4 : ∀ i, D i → i < wc.drew.heap.size := hD4
          clear Bw Bdw B Bd
          refine wp_region_tree D (.q 0 (.q 1 (.q 2 (.c 3 (.q 4 (.q 5 (.q 6 (.q 7 (.q 8 (.q 9 (.q 10 (.q 12 (.q 13 (.q 14 (.b 11 (.c 15 (.q 16 (.q 17 (.q 18 (.c 19 (.c 20 (.q 21 (.q 22 (.q 23 (.q 24 (.c 25 (.q 26 (.q 27 .stop))))))))))))) 15 (.q 16 (.q 17 (.c 11 (.q 18 (.c 19 (.c 20 (.q 21 (.q 22 (.q 23 (.q 24 (.c 25 (.q 26 (.q 27 .stop)))))))))))))))))))))))))))) (by kernel_rfl) (by kernel_rfl) (by kernel_rfl) ?_
          have O4 := OwO.extN O (Ext.refl Non wc).drew
          clear O
          generalize wc.drew = v4 at *
          rcases Nat.eq_zero_or_pos n with h0 | h0
          · subst h0
            obtain rfl : S = [] := List.eq_nil_of_length_eq_zero hn
            have hany : (([] : List Rc).getLast?.any fun y => klt (⟨xa, xf, xu, xn⟩ : Rc) y) = false := rfl
            iterate 3 (refine wpTree_quiet rfl rfl ?_; apply Exists.intro; refine ⟨?_, ?_⟩; (intro W hW; go_simp; try with_reducible rfl); (intro K hK; simp only [Act.put, List.setIfInBounds_toArray, List.set_cons_zero, List.set_cons_succ]; refine hK _ ?_; clear hK K))
            refine wpTree_call rfl rfl (fun K hK => ?_)
            go_simp
            refine hK _ _ (Ext.refl _ _) ?_
            clear hK K
            iterate 3 (refine wpTree_quiet rfl rfl ?_; apply Exists.intro; refine ⟨?_, ?_⟩; (intro W hW; go_simp; try with_reducible rfl); (intro K hK; simp only [Act.put, List.setIfInBounds_toArray, List.set_cons_zero, List.set_cons_succ]; refine hK _ ?_; clear hK K))
            iterate 7 (refine wpTree_skip rfl rfl (fun K hK => ?_); simp only [Act.put, List.setIfInBounds_toArray, List.set_cons_zero, List.set_cons_succ]; refine hK _ ?_; clear hK K)
            refine wpTree_neither rfl rfl rfl rfl (fun K hK => ?_) (fun K hK => ?_)
            · simp only [Act.put, List.setIfInBounds_toArray, List.set_cons_zero, List.set_cons_succ]
              refine hK _ ?_
              clear hK K
              iterate 1 (refine wpTree_pass rfl rfl (fun K hK => ?_); simp only [Act.put, List.setIfInBounds_toArray, List.set_cons_zero, List.set_cons_succ]; refine hK _ ?_; clear hK K)
              iterate 3 (refine wpTree_skip rfl rfl (fun K hK => ?_); simp only [Act.put, List.setIfInBounds_toArray, List.set_cons_zero, List.set_cons_succ]; refine hK _ ?_; clear hK K)
              iterate 2 (refine wpTree_pass rfl rfl (fun K hK => ?_); simp only [Act.put, List.setIfInBounds_toArray, List.set_cons_zero, List.set_cons_succ]; refine hK _ ?_; clear hK K)
              iterate 4 (refine wpTree_quiet rfl rfl ?_; apply Exists.intro; refine ⟨?_, ?_⟩; (intro W hW; obtain ⟨u0, u1, u2, u3⟩ := yc W hW; go_simp; try with_reducible rfl); (intro K hK; simp only [Act.put, List.setIfInBounds_toArray, List.set_cons_zero, List.set_cons_succ]; refine hK _ ?_; clear hK K))
              obtain ⟨z1, hz1⟩ : ∃ z1, dire [] ⟨xa, xf, xu, xn⟩ = z1 := ⟨_, rfl⟩
              obtain ⟨T1, hT0⟩ : ∃ T1, dirl [] ⟨xa, xf, xu, xn⟩ = T1 := ⟨_, rfl⟩
              have HZ1 := Lib.hid hz1
              have HT1 := Lib.hid hT0
              clear hz1 hT0
              have hd4 := hD4 d H4.dj
              refine wpTree_call rfl rfl (fun K hK => ?_)
              go_simp
              have ctr := radd_calls H4 hS hD4 xa xf xu xn hro z1 HZ1.out T1 HT1.out
              with_reducible refine Calls.mono ctr ?_
              clear ctr
              rintro e w5 ⟨rfl, x5, D5, H5, hD5⟩
              go_simp
              refine hK _ _ (id x5) ?_
              clear hK K
              have hs5 := x5.size
              have X5 : Ext Non w w5 := X4.trans x5 (fun i hi h => by have := (hD i h).1; omega)
              by_cases hz0 : z1 = 0
              · have hz0' : dire [] ⟨xa, xf, xu, xn⟩ = 0 := HZ1.out.trans hz0
                rw [hz0]
                have hsd : Sound T1 := by rw [← HT1.out]; exact hS.dirl hro
                have hT1 : T1 = [] ++ [⟨xa, xf, xu, xn⟩] := HT1.out.symm.trans (dirl_behind hS hz0' hany)
                have HT2 := Lib.hid hT1
                clear hT1
                have HL2 : Hid (ldl T1 rest = R) := by
                  have := HL.out
                  unfold ldl at this
                  rw [hany, hz0', ← HT2.out] at this
                  exact this
                iterate 2 (refine wpTree_quiet rfl rfl ?_; apply Exists.intro; refine ⟨?_, ?_⟩; (intro W hW; go_simp; try with_reducible rfl); (intro K hK; simp only [Act.put, List.setIfInBounds_toArray, List.set_cons_zero, List.set_cons_succ]; refine hK _ ?_; clear hK K))
                refine wpTree_end ?_
                go_wp2_with fail
                go_roundw
                case rel =>
                  exact ⟨k + 1, T1, D5, by omega, by go_num, H5, fun i hi => by
                    have h5 := hD5 i hi
                    refine ⟨?_, h5.2⟩
                    rcases h5.1 with h | h
                    · exact (hD i h).1
                    · omega, hsd, by rw [HREST.out]; exact HL2, X5⟩
                case measure => simp [intOf]; omega
              · have n1 : ((z1 : Int) != 0) = true := by simpa using hz0
                iterate 2 (refine wpTree_quiet rfl rfl ?_; apply Exists.intro; refine ⟨?_, ?_⟩; (intro W hW; go_simp; try with_reducible rfl); (intro K hK; simp only [Act.put, List.setIfInBounds_toArray, List.set_cons_zero, List.set_cons_succ]; refine hK _ ?_; clear hK K))
                refine wpTree_end ?_
                have hRn : R = none := by
                  rw [← HL.out]
                  unfold ldl
                  rw [if_pos (by rw [HZ1.out, decide_eq_true hz0, Bool.or_true])]
                have HR := Lib.hid hR
                clear hR
                rw [hRn] at HR
                rw [HR.out] at HZ
                obtain rfl : z = (3, []) := HZ.out.symm
                go_wp2_with fail
                go_ret2
                first | exact ⟨X5, .inl ⟨by decide, by go_simp⟩⟩ | exact ⟨X5, by go_simp⟩
            · simp only [Act.put, List.setIfInBounds_toArray, List.set_cons_zero, List.set_cons_succ]
              refine hK _ ?_
              clear hK K
              iterate 2 (refine wpTree_skip rfl rfl (fun K hK => ?_); simp only [Act.put, List.setIfInBounds_toArray, List.set_cons_zero, List.set_cons_succ]; refine hK _ ?_; clear hK K)
              iterate 1 (refine wpTree_pass rfl rfl (fun K hK => ?_); simp only [Act.put, List.setIfInBounds_toArray, List.set_cons_zero, List.set_cons_succ]; refine hK _ ?_; clear hK K)
              iterate 1 (refine wpTree_skip rfl rfl (fun K hK => ?_); simp only [Act.put, List.setIfInBounds_toArray, List.set_cons_zero, List.set_cons_succ]; refine hK _ ?_; clear hK K)
              iterate 2 (refine wpTree_pass rfl rfl (fun K hK => ?_); simp only [Act.put, List.setIfInBounds_toArray, List.set_cons_zero, List.set_cons_succ]; refine hK _ ?_; clear hK K)
              iterate 4 (refine wpTree_quiet rfl rfl ?_; apply Exists.intro; refine ⟨?_, ?_⟩; (intro W hW; obtain ⟨u0, u1, u2, u3⟩ := yc W hW; go_simp; try with_reducible rfl); (intro K hK; simp only [Act.put, List.setIfInBounds_toArray, List.set_cons_zero, List.set_cons_succ]; refine hK _ ?_; clear hK K))
              obtain ⟨z1, hz1⟩ : ∃ z1, dire [] ⟨xa, xf, xu, xn⟩ = z1 := ⟨_, rfl⟩
              obtain ⟨T1, hT0⟩ : ∃ T1, dirl [] ⟨xa, xf, xu, xn⟩ = T1 := ⟨_, rfl⟩
              have HZ1 := Lib.hid hz1
              have HT1 := Lib.hid hT0
              clear hz1 hT0
              have hd4 := hD4 d H4.dj
              refine wpTree_call rfl rfl (fun K hK => ?_)
              go_simp
              have ctr := radd_calls H4 hS hD4 xa xf xu xn hro z1 HZ1.out T1 HT1.out
              with_reducible refine Calls.mono ctr ?_
              clear ctr
              rintro e w5 ⟨rfl, x5, D5, H5, hD5⟩
              go_simp
              refine hK _ _ (id x5) ?_
              clear hK K
              have hs5 := x5.size
              have X5 : Ext Non w w5 := X4.trans x5 (fun i hi h => by have := (hD i h).1; omega)
              by_cases hz0 : z1 = 0
              · have hz0' : dire [] ⟨xa, xf, xu, xn⟩ = 0 := HZ1.out.trans hz0
                rw [hz0]
                have hsd : Sound T1 := by rw [← HT1.out]; exact hS.dirl hro
                have hT1 : T1 = [] ++ [⟨xa, xf, xu, xn⟩] := HT1.out.symm.trans (dirl_behind hS hz0' hany)
                have HT2 := Lib.hid hT1
                clear hT1
                have HL2 : Hid (ldl T1 rest = R) := by
                  have := HL.out
                  unfold ldl at this
                  rw [hany, hz0', ← HT2.out] at this
                  exact this
                iterate 2 (refine wpTree_quiet rfl rfl ?_; apply Exists.intro; refine ⟨?_, ?_⟩; (intro W hW; go_simp; try with_reducible rfl); (intro K hK; simp only [Act.put, List.setIfInBounds_toArray, List.set_cons_zero, List.set_cons_succ]; refine hK _ ?_; clear hK K))
                refine wpTree_end ?_
                go_wp2_with fail
                go_roundw
                case rel =>
                  exact ⟨k + 1, T1, D5, by omega, by go_num, H5, fun i hi => by
                    have h5 := hD5 i hi
                    refine ⟨?_, h5.2⟩
                    rcases h5.1 with h | h
                    · exact (hD i h).1
                    · omega, hsd, by rw [HREST.out]; exact HL2, X5⟩
                case measure => simp [intOf]; omega
              · have n1 : ((z1 : Int) != 0) = true := by simpa using hz0
                iterate 2 (refine wpTree_quiet rfl rfl ?_; apply Exists.intro; refine ⟨?_, ?_⟩; (intro W hW; go_simp; try with_reducible rfl); (intro K hK; simp only [Act.put, List.setIfInBounds_toArray, List.set_cons_zero, List.set_cons_succ]; refine hK _ ?_; clear hK K))
                refine wpTree_end ?_
                have hRn : R = none := by
                  rw [← HL.out]
                  unfold ldl
                  rw [if_pos (by rw [HZ1.out, decide_eq_true hz0, Bool.or_true])]
                have HR := Lib.hid hR
                clear hR
                rw [hRn] at HR
                rw [HR.out] at HZ
                obtain rfl : z = (3, []) := HZ.out.symm
                go_wp2_with fail
                go_ret2
                first | exact ⟨X5, .inl ⟨by decide, by go_simp⟩⟩ | exact ⟨X5, by go_simp⟩
          · obtain ⟨n0, hn0⟩ : ∃ n0, n = n0 + 1 := ⟨n - 1, by omega⟩
            have hil : n0 < S.length := by omega
            have hlast : S.getLast? = some S[n0] := by rw [List.getLast?_eq_getElem?, hn, hn0, Nat.add_sub_cancel, List.getElem?_eq_getElem hil]
            obtain ⟨hA, ga, oa, hga, _, f0, f1, f2, f3⟩ := OwRD.at_ O4 n0 hil
            generalize S[n0] = y at *
            obtain ⟨ya, yf, yu, yn⟩ := y
            simp only at f0 f1 f2 f3
            have hany : (S.getLast?.any fun y => klt (⟨xa, xf, xu, xn⟩ : Rc) y) = klt ⟨xa, xf, xu, xn⟩ ⟨ya, yf, yu, yn⟩ := by rw [hlast]; rfl
            obtain ⟨v, hv⟩ : ∃ v, klt ⟨xa, xf, xu, xn⟩ ⟨ya, yf, yu, yn⟩ = v := ⟨_, rfl⟩
            rw [hv] at hany
            clear hlast
            have HV := Lib.hid hv
            clear hv
            have i5 : (0 : Int) < (n : Int) := by omega
            have i6 : IntKind.i64.wrap ((n : Int) - 1) = (n0 : Int) := by rw [IntKind.wrap_i64]; omega
            have i7 : (n0 : Int) < (n : Int) := by omega
            have HN0 := Lib.hid hn0
            clear hn0
            iterate 3 (refine wpTree_quiet rfl rfl ?_; apply Exists.intro; refine ⟨?_, ?_⟩; (intro W hW; go_simp; try with_reducible rfl); (intro K hK; simp only [Act.put, List.setIfInBounds_toArray, List.set_cons_zero, List.set_cons_succ]; refine hK _ ?_; clear hK K))
            refine wpTree_call rfl rfl (fun K hK => ?_)
            go_simp
            refine hK _ _ (Ext.refl _ _) ?_
            clear hK K
            iterate 10 (refine wpTree_quiet rfl rfl ?_; apply Exists.intro; refine ⟨?_, ?_⟩; (intro W hW; obtain ⟨u0, u1, u2, u3⟩ := yc W hW; go_simp; try with_reducible rfl); (intro K hK; simp only [Act.put, List.setIfInBounds_toArray, List.set_cons_zero, List.set_cons_succ]; refine hK _ ?_; clear hK K))
            refine wpTree_both rfl rfl rfl rfl ?_ ?_
            · intro K hK
              go_simp
              refine hK _ _ (Ext.refl _ _) ?_
              clear hK K
              refine wpTree_call rfl rfl (fun K hK => ?_)
              go_simp
              refine hK _ _ (Ext.refl _ _) ?_
              clear hK K
              iterate 3 (refine wpTree_quiet rfl rfl ?_; apply Exists.intro; refine ⟨?_, ?_⟩; (intro W hW; go_simp; try with_reducible rfl); (intro K hK; simp only [Act.put, List.setIfInBounds_toArray, List.set_cons_zero, List.set_cons_succ]; refine hK _ ?_; clear hK K))
              refine wpTree_call rfl rfl (fun K hK => ?_)
              go_simp
              refine hK _ _ (Ext.refl _ _) ?_
              clear hK K
              refine wpTree_call rfl rfl (fun K hK => ?_)
              go_simp
              have ctr := less_calls v4 xa xf xu xn ya yf yu yn v HV.out
              with_reducible refine Calls.mono ctr ?_
              clear ctr
              rintro e w4 ⟨rfl, x4⟩
              go_simp
              refine hK _ _ x4.offN ?_
              clear hK K
              replace H4 := H4.extN x4
              replace X4 := X4.transN x4
              have hs4 := x4.size
              replace hD4 : ∀ i, D i → i < w4.heap.size := fun i hi => by have := hD4 i hi; omega
              cases v
              · skip
                iterate 4 (refine wpTree_quiet rfl rfl ?_; apply Exists.intro; refine ⟨?_, ?_⟩; (intro W hW; obtain ⟨u0, u1, u2, u3⟩ := yc W (x4.offN.trans' hW); go_simp; try with_reducible rfl); (intro K hK; simp only [Act.put, List.setIfInBounds_toArray, List.set_cons_zero, List.set_cons_succ]; refine hK _ ?_; clear hK K))
                obtain ⟨z1, hz1⟩ : ∃ z1, dire S ⟨xa, xf, xu, xn⟩ = z1 := ⟨_, rfl⟩
                obtain ⟨T1, hT0⟩ : ∃ T1, dirl S ⟨xa, xf, xu, xn⟩ = T1 := ⟨_, rfl⟩
                have HZ1 := Lib.hid hz1
                have HT1 := Lib.hid hT0
                clear hz1 hT0
                have hd4 := hD4 d H4.dj
                refine wpTree_call rfl rfl (fun K hK => ?_)
                go_simp
                have ctr := radd_calls H4 hS hD4 xa xf xu xn hro z1 HZ1.out T1 HT1.out
                with_reducible refine Calls.mono ctr ?_
                clear ctr
                rintro e w5 ⟨rfl, x5, D5, H5, hD5⟩
                go_simp
                refine hK _ _ (id x5) ?_
                clear hK K
                have hs5 := x5.size
                have X5 : Ext Non w w5 := X4.trans x5 (fun i hi h => by have := (hD i h).1; omega)
                by_cases hz0 : z1 = 0
                · have hz0' : dire S ⟨xa, xf, xu, xn⟩ = 0 := HZ1.out.trans hz0
                  rw [hz0]
                  have hsd : Sound T1 := by rw [← HT1.out]; exact hS.dirl hro
                  have hT1 : T1 = S ++ [⟨xa, xf, xu, xn⟩] := HT1.out.symm.trans (dirl_behind hS hz0' hany)
                  have HT2 := Lib.hid hT1
                  clear hT1
                  have HL2 : Hid (ldl T1 rest = R) := by
                    have := HL.out
                    unfold ldl at this
                    rw [hany, hz0', ← HT2.out] at this
                    exact this
                  iterate 2 (refine wpTree_quiet rfl rfl ?_; apply Exists.intro; refine ⟨?_, ?_⟩; (intro W hW; go_simp; try with_reducible rfl); (intro K hK; simp only [Act.put, List.setIfInBounds_toArray, List.set_cons_zero, List.set_cons_succ]; refine hK _ ?_; clear hK K))
                  refine wpTree_end ?_
                  go_wp2_with fail
                  go_roundw
                  case rel =>
                    exact ⟨k + 1, T1, D5, by omega, by go_num, H5, fun i hi => by
                      have h5 := hD5 i hi
                      refine ⟨?_, h5.2⟩
                      rcases h5.1 with h | h
                      · exact (hD i h).1
                      · omega, hsd, by rw [HREST.out]; exact HL2, X5⟩
                  case measure => simp [intOf]; omega
                · have n1 : ((z1 : Int) != 0) = true := by simpa using hz0
                  iterate 2 (refine wpTree_quiet rfl rfl ?_; apply Exists.intro; refine ⟨?_, ?_⟩; (intro W hW; go_simp; try with_reducible rfl); (intro K hK; simp only [Act.put, List.setIfInBounds_toArray, List.set_cons_zero, List.set_cons_succ]; refine hK _ ?_; clear hK K))
                  refine wpTree_end ?_
                  have hRn : R = none := by
                    rw [← HL.out]
                    unfold ldl
                    rw [if_pos (by rw [HZ1.out, decide_eq_true hz0, Bool.or_true])]
                  have HR := Lib.hid hR
                  clear hR
                  rw [hRn] at HR
                  rw [HR.out] at HZ
                  obtain rfl : z = (3, []) := HZ.out.symm
                  go_wp2_with fail
                  go_ret2
                  first | exact ⟨X5, .inl ⟨by decide, by go_simp⟩⟩ | exact ⟨X5, by go_simp⟩
              · skip
                iterate 2 (refine wpTree_quiet rfl rfl ?_; apply Exists.intro; refine ⟨?_, ?_⟩; (intro W hW; go_simp; try with_reducible rfl); (intro K hK; simp only [Act.put, List.setIfInBounds_toArray, List.set_cons_zero, List.set_cons_succ]; refine hK _ ?_; clear hK K))
                iterate 2 (refine wpTree_skip rfl rfl (fun K hK => ?_); simp only [Act.put, List.setIfInBounds_toArray, List.set_cons_zero, List.set_cons_succ]; refine hK _ ?_; clear hK K)
                refine wpTree_pass rfl rfl (fun K hK => ?_)
                simp only [Act.put, List.setIfInBounds_toArray, List.set_cons_zero, List.set_cons_succ]
                refine hK _ ?_
                clear hK K
                iterate 1 (refine wpTree_skip rfl rfl (fun K hK => ?_); simp only [Act.put, List.setIfInBounds_toArray, List.set_cons_zero, List.set_cons_succ]; refine hK _ ?_; clear hK K)
                iterate 1 (refine wpTree_quiet rfl rfl ?_; apply Exists.intro; refine ⟨?_, ?_⟩; (intro W hW; go_simp; try with_reducible rfl); (intro K hK; simp only [Act.put, List.setIfInBounds_toArray, List.set_cons_zero, List.set_cons_succ]; refine hK _ ?_; clear hK K))
                refine wpTree_end ?_
                have hRn : R = none := by
                  rw [← HL.out]
                  unfold ldl
                  rw [if_pos (by rw [hany, Bool.true_or])]
                have HR := Lib.hid hR
                clear hR
                rw [hRn] at HR
                rw [HR.out] at HZ
                obtain rfl : z = (3, []) := HZ.out.symm
                go_wp2_with fail
                go_ret2
                first | exact ⟨X4, .inl ⟨by decide, by go_simp⟩⟩ | exact ⟨X4, by go_simp⟩
            · intro K hK
              go_simp
              refine hK _ _ (Ext.refl _ _) ?_
              clear hK K
              iterate 2 (refine wpTree_quiet rfl rfl ?_; apply Exists.intro; refine ⟨?_, ?_⟩; (intro W hW; go_simp; try with_reducible rfl); (intro K hK; simp only [Act.put, List.setIfInBounds_toArray, List.set_cons_zero, List.set_cons_succ]; refine hK _ ?_; clear hK K))
              refine wpTree_call rfl rfl (fun K hK => ?_)
              go_simp
              refine hK _ _ (Ext.refl _ _) ?_
              clear hK K
              iterate 1 (refine wpTree_quiet rfl rfl ?_; apply Exists.intro; refine ⟨?_, ?_⟩; (intro W hW; go_simp; try with_reducible rfl); (intro K hK; simp only [Act.put, List.setIfInBounds_toArray, List.set_cons_zero, List.set_cons_succ]; refine hK _ ?_; clear hK K))
              refine wpTree_call rfl rfl (fun K hK => ?_)
              go_simp
              refine hK _ _ (Ext.refl _ _) ?_
              clear hK K
              refine wpTree_call rfl rfl (fun K hK => ?_)
              go_simp
              have ctr := less_calls v4 xa xf xu xn ya yf yu yn v HV.out
              with_reducible refine Calls.mono ctr ?_
              clear ctr
              rintro e w4 ⟨rfl, x4⟩
              go_simp
              refine hK _ _ x4.offN ?_
              clear hK K
              replace H4 := H4.extN x4
              replace X4 := X4.transN x4
              have hs4 := x4.size
              replace hD4 : ∀ i, D i → i < w4.heap.size := fun i hi => by have := hD4 i hi; omega
              cases v
              · skip
                iterate 4 (refine wpTree_quiet rfl rfl ?_; apply Exists.intro; refine ⟨?_, ?_⟩; (intro W hW; obtain ⟨u0, u1, u2, u3⟩ := yc W (x4.offN.trans' hW); go_simp; try with_reducible rfl); (intro K hK; simp only [Act.put, List.setIfInBounds_toArray, List.set_cons_zero, List.set_cons_succ]; refine hK _ ?_; clear hK K))
                obtain ⟨z1, hz1⟩ : ∃ z1, dire S ⟨xa, xf, xu, xn⟩ = z1 := ⟨_, rfl⟩
                obtain ⟨T1, hT0⟩ : ∃ T1, dirl S ⟨xa, xf, xu, xn⟩ = T1 := ⟨_, rfl⟩
                have HZ1 := Lib.hid hz1
                have HT1 := Lib.hid hT0
                clear hz1 hT0
                have hd4 := hD4 d H4.dj
                refine wpTree_call rfl rfl (fun K hK => ?_)
                go_simp
                have ctr := radd_calls H4 hS hD4 xa xf xu xn hro z1 HZ1.out T1 HT1.out
                with_reducible refine Calls.mono ctr ?_
                clear ctr
                rintro e w5 ⟨rfl, x5, D5, H5, hD5⟩
                go_simp
                refine hK _ _ (id x5) ?_
                clear hK K
                have hs5 := x5.size
                have X5 : Ext Non w w5 := X4.trans x5 (fun i hi h => by have := (hD i h).1; omega)
                by_cases hz0 : z1 = 0
                · have hz0' : dire S ⟨xa, xf, xu, xn⟩ = 0 := HZ1.out.trans hz0
                  rw [hz0]
                  have hsd : Sound T1 := by rw [← HT1.out]; exact hS.dirl hro
                  have hT1 : T1 = S ++ [⟨xa, xf, xu, xn⟩] := HT1.out.symm.trans (dirl_behind hS hz0' hany)
                  have HT2 := Lib.hid hT1
                  clear hT1
                  have HL2 : Hid (ldl T1 rest = R) := by
                    have := HL.out
                    unfold ldl at this
                    rw [hany, hz0', ← HT2.out] at this
                    exact this
                  iterate 2 (refine wpTree_quiet rfl rfl ?_; apply Exists.intro; refine ⟨?_, ?_⟩; (intro W hW; go_simp; try with_reducible rfl); (intro K hK; simp only [Act.put, List.setIfInBounds_toArray, List.set_cons_zero, List.set_cons_succ]; refine hK _ ?_; clear hK K))
                  refine wpTree_end ?_
                  go_wp2_with fail
                  go_roundw
                  case rel =>
                    exact ⟨k + 1, T1, D5, by omega, by go_num, H5, fun i hi => by
                      have h5 := hD5 i hi
                      refine ⟨?_, h5.2⟩
                      rcases h5.1 with h | h
                      · exact (hD i h).1
                      · omega, hsd, by rw [HREST.out]; exact HL2, X5⟩
                  case measure => simp [intOf]; omega
                · have n1 : ((z1 : Int) != 0) = true := by simpa using hz0
                  iterate 2 (refine wpTree_quiet rfl rfl ?_; apply Exists.intro; refine ⟨?_, ?_⟩; (intro W hW; go_simp; try with_reducible rfl); (intro K hK; simp only [Act.put, List.setIfInBounds_toArray, List.set_cons_zero, List.set_cons_succ]; refine hK _ ?_; clear hK K))
                  refine wpTree_end ?_
                  have hRn : R = none := by
                    rw [← HL.out]
                    unfold ldl
                    rw [if_pos (by rw [HZ1.out, decide_eq_true hz0, Bool.or_true])]
                  have HR := Lib.hid hR
                  clear hR
                  rw [hRn] at HR
                  rw [HR.out] at HZ
                  obtain rfl : z = (3, []) := HZ.out.symm
                  go_wp2_with fail
                  go_ret2
                  first | exact ⟨X5, .inl ⟨by decide, by go_simp⟩⟩ | exact ⟨X5, by go_simp⟩
              · skip
                iterate 2 (refine wpTree_quiet rfl rfl ?_; apply Exists.intro; refine ⟨?_, ?_⟩; (intro W hW; go_simp; try with_reducible rfl); (intro K hK; simp only [Act.put, List.setIfInBounds_toArray, List.set_cons_zero, List.set_cons_succ]; refine hK _ ?_; clear hK K))
                iterate 2 (refine wpTree_skip rfl rfl (fun K hK => ?_); simp only [Act.put, List.setIfInBounds_toArray, List.set_cons_zero, List.set_cons_succ]; refine hK _ ?_; clear hK K)
                refine wpTree_pass rfl rfl (fun K hK => ?_)
                simp only [Act.put, List.setIfInBounds_toArray, List.set_cons_zero, List.set_cons_succ]
                refine hK _ ?_
                clear hK K
                iterate 1 (refine wpTree_skip rfl rfl (fun K hK => ?_); simp only [Act.put, List.setIfInBounds_toArray, List.set_cons_zero, List.set_cons_succ]; refine hK _ ?_; clear hK K)
                iterate 1 (refine wpTree_quiet rfl rfl ?_; apply Exists.intro; refine ⟨?_, ?_⟩; (intro W hW; go_simp; try with_reducible rfl); (intro K hK; simp only [Act.put, List.setIfInBounds_toArray, List.set_cons_zero, List.set_cons_succ]; refine hK _ ?_; clear hK K))
                refine wpTree_end ?_
                have hRn : R = none := by
                  rw [← HL.out]
                  unfold ldl
                  rw [if_pos (by rw [hany, Bool.true_or])]
                have HR := Lib.hid hR
                clear hR
                rw [hRn] at HR
                rw [HR.out] at HZ
                obtain rfl : z = (3, []) := HZ.out.symm
                go_wp2_with fail
                go_ret2
                first | exact ⟨X4, .inl ⟨by decide, by go_simp⟩⟩ | exact ⟨X4, by go_simp⟩
      · obtain rfl : m = at_ := by omega
        have hkl : (recs own).length ≤ k := by omega
        rw [List.drop_of_length_le hkl] at HL
        have hRS : R = some S := by rw [← HL.out]; rfl
        have HR := Lib.hid hR
        clear hR
        rw [hRS] at HR
        rw [HR.out] at HZ
        obtain rfl : z = (0, S) := HZ.out.symm
        go_wp2_with fail
        go_ret2
        first | exact ⟨X, d, by go_simp, H.imp (fun k hk h => ⟨by have := (hD k h).1; omega, hk⟩)⟩ | exact ⟨X, .inr ⟨rfl, d, by go_simp, H.imp (fun k hk h => ⟨by have := (hD k h).1; omega, hk⟩)⟩⟩
end Go.Proofs.YtnmpfbffacljfaaDoor
