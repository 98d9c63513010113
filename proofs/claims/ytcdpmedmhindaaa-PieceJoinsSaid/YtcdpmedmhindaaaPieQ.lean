/- A joiner in memory: what a take does to it. Plain lemmas on memory. -/
import Derived.Test.YtcdpmedmhindaaaPieN
namespace Go.Proofs.Ytcdpmedmhindaaa
open Go.RowKit

theorem OwO.blk {E : TypeId} {s : Nat} {w : World} {base : Nat} {A : Option Addr} {n c : Nat} {xs : List Value} (h : OwO E s w base A n c xs) {k : Nat} (hk : ob A = some k) : ∃ cs, Blk w k E cs := by
  rcases h.ex with ⟨rfl, _⟩ | ⟨g, off, cur, rfl, hb, hg, _⟩
  · cases hk
  · injection hk with hk
    subst hk
    exact ⟨_, hg⟩
/-- A map that is written: whatever is no map, or another one, stays. -/
theorem Ent.keepM {κ : Type} {enc : κ → Value} {D : Nat → Prop} {w w' : World} {e : En} {m : Nat} {L : List (κ × Value)} (h : Ent w D e) (M : Mp enc w m L) (x : Ext (One m) w w') (hm : e.m ≠ m) : Ent w' D e :=
  ⟨h.blk.ext x (fun hh => M.ne_blk h.blk hh.symm), h.mp.ext x (fun hh => hm hh), fun y hy => (h.own y hy).ext x (fun k hk hh => by
    obtain ⟨cs, hb, _⟩ := (h.own y hy).blk hk
    exact M.ne_blk hb hh.symm), h.dp, h.dm, h.db⟩
theorem Blk.keepM {κ : Type} {enc : κ → Value} {w w' : World} {m g : Nat} {t : TypeId} {cs : Array Value} {L : List (κ × Value)} (h : Blk w g t cs) (M : Mp enc w m L) (x : Ext (One m) w w') : Blk w' g t cs := h.ext x (fun hh => M.ne_blk h hh.symm)
theorem OwO.keepM {κ : Type} {enc : κ → Value} {w w' : World} {m : Nat} {L : List (κ × Value)} {E : TypeId} {s : Nat} {base : Nat} {A : Option Addr} {n c : Nat} {xs : List Value} (h : OwO E s w base A n c xs) (M : Mp enc w m L) (x : Ext (One m) w w') : OwO E s w' base A n c xs :=
  h.ext x (fun k hk hh => by
    obtain ⟨cs, hb⟩ := h.blk hk
    exact M.ne_blk hb hh.symm)
theorem Mp.keepM {κ κ' : Type} {enc : κ → Value} {enc' : κ' → Value} {w w' : World} {m b : Nat} {L : List (κ × Value)} {L' : List (κ' × Value)} (h : Mp enc' w b L') (_M : Mp enc w m L) (x : Ext (One m) w w') (hm : b ≠ m) : Mp enc' w' b L' := h.ext x (fun hh => hm hh)
theorem lkp_of_mem {κ β : Type} [DecidableEq κ] {k : κ} {v : β} : ∀ {L : List (κ × β)}, Apart L → (k, v) ∈ L → lkp k L = some v
  | [], _, h => by cases h
  | y :: L, ha, h => by
    unfold Apart at ha
    simp only [List.map_cons, List.nodup_cons] at ha
    rcases List.mem_cons.1 h with rfl | h
    · simp [lkp]
    · have hne : k ≠ y.1 := by
        rintro rfl
        exact ha.1 (List.mem_map.2 ⟨_, h, rfl⟩)
      simp only [lkp, hne, if_false]
      exact lkp_of_mem ha.2 h
theorem mput_mem_ne {κ β : Type} [DecidableEq κ] {k : κ} {v : β} : ∀ {L : List (κ × β)} {x : κ × β}, Apart L → x ∈ mput k v L → x = (k, v) ∨ (x ∈ L ∧ x.1 ≠ k)
  | [], x, _, h => by left; simpa [mput] using h
  | y :: L, x, ha, h => by
    unfold Apart at ha
    simp only [List.map_cons, List.nodup_cons] at ha
    unfold mput at h
    split at h
    · rename_i e
      rcases List.mem_cons.1 h with rfl | h
      · left; rw [e]
      · refine .inr ⟨List.mem_cons_of_mem _ h, ?_⟩
        rintro rfl
        exact ha.1 (List.mem_map.2 ⟨_, h, e⟩)
    · rename_i e
      rcases List.mem_cons.1 h with rfl | h
      · exact .inr ⟨List.mem_cons_self, fun h => e h.symm⟩
      · rcases mput_mem_ne ha.2 h with h | ⟨h1, h2⟩
        · exact .inl h
        · exact .inr ⟨List.mem_cons_of_mem _ h1, h2⟩
theorem mers_mem_ne {κ β : Type} [DecidableEq κ] {k : κ} {L : List (κ × β)} {x : κ × β} (ha : Apart L) (h : x ∈ mers k L) : x ∈ L ∧ x.1 ≠ k := by
  refine ⟨(mers_sub k L).mem h, ?_⟩
  rintro rfl
  have := lkp_ers_self (k := x.1) ha
  rw [lkp_none] at this
  exact this (List.mem_map.2 ⟨_, h, rfl⟩)

/-- The parts of a piece's message, found or made. -/
theorem chk_ent {w w' : World} {D : Nat → Prop} {j : Nat} {J : Jn} {mo : Nat} {dA : Option Addr} {dc : Nat} {es : List (Ky × En)} (H : JoE w D j J mo dA dc es) {p : Pc} {o : Opn} {v : Value} (h : Chk w w' es p o v) (x : Ext Non w w') :
    ∃ e0 : En, v = .pointer (some ⟨e0.p, 0, none⟩) ∧ o = e0.opn ∧ Ent w' (fun k => D k ∨ w.heap.size ≤ k) e0 ∧ e0.m ≠ mo ∧ (∀ y ∈ es, y.1 ≠ p.key → y.2.m ≠ e0.m) ∧ (lkp p.key es = some e0 ∨ lkp p.key es = none) := by
  rcases h with ⟨y, hy, hk, rfl, rfl⟩ | ⟨hn, rfl, pb, mb, rfl, hb, hm, h1, h2⟩
  · refine ⟨y.2, rfl, rfl, ((H.ents y hy).extN x).imp (fun k _ h => .inl h), H.mos y hy, fun z hz hne => H.dis z hz y hy (by rw [hk]; exact hne), .inl ?_⟩
    rw [← hk]
    exact lkp_of_mem H.apart hy
  · refine ⟨⟨p.count, pb, mb, []⟩, rfl, rfl, ⟨hb, hm, fun z hz => (by cases hz), .inr h1, .inr h2, fun z hz => (by cases hz)⟩, ?_, fun z hz _ => ?_, .inr hn⟩
    · intro h
      have := H.mp.lt
      have h : mb = mo := h
      omega
    · intro h
      have := (H.ents z hz).mp.lt
      have h : z.2.m = mb := h
      omega
/-- One more part. -/
theorem Ent.put_ {w w' : World} {D : Nat → Prop} {e : En} (h : Ent w D e) {A : Option Addr} {c : Nat} {b : List UInt8} (pl : Int) (O : OwB w 0 A c b) (hD : ∀ k, ob A = some k → D k) (M : Mp iv w' e.m (mput pl (Part.val ⟨A, c, b⟩) (e.pl.map fun x => (x.1, x.2.val)))) (x : Ext (One e.m) w w') :
    Ent w' D { e with pl := mput pl ⟨A, c, b⟩ e.pl } := by
  have hne : ∀ k cs, Blk w k 5 cs → ¬ One e.m k := fun k cs hb hh => h.mp.ne_blk hb hh.symm
  refine ⟨h.blk.keepM h.mp x, ?_, fun y hy => ?_, h.dp, h.dm, fun y hy k hk => ?_⟩
  · rw [mput_map Part.val] at M
    exact M
  · rcases mput_mem hy with rfl | hy
    · exact O.ext x (fun k hk => by
        obtain ⟨cs, hb, _⟩ := O.blk hk
        exact hne k cs hb)
    · exact (h.own y hy).ext x (fun k hk => by
        obtain ⟨cs, hb, _⟩ := (h.own y hy).blk hk
        exact hne k cs hb)
  · rcases mput_mem hy with rfl | hy
    · exact hD k hk
    · exact h.db y hy k hk
theorem put_opn (e : En) (A : Option Addr) (c : Nat) (b : List UInt8) (pl : Int) : ({ e with pl := mput pl ⟨A, c, b⟩ e.pl } : En).opn = (e.cnt, mput pl b e.opn.2) := by
  show (e.cnt, (mput pl (⟨A, c, b⟩ : Part) e.pl).map fun x => (x.1, x.2.l)) = _
  rw [← mput_map Part.l]
  rfl
/-- The message is kept among those that are not whole. -/
theorem JoE.keep {w w3 w5 : World} {D : Nat → Prop} {j : Nat} {J J' : Jn} {mo : Nat} {dA : Option Addr} {dc : Nat} {es : List (Ky × En)} (H : JoE w D j J mo dA dc es) {k : Ky} {e1 : En} {L : List (Int × Value)} (M : Mp iv w e1.m L) (x : Ext (One e1.m) w w3)
    (E1 : Ent w3 D e1) (hmo : e1.m ≠ mo) (hdis : ∀ y ∈ es, y.1 ≠ k → y.2.m ≠ e1.m) (M5 : Mp kyv w5 mo (mput k (.pointer (some ⟨e1.p, 0, none⟩)) (es.map fun x => (x.1, .pointer (some ⟨x.2.p, 0, none⟩))))) (x5 : Ext (One mo) w3 w5)
    (hJ : J'.ok) (hr : J'.room = J.room) (hd : J'.done = J.done) (ho : J'.opn = mput k e1.opn J.opn) : JoE w5 D j J' mo dA dc (mput k e1 es) := by
  have Mo3 : Mp kyv w3 mo _ := H.mp.keepM M x (fun h => hmo h.symm)
  have ha := H.apart
  refine ⟨hJ, ?_, ?_, ?_, ?_, fun y hy => ?_, fun y hy z hz hne => ?_, fun y hy => ?_, H.dj, H.dmo, H.dd⟩
  · rw [hr, hd]
    exact (H.blk.keepM M x).keepM Mo3 x5
  · rw [hd]
    exact (H.done.keepM M x).keepM Mo3 x5
  · rw [mput_map (fun e : En => Value.pointer (some ⟨e.p, 0, none⟩))] at M5
    exact M5
  · rw [ho, H.opn, mput_map En.opn]
  · rcases mput_mem_ne ha hy with rfl | ⟨hy, hk⟩
    · exact E1.keepM Mo3 x5 hmo
    · exact ((H.ents y hy).keepM M x (hdis y hy hk)).keepM Mo3 x5 (H.mos y hy)
  · rcases mput_mem_ne ha hy with rfl | ⟨hy, hk⟩
    · rcases mput_mem_ne ha hz with rfl | ⟨hz, hk2⟩
      · exact absurd rfl hne
      · exact fun h => hdis z hz hk2 h.symm
    · rcases mput_mem_ne ha hz with rfl | ⟨hz, hk2⟩
      · exact hdis y hy hk
      · exact H.dis y hy z hz hne
  · rcases mput_mem_ne ha hy with rfl | ⟨hy, hk⟩
    · exact hmo
    · exact H.mos y hy
/-- The message is whole, and is told. -/
theorem JoE.tell {w w3 w5 w9 : World} {D : Nat → Prop} {j : Nat} {J J' : Jn} {mo : Nat} {dA dA' : Option Addr} {dc dc' : Nat} {es : List (Ky × En)} (H : JoE w D j J mo dA dc es) {k : Ky} {m : Nat} {L : List (Int × Value)} (M : Mp iv w m L) (x : Ext (One m) w w3)
    (hmo : m ≠ mo) (hdis : ∀ y ∈ es, y.1 ≠ k → y.2.m ≠ m) (M5 : Mp kyv w5 mo (mers k (es.map fun x => (x.1, .pointer (some ⟨x.2.p, 0, none⟩))))) (x5 : Ext (One mo) w3 w5)
    (x9 : Ext (fun i => i = j ∨ ob dA = some i) w5 w9) (B9 : Blk w9 j 94 #[.int .i64 J.room, .map (some mo), .slice dA' J'.done.length dc']) (O9 : OwO 104 3 w9 0 dA' J'.done.length dc' (J'.done.flatMap kyL)) (hD9 : ∀ i, ob dA' = some i → D i)
    (hJ : J'.ok) (hr : J'.room = J.room) (ho : J'.opn = mers k J.opn) : JoE w9 D j J' mo dA' dc' (mers k es) := by
  have Mo3 : Mp kyv w3 mo _ := H.mp.keepM M x (fun h => hmo h.symm)
  have ha := H.apart
  have B5 := (H.blk.keepM M x).keepM Mo3 x5
  have O5 := (H.done.keepM M x).keepM Mo3 x5
  have hS : ∀ i t cs, Blk w5 i t cs → t ≠ 94 → t ≠ 104 → ¬ (i = j ∨ ob dA = some i) := by
    rintro i t cs hb h1 h2 (rfl | h)
    · exact hb.ne_ B5 h1 rfl
    · obtain ⟨cs', hb'⟩ := O5.blk h
      exact hb.ne_ hb' h2 rfl
  have hSm : ∀ {κ : Type} {enc : κ → Value} {i : Nat} {L : List (κ × Value)}, Mp enc w5 i L → ¬ (i = j ∨ ob dA = some i) := by
    rintro κ enc i L hm (rfl | h)
    · exact hm.ne_blk B5 rfl
    · obtain ⟨cs', hb'⟩ := O5.blk h
      exact hm.ne_blk hb' rfl
  refine ⟨hJ, by rw [hr]; exact B9, O9, ?_, ?_, fun y hy => ?_, fun y hy z hz hne => ?_, fun y hy => ?_, H.dj, H.dmo, hD9⟩
  · rw [ers_map (fun e : En => Value.pointer (some ⟨e.p, 0, none⟩))] at M5
    exact M5.ext x9 (hSm M5)
  · rw [ho, H.opn, ers_map En.opn]
  · obtain ⟨hy, hk⟩ := mers_mem_ne ha hy
    have E5 := ((H.ents y hy).keepM M x (hdis y hy hk)).keepM Mo3 x5 (H.mos y hy)
    exact ⟨E5.blk.ext x9 (hS _ _ _ E5.blk (by decide) (by decide)), E5.mp.ext x9 (hSm E5.mp), fun z hz => (E5.own z hz).ext x9 (fun i hi => by
      obtain ⟨cs, hb, _⟩ := (E5.own z hz).blk hi
      exact hS i _ cs hb (by decide) (by decide)), E5.dp, E5.dm, E5.db⟩
  · exact H.dis y (mers_mem_ne ha hy).1 z (mers_mem_ne ha hz).1 hne
  · exact H.mos y (mers_mem_ne ha hy).1
/-- A message's parts stay while the joiner's own cells are written. -/
theorem Ent.keepJ {w5 w9 : World} {D : Nat → Prop} {e : En} {j : Nat} {cs : Array Value} {dA : Option Addr} {n c base : Nat} {xs : List Value} (h : Ent w5 D e) (B5 : Blk w5 j 94 cs) (O5 : OwO 104 3 w5 base dA n c xs)
    (x9 : Ext (fun i => i = j ∨ ob dA = some i) w5 w9) : Ent w9 D e := by
  have hS : ∀ i t cs, Blk w5 i t cs → t ≠ 94 → t ≠ 104 → ¬ (i = j ∨ ob dA = some i) := by
    rintro i t cs hb h1 h2 (rfl | h)
    · exact hb.ne_ B5 h1 rfl
    · obtain ⟨cs', hb'⟩ := O5.blk h
      exact hb.ne_ hb' h2 rfl
  refine ⟨h.blk.ext x9 (hS _ _ _ h.blk (by decide) (by decide)), h.mp.ext x9 ?_, fun z hz => (h.own z hz).ext x9 (fun i hi => by
      obtain ⟨cs, hb, _⟩ := (h.own z hz).blk hi
      exact hS i _ cs hb (by decide) (by decide)), h.dp, h.dm, h.db⟩
  rintro (hh | hh)
  · exact h.mp.ne_blk B5 hh
  · obtain ⟨cs', hb'⟩ := O5.blk hh
    exact h.mp.ne_blk hb' rfl
theorem chk_bounds {J : Jn} (hJ : J.ok) {p : Pc} (her : (jchk J p).1 = 0) : 0 ≤ (jchk J p).2.1 ∧ (jchk J p).2.1 ≤ 17 ∧ ∀ x ∈ (jchk J p).2.2, x.2.length ≤ 244 := by
  obtain ⟨hr, _, _, hc⟩ := jchk_opn her
  obtain ⟨_, _, hcn, _⟩ := prt_facts hr
  rcases hc with ⟨_, e, _⟩ | ⟨o, e1, _, _, e4⟩
  · rw [e]
    exact ⟨hcn.1, hcn.2, fun x hx => by simp at hx⟩
  · rw [e4]
    exact hJ.each _ _ (lkp_mem e1)
end Go.Proofs.Ytcdpmedmhindaaa
