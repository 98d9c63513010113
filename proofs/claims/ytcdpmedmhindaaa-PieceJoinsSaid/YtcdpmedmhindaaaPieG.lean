/- A joiner that has met one message alone. -/
import Derived.Test.YtcdpmedmhindaaaPieV
namespace Go.Proofs.Ytcdpmedmhindaaa
open Go.RowKit

def sj (room : Int) (ky : Ky) (m : List UInt8) (s : List Nat) : Jn := ⟨room, if s = [] then [] else [(ky, ((cnt m : Int), got m s))], []⟩
def sjd (room : Int) (ky : Ky) : Jn := ⟨room, [], [ky]⟩
section
variable {room : Int} {m : List UInt8} {id fr bx N i : Nat} {s : List Nat}
theorem sj_lkp (ky : Ky) : lkp ky (sj room ky m s).opn = sta m s := by
  unfold sj sta
  split
  · rfl
  · simp [lkp]
theorem sj_len (ky : Ky) : (sj room ky m s).opn.length = if s = [] then 0 else 1 := by
  unfold sj
  split <;> rfl
theorem sj_zero (h : ¬ room < 1) (ky : Ky) (m : List UInt8) : jn0 room = sj room ky m [] := by
  unfold jn0 sj
  rw [if_neg h, if_pos rfl]
theorem sj_some (hr : 1 ≤ room) (hm : m.length ≤ 4096) (hN : cnt m = N) (hi : i < N) (his : i ∉ s) (hlt : s.length + 1 < N) :
    jtake (sj room (id, fr, bx) m s) ⟨1, id, fr, bx, (i : Int), (N : Int), pce m i⟩ = (sj room (id, fr, bx) m (s ++ [i]), 0, none) := by
  subst hN
  have := jtake_some (J := sj room (id, fr, bx) m s) hm (by simp [sj]) (sj_lkp _) hi his (by
    by_cases h : s = []
    · right; right
      rw [sj_len, if_pos h]
      show ((0 : Nat) : Int) < room
      omega
    · exact .inl h) hlt
  refine this.trans ?_
  have : mput (id, fr, bx) ((cnt m : Int), got m (s ++ [i])) (sj room (id, fr, bx) m s).opn = (sj room (id, fr, bx) m (s ++ [i])).opn := by
    unfold sj
    rw [if_neg (by simp : ¬ s ++ [i] = [])]
    split
    · rfl
    · simp [mput]
  rw [this]
  rfl
theorem sj_last (hr : 1 ≤ room) (hm : m.length ≤ 4096) (hN : cnt m = N) (hi : i < N) (his : i ∉ s) (hsn : s.Nodup) (hs : ∀ x ∈ s, x < N) (hlt : s.length + 1 = N) :
    jtake (sj room (id, fr, bx) m s) ⟨1, id, fr, bx, (i : Int), (N : Int), pce m i⟩ = (sjd room (id, fr, bx), 0, some m) := by
  subst hN
  have := jtake_last (J := sj room (id, fr, bx) m s) hm (by simp [sj]) (sj_lkp _) hi his hsn hs (by
    by_cases h : s = []
    · right; right
      rw [sj_len, if_pos h]
      show ((0 : Nat) : Int) < room
      omega
    · exact .inl h) hlt
  refine this.trans ?_
  have : mers (id, fr, bx) (sj room (id, fr, bx) m s).opn = [] := by
    unfold sj
    split
    · rfl
    · simp [mers]
  rw [this]
  rfl
theorem sj_again (hm : m.length ≤ 4096) (hN : cnt m = N) (hi : i < N) (his : i ∈ s) :
    jtake (sj room (id, fr, bx) m s) ⟨1, id, fr, bx, (i : Int), (N : Int), pce m i⟩ = (sj room (id, fr, bx) m s, 7, none) := by
  subst hN
  exact jtake_again (J := sj room (id, fr, bx) m s) hm (sj_lkp _) hi his
theorem sjd_again (hm : m.length ≤ 4096) (hN : cnt m = N) (hi : i < N) :
    jtake (sjd room (id, fr, bx)) ⟨1, id, fr, bx, (i : Int), (N : Int), pce m i⟩ = (sjd room (id, fr, bx), 7, none) := by
  subst hN
  exact jtake_done (J := sjd room (id, fr, bx)) (mpc_rt id fr bx hm hi) rfl (by simp [sjd, Pc.key])
end
theorem conv_str {w : World} {D : Nat → Prop} {A : Option Addr} {l : List UInt8} (hr : Rd w D A (bvs l)) (n c : Nat) (hn : l.length = n) : (convert 24 9 (.slice A n c)).run Try.prog w = .ok (.string (str l)) w :=
  run_convert_rd w 24 9 5 Try.underlying24 Try.underlying9 Try.underlying5 hr n c hn
end Go.Proofs.Ytcdpmedmhindaaa
