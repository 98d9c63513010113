/- More contracts, as the statements meet them. -/
import Derived.Test.YtcdpmedmhindaaaPie16
namespace Go.Proofs.Ytcdpmedmhindaaa
open Go.RowKit

/-- The piece of a right piece's bytes. -/
theorem parse_p (w : World) (ki : Int) (id fr bx : Nat) (pl co : Int) (b : List UInt8) (hid : id < 4294967296) (hfr : fr < 65536) (hbx : bx < 65536) (hrt : prt ⟨ki, id, fr, bx, pl, co, b⟩ = true) {x1 x2 x3 : Int} (h1 : x1 = id) (h2 : x2 = fr) (h3 : x3 = bx) (n : Nat) (hn : b.length = n) :
    Calls Try.prog 26 #[.agg (ba (pcb ⟨ki, id, fr, bx, pl, co, b⟩))] w fun e w' => ∃ A c, e = .returned (.tuple #[.agg #[.int .i64 ki, .int .u32 x1, .int .u16 x2, .int .u16 x3, .int .i64 pl, .int .i64 co, .slice A n c], .int .i64 0]) ∧ OwB w' w.heap.size A c b ∧ Ext Non w w' := by
  subst h1 h2 h3 hn
  have ctr := parse_calls w (prt_len hrt)
  obtain ⟨e1, e2⟩ := pdec_pcb (p := ⟨ki, id, fr, bx, pl, co, b⟩) ⟨hid, hfr, hbx⟩ hrt
  rw [e1, e2] at ctr
  exact ctr
end Go.Proofs.Ytcdpmedmhindaaa
