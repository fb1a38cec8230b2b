/- The bundle of what a walk of the printer's knows, and the small contracts. -/
import Derived.Test.YtglaecalbamnkaaGreatDoorPage
import Derived.Test.YtglaecalbamnkaaGreatDoorKF
import Derived.Test.YtglaecalbamnkaaGreatDoorPlainPrint
import Derived.Test.YtglaecalbamnkaaGreatDoorShelf
import Derived.Lib.AppendIntMem
namespace Go.Proofs.YtglaecalbamnkaaGreatDoor
open Go.RowKit
open PP (Tree)

def powCells : Array Value := (Lib.pow10Tab.map fun z => Value.int .u64 z).toArray
theorem OpsIs.belowB {B : Nat} {w w' : World} (h : OpsIs w) (hb : Below B w w') (hB : 0 < B) : OpsIs w' := by
  obtain ⟨t, fr, hc⟩ := h
  exact ⟨t, fr, (hb.block _ hB).trans hc⟩
theorem digits_dec : ∀ (f n : Nat), n < 10 ^ (f + 1) → Lib.decDigits n = PP.decF (f + 1) n
  | 0, n, h => by
    rw [PP.decF, Lib.decDigits, dif_pos (by omega), if_pos (by omega)]
    unfold PP.dig
    rw [Nat.mod_eq_of_lt (by omega)]
  | f + 1, n, h => by
    rw [PP.decF, Lib.decDigits]
    by_cases hn : n < 10
    · rw [dif_pos hn, if_pos hn]
      unfold PP.dig
      rw [Nat.mod_eq_of_lt hn]
    · rw [dif_neg hn, if_neg hn, digits_dec f (n / 10) (by rw [Nat.pow_succ] at h; omega)]
      rfl
theorem itoa_dec (n : Int) (h0 : 0 ≤ n) (h1 : n ≤ 2147483647) : Lib.itoa n = PP.dec n.toNat := by
  unfold Lib.itoa PP.dec
  rw [if_neg (by omega)]
  exact digits_dec 19 _ (by omega)
section
variable {w0 W W' : World} {B b : Nat} {bs bs' : List UInt8} {i i' : Int} {bl : List OwnB}
theorem Blk.others {w w' : World} {g b : Nat} {t : TypeId} {cs : Array Value} (h : Blk w g t cs) (k : Lib.OthersKept 5 (some b) w w') (hg : g ≠ b) (ht : t ≠ 5) : Blk w' g t cs :=
  k g _ h (by simpa using hg) (fun c fz e => by injection e with _ e2 _; exact ht e2)
theorem others_below {u : TypeId} {b : Option Nat} {w w' : World} (hb : Below w.heap.size w w') : Lib.OthersKept u b w w' := fun k _ hk _ _ => (hb.block k (Array.getElem?_eq_some_iff.1 hk).1).trans hk
theorem bytes_snoc (bs : List UInt8) (c : UInt8) : Lib.byteCells (bs ++ [c]) = Lib.byteCells bs ++ [.int .u8 (c.toNat : Int)] := by simp [Lib.byteCells]
theorem bytes_app (bs l : List UInt8) : Lib.byteCells (bs ++ l) = Lib.byteCells bs ++ Lib.strCells ⟨l.toArray⟩ := by simp [Lib.byteCells, Lib.strCells]
end
end Go.Proofs.YtglaecalbamnkaaGreatDoor
