/- The walk of PrinterParens. -/
import Derived.Test.YtkeehpgnljieeaaDoorAwake14
import Derived.Test.YtkeehpgnljieeaaDoorCnt
import Derived.Test.YtkeehpgnljieeaaDoorPlainBack
import Derived.Test.YtkeehpgnljieeaaDoorEq
namespace Go.Proofs.YtkeehpgnljieeaaDoor
open Go.RowKit
open PP (Tree)
section
set_option maxHeartbeats 4000000
set_option maxRecDepth 100000
theorem envOf_eqP (s : ByteArray) : envOf s = PP.envL s.data.toList := by
  unfold envOf PP.envL
  rw [show s.data.toList.length = s.size from Array.length_toList]
theorem sigOf_eqP (s : ByteArray) : sigOf s = PP.sigT s.data.toList := rfl
/-- What the laws of the printer's are handed. -/
structure LArg (w : World) (A : Option Addr) (kids : List Tree) : Prop where
  ks : KidsC w (· < w.heap.size) A kids
  ops : OpsIs w
  pow : PowIs w
  sg : SignsIs w
theorem LArg.below {w w' : World} {A : Option Addr} {kids : List Tree} (h : LArg w A kids) (hb : Below w.heap.size w w') : LArg w' A kids :=
  ⟨(h.ks.keep ⟨hb.size, fun g _ hg => hb.block g hg⟩).weak (fun _ _ hg => hg), h.ops.below hb, h.pow.below hb h.pow.lt, h.sg.belowS hb⟩
theorem LArg.parg {w : World} {A : Option Addr} {kids : List Tree} (h : LArg w A kids) (hs : PP.sizeL kids ≤ 999999) (hn : PP.nmL kids = true) : PArg w w.heap.size A kids := ⟨h.ks, Nat.le_refl _, h.ops, h.pow, h.sg, hs, hn⟩
end
end Go.Proofs.YtkeehpgnljieeaaDoor
