/- The contracts of the printer's expression, text and Expr, for every valid expression. -/
import Derived.Test.YtkeehpgnljieeaaDoorPrD
import Derived.Test.YtkeehpgnljieeaaDoorValG
namespace Go.Proofs.YtkeehpgnljieeaaDoor
open Go.RowKit
open PP (Tree)
section
variable {B b : Nat}
theorem okT_kind {t : Tree} (h : PP.okT t 101 = true) : t.kind ≤ 255 := by
  cases t with
  | node k num nm kids =>
    show k ≤ 255
    rcases PP.okE_inv h with ⟨rfl, _⟩ | ⟨rfl, _⟩ | ⟨rfl, _⟩ | ⟨hk, _⟩ | ⟨_, h2, _⟩ <;> omega
theorem expr_upto : ∀ (n : Nat) (t : Tree), t.size ≤ n → PP.okT t 101 = true → ExprOk B b t
  | 0, t, hs, _ => by have := t.size_pos; omega
  | n + 1, .node k num nm kids, hs, h => by
    rcases PP.okE_inv h with ⟨rfl, h1, h2, rfl, rfl⟩ | ⟨rfl, rfl, _, rfl⟩ | ⟨rfl, rfl, _, a, rfl, ha⟩ | ⟨hk, rfl, rfl, a, rfl, ha⟩ | ⟨h1, h2, rfl, rfl, a, d, rfl, ha, hd⟩
    · exact expr_num h1 h2
    · exact expr_var
    · simp only [PP.Tree.size, PP.sizeL] at hs
      exact expr_item (expr_upto n a (by omega) ha)
    · simp only [PP.Tree.size, PP.sizeL] at hs
      rcases hk with rfl | rfl
      · exact expr_neg (expr_upto n a (by omega) ha) (okT_kind ha)
      · exact expr_not (expr_upto n a (by omega) ha) (okT_kind ha)
    · simp only [PP.Tree.size, PP.sizeL] at hs
      exact expr_bin h1 h2 (expr_upto n a (by omega) ha) (expr_upto n d (by omega) hd) (okT_kind ha) (okT_kind hd)
theorem expr_all {t : Tree} (h : PP.okT t 101 = true) : ExprOk B b t := expr_upto t.size t (Nat.le_refl _) h
end
section
set_option maxHeartbeats 1000000
set_option maxRecDepth 100000
variable {w : World} {B : Nat} {k : Nat} {num : Int} {nm : List UInt8} {A : Option Addr} {c : Nat} {kids : List Tree}
theorem OpsIs.alloc {w : World} (h : OpsIs w) (o : Obj) : OpsIs (w.alloc o) := h.below ((Below.refl _ _).alloc (Nat.le_refl _) o)
theorem PowIs.alloc {w : World} (h : PowIs w) (o : Obj) : PowIs (w.alloc o) := h.below ((Below.refl _ _).alloc (Nat.le_refl _) o) h.lt
/-- A new page behind a world. -/
theorem PInv.fresh {w : World} (ho : OpsIs w) (hp : PowIs w) {n : Nat} (hn : w.heap.size = n) : PInv (w.alloc (.cells #[.pointer none, .slice none 0 0, .int .i64 0] 43)) n n [] 0 [] (w.alloc (.cells #[.pointer none, .slice none 0 0, .int .i64 0] 43)) := by
  subst hn
  exact PInv.start (fresh_isPage w) (by simp) (ho.alloc _) ho.lt (hp.alloc _) hp.lt
theorem text_any {t : Tree} (hok : PP.okT t 101 = true) (ht : t = .node k num nm kids) (hk : KidsC w (· < B) A kids) (hB : B ≤ w.heap.size) (ho : OpsIs w) (hp : PowIs w) (hs : t.size ≤ 1000000) :
    Calls Tryd.prog 30 #[.agg #[.int .u8 (k : Int), .int .i64 num, .string ⟨nm.toArray⟩, .slice A kids.length c]] w fun e w' => e = .returned (.string ⟨(PP.prE t).toArray⟩) ∧ Below w.heap.size w w' := by
  have hln := PP.okEE hok
  have hb1 : Below w.heap.size w (w.alloc (.cells #[.int .u8 (k : Int), .int .i64 num, .string ⟨nm.toArray⟩, .slice A kids.length c] 24)) := (Below.refl _ _).alloc (Nat.le_refl _) _
  have hb2 : Below w.heap.size w ((w.alloc (.cells #[.int .u8 (k : Int), .int .i64 num, .string ⟨nm.toArray⟩, .slice A kids.length c] 24)).alloc (.cells #[.pointer none, .slice none 0 0, .int .i64 0] 43)) := hb1.alloc hb1.size _
  have h0 := PInv.fresh (ho.alloc (.cells #[.int .u8 (k : Int), .int .i64 num, .string ⟨nm.toArray⟩, .slice A kids.length c] 24)) (hp.alloc _) (n := w.heap.size + 1) (by simp)
  have hk2 := (hk.keep ⟨hb2.size, fun g _ hg => hb2.block g hg⟩).weak (Z' := (· < w.heap.size + 1)) (fun g hg _ => by omega)
  have HC := Lib.hid (expr_all hok _ _ _ _ _ _ _ _ _ c _ ht hk2 h0 (by simp; omega))
  have HB2 := Lib.hid hb2
  clear h0 hk2 hk ht hok hb1 hb2
  go_enter Tryd.func30, Tryd.ntmps30
  go_wp2_with fail
  refine HC.out.mono ?_
  rintro e w1 ⟨rfl, hp1⟩
  have HS := Lib.hid (page_string _ _ _ _ _ (by simpa using hp1.pg))
  have HP := Lib.hid hp1
  clear hp1
  go_wp2_with fail
  refine HS.out.mono ?_
  rintro e w2 ⟨rfl, hb3⟩
  have HB3 := Lib.hid hb3
  clear hb3
  go_wp2_with fail
  go_ret
  refine ⟨rfl, HB2.out.trans (Below.mono (HP.out.be.trans HB3.out) (by omega))⟩
end
end Go.Proofs.YtkeehpgnljieeaaDoor
