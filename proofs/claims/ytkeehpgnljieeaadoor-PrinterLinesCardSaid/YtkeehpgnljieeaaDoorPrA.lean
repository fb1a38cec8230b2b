/- The bundle of what a walk of the printer's knows, and the small contracts. -/
import Derived.Test.YtkeehpgnljieeaaDoorPage
import Derived.Test.YtkeehpgnljieeaaDoorKF
import Derived.Test.YtkeehpgnljieeaaDoorPlainPrint
import Derived.Test.YtkeehpgnljieeaaDoorShelf
import Derived.Lib.AppendIntMem
namespace Go.Proofs.YtkeehpgnljieeaaDoor
open Go.RowKit
open PP (Tree)

def powCells : Array Value := (Lib.pow10Tab.map fun z => Value.int .u64 z).toArray
def PowIs (w : World) : Prop := ∃ (t : TypeId) (fr : Nat × Nat), w.heap[2]? = some (.cells powCells t fr)
theorem gPow : Tryd.prog.globalNamed "internal/strconv.uint64pow10" = some 2 := by kernel_rfl
theorem PowIs.tab {w : World} (h : PowIs w) : Lib.TabIs Tryd.prog w "internal/strconv.uint64pow10" .u64 Lib.pow10Tab := by
  obtain ⟨t, fr, hb⟩ := h
  unfold Lib.TabIs World.var?
  rw [gPow]
  simp only [Option.bind_some, hb]
  rfl
theorem PowIs.lt {w : World} (h : PowIs w) : 2 < w.heap.size := by
  obtain ⟨t, fr, hb⟩ := h
  exact (Array.getElem?_eq_some_iff.1 hb).1
theorem PowIs.below {B : Nat} {w w' : World} (h : PowIs w) (hb : Below B w w') (hB : 2 < B) : PowIs w' := by
  obtain ⟨t, fr, hc⟩ := h
  exact ⟨t, fr, (hb.block _ hB).trans hc⟩
theorem OpsIs.belowB {B : Nat} {w w' : World} (h : OpsIs w) (hb : Below B w w') (hB : 0 < B) : OpsIs w' := by
  obtain ⟨t, fr, hc⟩ := h
  exact ⟨t, fr, (hb.block _ hB).trans hc⟩
theorem digits_dec : ∀ (f n : Nat), n < 10 ^ (f + 1) → Lib.decDigits n = PP.decF (f + 1) n
  | 0, n, h => by
    rw [PP.decF, Lib.decDigits, dif_pos (by omega), if_pos (by omega)]
    unfold PP.dig
    rw [Nat.mod_eq_of_lt (by omega)]
  | f + 1, n, h => by
    rw [PP.decF, Lib.decDigits]
    by_cases hn : n < 10
    · rw [dif_pos hn, if_pos hn]
      unfold PP.dig
      rw [Nat.mod_eq_of_lt hn]
    · rw [dif_neg hn, if_neg hn, digits_dec f (n / 10) (by rw [Nat.pow_succ] at h; omega)]
      rfl
theorem itoa_dec (n : Int) (h0 : 0 ≤ n) (h1 : n ≤ 2147483647) : Lib.itoa n = PP.dec n.toNat := by
  unfold Lib.itoa PP.dec
  rw [if_neg (by omega)]
  exact digits_dec 19 _ (by omega)
theorem itoa_any (n : Int) (h0 : 0 ≤ n) (h1 : n ≤ 2147483647) (w : World) (hP : PowIs w) :
    Calls Tryd.prog 32 #[.int .i64 n] w fun e w' => e = .returned (.string ⟨(PP.dec n.toNat).toArray⟩) ∧ Below w.heap.size w w' := by
  refine (Tryd.strconv_Itoa n (by omega) (by omega) w hP.tab).mono ?_
  rintro e w' ⟨rfl, k, os, rfl⟩
  exact ⟨by rw [itoa_dec n h0 h1], Lib.below_grow _ w (Nat.le_refl _) k os⟩
theorem printer_binary (k : Nat) (w : World) (hk : k ≤ 255) : Calls Tryd.prog 37 #[.int .u8 (k : Int)] w fun e w' => e = .returned (.bool (PP.bin k)) ∧ w = w' := by
  unfold PP.bin
  by_cases h1 : 6 ≤ k
  · by_cases h2 : k ≤ 23
    · go_enter Tryd.func37, Tryd.ntmps37
      go_wp2_with fail
      go_ret
      exact ⟨by simp [h1, h2]; omega, rfl⟩
    · go_enter Tryd.func37, Tryd.ntmps37
      go_wp2_with fail
      go_ret
      exact ⟨by simp [h2]; omega, rfl⟩
  · go_enter Tryd.func37, Tryd.ntmps37
    go_wp2_with fail
    go_ret
    exact ⟨by simp, rfl⟩

/-- What a walk of the printer's knows midway: the page, the frame, its own blocks, the tables. -/
structure PInv (w0 : World) (B b : Nat) (bs : List UInt8) (i : Int) (bl : List OwnB) (W : World) : Prop where
  pg : IsPage B b (Lib.byteCells bs) i W
  lo : B ≤ w0.heap.size
  be : Below B w0 W
  kp : Lib.OthersKept 5 (some b) w0 W
  own : ∀ x ∈ bl, Blk W x.1 x.2.1 x.2.2 ∧ x.1 ≠ b ∧ x.2.1 ≠ 5
  ops : OpsIs w0
  oB : 0 < B
  pow : PowIs w0
  pB : 2 < B
section
variable {w0 W W' : World} {B b : Nat} {bs bs' : List UInt8} {i i' : Int} {bl : List OwnB}
theorem PInv.ops' (h : PInv w0 B b bs i bl W) : OpsIs W := h.ops.belowB h.be h.oB
theorem PInv.pow' (h : PInv w0 B b bs i bl W) : PowIs W := h.pow.below h.be h.pB
theorem PInv.size (h : PInv w0 B b bs i bl W) : B ≤ W.heap.size := Nat.le_trans h.lo h.be.size
theorem Blk.others {w w' : World} {g b : Nat} {t : TypeId} {cs : Array Value} (h : Blk w g t cs) (k : Lib.OthersKept 5 (some b) w w') (hg : g ≠ b) (ht : t ≠ 5) : Blk w' g t cs :=
  k g _ h (by simpa using hg) (fun c fz e => by injection e with _ e2 _; exact ht e2)
theorem PInv.call (h : PInv w0 B b bs i bl W) (hp : IsPage B b (Lib.byteCells bs') i' W') (hb : Below B W W') (ho : Lib.OthersKept 5 (some b) W W') : PInv w0 B b bs' i' bl W' :=
  ⟨hp, h.lo, h.be.trans hb, h.kp.trans ho, fun x hx => ⟨(h.own x hx).1.others ho (h.own x hx).2.1 (h.own x hx).2.2, (h.own x hx).2⟩, h.ops, h.oB, h.pow, h.pB⟩
theorem others_below {u : TypeId} {b : Option Nat} {w w' : World} (hb : Below w.heap.size w w') : Lib.OthersKept u b w w' := fun k _ hk _ _ => (hb.block k (Array.getElem?_eq_some_iff.1 hk).1).trans hk
theorem PInv.below (h : PInv w0 B b bs i bl W) (hb : Below W.heap.size W W') : PInv w0 B b bs i bl W' := h.call (h.pg.below hb) (hb.mono h.size) (others_below hb)
theorem PInv.drew (h : PInv w0 B b bs i bl W) : PInv w0 B b bs i bl W.drew := h.below (Below.refl _ _).drew
theorem PInv.drewN (h : PInv w0 B b bs i bl W) (n : Nat) : PInv w0 B b bs i bl (W.drewN n) := h.below (below_drewN (Below.refl _ _) n)
theorem PInv.more (h : PInv w0 B b bs i bl W) (o : Obj) : PInv w0 B b bs i bl (W.alloc o) := h.below ((Below.refl _ _).alloc (Nat.le_refl _) o)
theorem PInv.alloc (h : PInv w0 B b bs i bl W) (cs : Array Value) (t : TypeId) (ht : t ≠ 5) {n : Nat} (hn : W.heap.size = n) : PInv w0 B b bs i ((n, t, cs) :: bl) (W.alloc (.cells cs t)) := by
  subst hn
  have h1 := h.more (.cells cs t)
  refine ⟨h1.pg, h1.lo, h1.be, h1.kp, fun x hx => ?_, h1.ops, h1.oB, h1.pow, h1.pB⟩
  rcases List.mem_cons.1 hx with rfl | hx
  · have := h.pg.lt
    exact ⟨Blk.new W t cs, by show W.heap.size ≠ b; omega, ht⟩
  · exact h1.own x hx
theorem PInv.blk (h : PInv w0 B b bs i bl W) {x : OwnB} (hx : x ∈ bl) : Blk W x.1 x.2.1 x.2.2 := (h.own x hx).1
theorem PInv.b0 {g : Nat} {t : TypeId} {cs : Array Value} (h : PInv w0 B b bs i ((g, t, cs) :: bl) W) : Blk W g t cs := h.blk (x := (g, t, cs)) (by simp)
theorem PInv.b1 {g g1 : Nat} {t t1 : TypeId} {cs c1 : Array Value} (h : PInv w0 B b bs i ((g1, t1, c1) :: (g, t, cs) :: bl) W) : Blk W g t cs := h.blk (x := (g, t, cs)) (by simp)
theorem PInv.b2 {g g1 g2 : Nat} {t t1 t2 : TypeId} {cs c1 c2 : Array Value} (h : PInv w0 B b bs i ((g1, t1, c1) :: (g2, t2, c2) :: (g, t, cs) :: bl) W) : Blk W g t cs := h.blk (x := (g, t, cs)) (by simp)
theorem PInv.kids (h : PInv w0 B b bs i bl W) {A : Option Addr} {l : List Tree} (hk : KidsC w0 (· < B) A l) : KidsC W (· < B) A l := hk.keep ⟨h.be.size, fun g hg _ => h.be.block g hg⟩
theorem PInv.indent (h : PInv w0 B b bs i bl W) (j : Int) : PInv w0 B b bs j bl (W.setCell ⟨b, 2, none⟩ (.int .i64 j)) :=
  h.call (h.pg.indent j) ((Below.refl B W).setCell (p := ⟨b, 2, none⟩) h.pg.base _) ((Lib.OthersKept.refl _ _ W).setCell ⟨b, 2, none⟩ rfl _)
theorem PInv.drop {x : OwnB} (h : PInv w0 B b bs i (x :: bl) W) : PInv w0 B b bs i bl W := ⟨h.pg, h.lo, h.be, h.kp, fun y hy => h.own y (by simp [hy]), h.ops, h.oB, h.pow, h.pB⟩
theorem PInv.swap {x y : OwnB} (h : PInv w0 B b bs i (x :: y :: bl) W) : PInv w0 B b bs i (y :: x :: bl) W := ⟨h.pg, h.lo, h.be, h.kp, fun z hz => h.own z (by rcases List.mem_cons.1 hz with rfl | hz; simp; rcases List.mem_cons.1 hz with rfl | hz; simp; simp [hz]), h.ops, h.oB, h.pow, h.pB⟩
/-- The start of a contract. -/
theorem PInv.start (hp : IsPage B b (Lib.byteCells bs) i W) (hl : B ≤ W.heap.size) (ho : OpsIs W) (hoB : 0 < B) (hq : PowIs W) (hqB : 2 < B) : PInv W B b bs i [] W :=
  ⟨hp, hl, Below.refl _ _, Lib.OthersKept.refl _ _ _, fun x hx => by simp at hx, ho, hoB, hq, hqB⟩
/-- The same bundle seen from a later world. -/
theorem PInv.again (h : PInv w0 B b bs i bl W) : PInv W B b bs i [] W := PInv.start h.pg h.size h.ops' h.oB h.pow' h.pB
theorem PInv.back (h : PInv w0 B b bs i bl W) (k : PInv W B b bs' i' [] W') : PInv w0 B b bs' i' bl W' := h.call k.pg k.be k.kp
theorem bytes_snoc (bs : List UInt8) (c : UInt8) : Lib.byteCells (bs ++ [c]) = Lib.byteCells bs ++ [.int .u8 (c.toNat : Int)] := by simp [Lib.byteCells]
theorem bytes_app (bs l : List UInt8) : Lib.byteCells (bs ++ l) = Lib.byteCells bs ++ Lib.strCells ⟨l.toArray⟩ := by simp [Lib.byteCells, Lib.strCells]
theorem wByte (c : UInt8) (x : Int) (hx : x = (c.toNat : Int)) (h : PInv w0 B b bs i bl W) (hl : bs.length + 1 ≤ 140737488355328) :
    Calls Tryd.prog 34 #[.pointer (some ⟨b, 0, none⟩), .int .u8 x] W fun e w' => e = .returned .nilIface ∧ PInv w0 B b (bs ++ [c]) i bl w' := by
  refine (page_writeByte B b _ i x W h.pg (by rw [Lib.byteCells_length]; exact hl) h.size).mono ?_
  rintro e w' ⟨rfl, h1, h2, h3⟩
  exact ⟨rfl, h.call (by rw [bytes_snoc, ← hx]; exact h1) h2 h3⟩
theorem wStr (l : List UInt8) (h : PInv w0 B b bs i bl W) (hl : bs.length + l.length ≤ 140737488355328) :
    Calls Tryd.prog 33 #[.pointer (some ⟨b, 0, none⟩), .string ⟨l.toArray⟩] W fun e w' => (∃ v, e = .returned v) ∧ PInv w0 B b (bs ++ l) i bl w' := by
  refine (page_writeString B b _ i ⟨l.toArray⟩ W h.pg (by rw [Lib.byteCells_length]; simpa [ByteArray.size] using hl) h.size).mono ?_
  rintro e w' ⟨rfl, h1, h2, h3⟩
  exact ⟨⟨_, rfl⟩, h.call (by rw [bytes_app]; exact h1) h2 h3⟩
end
end Go.Proofs.YtkeehpgnljieeaaDoor
