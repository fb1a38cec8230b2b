/- What the walks of the trace's text lean on: the library's tables, a builder midway. -/
import Derived.Test.YtpmbhdheeaejgaaGreatDoorBld
import Derived.Test.YtpmbhdheeaejgaaGreatDoorSlD
import Derived.Test.YtpmbhdheeaejgaaGreatDoorPlainTr2
import Derived.Lib.AppendIntMem
import Derived.Lib.AtoiErrMem
namespace Go.Proofs.YtpmbhdheeaejgaaGreatDoor
open Go.RowKit
def powCells : Array Value := (Lib.pow10Tab.map fun z => Value.int .u64 z).toArray
def PowIs (w : World) : Prop := ∃ (t : TypeId) (fr : Nat × Nat), w.heap[1]? = some (.cells powCells t fr)
theorem gPow : Tryz.prog.globalNamed "internal/strconv.uint64pow10" = some 1 := by kernel_rfl
theorem PowIs.tab {w : World} (h : PowIs w) : Lib.TabIs Tryz.prog w "internal/strconv.uint64pow10" .u64 Lib.pow10Tab := by
  obtain ⟨t, fr, hb⟩ := h
  unfold Lib.TabIs World.var?
  rw [gPow]
  simp only [Option.bind_some, hb]
  rfl
theorem PowIs.lt {w : World} (h : PowIs w) : 1 < w.heap.size := by
  obtain ⟨t, fr, hb⟩ := h
  exact (Array.getElem?_eq_some_iff.1 hb).1
theorem PowIs.below {w w' : World} (h : PowIs w) (hb : Below w.heap.size w w') : PowIs w' := by
  have hlt := h.lt
  obtain ⟨t, fr, hc⟩ := h
  exact ⟨t, fr, (hb.block _ hlt).trans hc⟩
theorem itoa_any (n : Int) (h : TR.i64 n) (w : World) (hP : PowIs w) :
    Calls Tryz.prog 15 #[.int .i64 n] w fun e w' => e = .returned (.string ⟨(Lib.itoa n).toArray⟩) ∧ ∃ q os, w' = Go.Sort.grow (w.drewN q) os := by
  refine (Tryz.strconv_Itoa n h.1 h.2 w hP.tab).mono ?_
  rintro e w' ⟨rfl, k, os, rfl⟩
  exact ⟨rfl, k, os, rfl⟩
def MaxIs (w : World) : Prop := ∃ m, w.cell? ⟨0, 0, none⟩ = some (.int .i64 m) ∧ 0 < w.heap.size
theorem MaxIs.below {w w' : World} (h : MaxIs w) (hb : Below w.heap.size w w') : MaxIs w' := by
  obtain ⟨m, h1, h2⟩ := h
  exact ⟨m, (hb.cell (p := ⟨_, 0, none⟩) h2).trans h1, Nat.lt_of_lt_of_le h2 hb.size⟩
abbrev OwnB := Nat × TypeId × Array Value
/-- What a walk that writes into a builder knows midway. -/
structure BInv (w0 : World) (B b : Nat) (bs : List UInt8) (bl : List OwnB) (W : World) : Prop where
  pg : Lib.IsBuilderF 48 5 B b (Lib.byteCells bs) W
  lo : B ≤ w0.heap.size
  be : Below B w0 W
  own : ∀ x ∈ bl, Blk W x.1 x.2.1 x.2.2 ∧ x.2.1 ≠ 48 ∧ x.2.1 ≠ 5
section
variable {w0 W W' : World} {B b : Nat} {bs bs' : List UInt8} {bl : List OwnB}
theorem BInv.size (h : BInv w0 B b bs bl W) : B ≤ W.heap.size := Nat.le_trans h.lo h.be.size
theorem BInv.typ (h : BInv w0 B b bs bl W) : ∃ c, W.heap[b]? = some (.cells c 48 (0, 0)) := by
  rcases h.pg with h | h
  · obtain ⟨_, v, h2, _⟩ := h; exact ⟨_, h2⟩
  · obtain ⟨_, v, h2, _⟩ := h; exact ⟨_, h2⟩
theorem BInv.ne (h : BInv w0 B b bs bl W) {g : Nat} {t : TypeId} {cs : Array Value} (hk : Blk W g t cs) (ht : t ≠ 48) : g ≠ b := by
  rintro rfl
  obtain ⟨c, hc⟩ := h.typ
  unfold Blk at hk
  rw [hk] at hc
  injection hc with hc
  injection hc with _ e
  exact ht e
theorem Blk.others {w w' : World} {g b : Nat} {t : TypeId} {cs : Array Value} (h : Blk w g t cs) (k : Lib.OthersKept 5 (some b) w w') (hg : g ≠ b) (ht : t ≠ 5) : Blk w' g t cs :=
  k g _ h (by simpa using hg) (fun c fz e => by injection e with _ e2 _; exact ht e2)
theorem BInv.call (h : BInv w0 B b bs bl W) (hp : Lib.IsBuilderF 48 5 B b (Lib.byteCells bs') W') (hb : Below B W W') (ho : Lib.OthersKept 5 (some b) W W') : BInv w0 B b bs' bl W' :=
  ⟨hp, h.lo, h.be.trans hb, fun x hx => ⟨(h.own x hx).1.others ho (h.ne (h.own x hx).1 (h.own x hx).2.1) (h.own x hx).2.2, (h.own x hx).2⟩⟩
theorem others_below {u : TypeId} {b : Option Nat} {w w' : World} (hb : Below w.heap.size w w') : Lib.OthersKept u b w w' := fun k _ hk _ _ => (hb.block k (Array.getElem?_eq_some_iff.1 hk).1).trans hk
theorem builder_below {B b : Nat} {bs : List Value} {w w' : World} (h : Lib.IsBuilderF 48 5 B b bs w) (hb : Below w.heap.size w w') : Lib.IsBuilderF 48 5 B b bs w' := by
  have one : ∀ p, Lib.BuilderAtF 48 5 B b p bs w → Lib.BuilderAtF 48 5 B b p bs w' := by
    rintro p ⟨h1, v, h2, h3, h4⟩
    exact ⟨h1, v, (hb.block b (Array.getElem?_eq_some_iff.1 h2).1).trans h2, h3.kept (grown_of_below hb none) (by cases v.ownBlock <;> simp), h4⟩
  exact h.imp (one _) (one _)
theorem BInv.below (h : BInv w0 B b bs bl W) (hb : Below W.heap.size W W') : BInv w0 B b bs bl W' := h.call (builder_below h.pg hb) (hb.mono h.size) (others_below hb)
theorem BInv.drewN (h : BInv w0 B b bs bl W) (n : Nat) : BInv w0 B b bs bl (W.drewN n) := h.below (below_drewN (Below.refl _ _) n)
theorem BInv.more (h : BInv w0 B b bs bl W) (o : Obj) : BInv w0 B b bs bl (W.alloc o) := h.below ((Below.refl _ _).alloc (Nat.le_refl _) o)
theorem BInv.add (h : BInv w0 B b bs bl W) {g : Nat} {t : TypeId} {cs : Array Value} (hk : Blk W g t cs) (ht : t ≠ 48 ∧ t ≠ 5) : BInv w0 B b bs ((g, t, cs) :: bl) W :=
  ⟨h.pg, h.lo, h.be, fun x hx => by
    rcases List.mem_cons.1 hx with rfl | hx
    · exact ⟨hk, ht⟩
    · exact h.own x hx⟩
theorem BInv.alloc (h : BInv w0 B b bs bl W) (cs : Array Value) (t : TypeId) (ht : t ≠ 48 ∧ t ≠ 5) {n : Nat} (hn : W.heap.size = n) : BInv w0 B b bs ((n, t, cs) :: bl) (W.alloc (.cells cs t)) := by
  subst hn
  exact (h.more (.cells cs t)).add (Blk.new W t cs) ht
theorem BInv.sub {bl' : List OwnB} (h : BInv w0 B b bs bl W) (hs : ∀ x ∈ bl', x ∈ bl) : BInv w0 B b bs bl' W := ⟨h.pg, h.lo, h.be, fun x hx => h.own x (hs x hx)⟩
theorem BInv.blk (h : BInv w0 B b bs bl W) {x : OwnB} (hx : x ∈ bl) : Blk W x.1 x.2.1 x.2.2 := (h.own x hx).1
theorem BInv.b0 {g : Nat} {t : TypeId} {cs : Array Value} (h : BInv w0 B b bs ((g, t, cs) :: bl) W) : Blk W g t cs := h.blk (x := (g, t, cs)) (by simp)
theorem BInv.b1 {g g1 : Nat} {t t1 : TypeId} {cs c1 : Array Value} (h : BInv w0 B b bs ((g1, t1, c1) :: (g, t, cs) :: bl) W) : Blk W g t cs := h.blk (x := (g, t, cs)) (by simp)
theorem bytes_snoc (bs : List UInt8) (c : UInt8) : Lib.byteCells (bs ++ [c]) = Lib.byteCells bs ++ [.int .u8 (c.toNat : Int)] := by simp [Lib.byteCells]
theorem bytes_app (bs l : List UInt8) : Lib.byteCells (bs ++ l) = Lib.byteCells bs ++ Lib.strCells ⟨l.toArray⟩ := by simp [Lib.byteCells, Lib.strCells]
theorem bByte (c : UInt8) (x : Int) (hx : x = (c.toNat : Int)) (h : BInv w0 B b bs bl W) (hl : bs.length + 1 ≤ 140737488355328) :
    Calls Tryz.prog 17 #[.pointer (some ⟨b, 0, none⟩), .int .u8 x] W fun e w' => e = .returned .nilIface ∧ BInv w0 B b (bs ++ [c]) bl w' ∧ Lib.OthersKept 5 (some b) W w' := by
  refine (writeByte_k B b _ x W h.pg (by rw [Lib.byteCells_length]; exact hl) h.size).mono ?_
  rintro e w' ⟨rfl, h1, h2, h3⟩
  exact ⟨rfl, h.call (by rw [bytes_snoc, ← hx]; exact .inr h1) h2 h3, h3⟩
theorem bStr (l : List UInt8) (h : BInv w0 B b bs bl W) (hl : bs.length + l.length ≤ 140737488355328) :
    Calls Tryz.prog 14 #[.pointer (some ⟨b, 0, none⟩), .string ⟨l.toArray⟩] W fun e w' => (∃ v, e = .returned v) ∧ BInv w0 B b (bs ++ l) bl w' ∧ Lib.OthersKept 5 (some b) W w' := by
  refine (writeString_k B b _ ⟨l.toArray⟩ W h.pg (by rw [Lib.byteCells_length]; simpa [ByteArray.size] using hl) h.size).mono ?_
  rintro e w' ⟨rfl, h1, h2, h3⟩
  exact ⟨⟨_, rfl⟩, h.call (by rw [bytes_app]; exact .inr h1) h2 h3, h3⟩
end
end Go.Proofs.YtpmbhdheeaejgaaGreatDoor
