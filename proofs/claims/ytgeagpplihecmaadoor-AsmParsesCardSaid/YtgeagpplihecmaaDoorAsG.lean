/- The contract of asm.Format. -/
import Derived.Test.YtgeagpplihecmaaDoorAsF
import Derived.Test.YtgeagpplihecmaaDoorBld
namespace Go.Proofs.YtgeagpplihecmaaDoor
open Go.RowKit
open AS (Ins)
/-- A slice reads as a row of cells. -/
def Row (w : World) (A : Option Addr) (xs : List Value) : Prop := xs ≠ [] → ∃ b o, A = some ⟨b, o, none⟩ ∧ b < w.heap.size ∧ ∀ i v, xs[i]? = some v → w.cell? ⟨b, o + i, none⟩ = some v
theorem Row.below {w w' : World} {A : Option Addr} {xs : List Value} (h : Row w A xs) (hb : Below w.heap.size w w') : Row w' A xs := fun hn => by
  obtain ⟨b, o, rfl, hlt, hc⟩ := h hn
  exact ⟨b, o, rfl, Nat.lt_of_lt_of_le hlt hb.size, fun i v hi => (hb.cell (p := ⟨b, o + i, none⟩) hlt).trans (hc i v hi)⟩
def insCells (l : List Ins) : List Value := l.flatMap fun i => (insV i).toList
theorem insCells_at : ∀ {l : List Ins} {k : Nat} {i : Ins}, l[k]? = some i → ∀ m, m < 5 → (insCells l)[k * 5 + m]? = (insV i)[m]?
  | [], _, _, h, _, _ => by simp at h
  | x :: l, 0, i, h, m, hm => by
    simp only [List.getElem?_cons_zero, Option.some.injEq] at h
    subst h
    unfold insCells
    rw [List.flatMap_cons, List.getElem?_append_left (by simp [insV]; omega)]
    simp
  | x :: l, k + 1, i, h, m, hm => by
    have ih := insCells_at (l := l) (k := k) (by simpa using h) m hm
    unfold insCells at ih ⊢
    rw [List.flatMap_cons, List.getElem?_append_right (by simp [insV]; omega)]
    rw [show (k + 1) * 5 + m - (insV x).toList.length = k * 5 + m by simp [insV]; omega]
    exact ih
theorem insCells_len (l : List Ins) : (insCells l).length = l.length * 5 := by
  induction l with
  | nil => rfl
  | cons i l ih => unfold insCells at ih ⊢; rw [List.flatMap_cons, List.length_append, ih]; simp [insV]; omega
theorem Row.ins {w : World} {A : Option Addr} {l : List Ins} (h : Row w A (insCells l)) {k : Nat} {i : Ins} (hk : l[k]? = some i) : ∃ b o, A = some ⟨b, o, none⟩ ∧ b < w.heap.size ∧ w.cell? ⟨b, o + k * 5, none⟩ = some (.int .u8 (i.op : Int)) ∧ w.cell? ⟨b, o + k * 5 + 1, none⟩ = some (.int .i64 i.a) ∧ w.cell? ⟨b, o + k * 5 + 2, none⟩ = some (.int .i64 i.b) ∧ w.cell? ⟨b, o + k * 5 + 3, none⟩ = some (.int .i64 i.c) ∧ w.cell? ⟨b, o + k * 5 + 4, none⟩ = some (.int .i64 i.imm) := by
  have hlt := (List.getElem?_eq_some_iff.1 hk).1
  obtain ⟨b, o, hA, hb, hc⟩ := h (fun e => by have := insCells_len l; rw [e] at this; simp at this; omega)
  have := fun m hm v (hv : (insV i)[m]? = some v) => hc (k * 5 + m) v ((insCells_at hk m hm).trans hv)
  refine ⟨b, o, hA, hb, ?_, ?_, ?_, ?_, ?_⟩
  · exact this 0 (by omega) _ rfl
  · exact this 1 (by omega) _ rfl
  · exact this 2 (by omega) _ rfl
  · exact this 3 (by omega) _ rfl
  · exact this 4 (by omega) _ rfl
abbrev OwnB := Nat × TypeId × Array Value
/-- What a walk that writes into a builder knows midway. -/
structure BInv (w0 : World) (B b : Nat) (bs : List UInt8) (bl : List OwnB) (W : World) : Prop where
  pg : Lib.IsBuilderF 56 5 B b (Lib.byteCells bs) W
  lo : B ≤ w0.heap.size
  be : Below B w0 W
  own : ∀ x ∈ bl, Blk W x.1 x.2.1 x.2.2 ∧ x.2.1 ≠ 56 ∧ x.2.1 ≠ 5
section
variable {w0 W W' : World} {B b : Nat} {bs bs' : List UInt8} {bl : List OwnB}
theorem BInv.size (h : BInv w0 B b bs bl W) : B ≤ W.heap.size := Nat.le_trans h.lo h.be.size
theorem BInv.typ (h : BInv w0 B b bs bl W) : ∃ c, W.heap[b]? = some (.cells c 56 (0, 0)) := by
  rcases h.pg with h | h
  · obtain ⟨_, v, h2, _⟩ := h; exact ⟨_, h2⟩
  · obtain ⟨_, v, h2, _⟩ := h; exact ⟨_, h2⟩
theorem BInv.ne (h : BInv w0 B b bs bl W) {g : Nat} {t : TypeId} {cs : Array Value} (hk : Blk W g t cs) (ht : t ≠ 56) : g ≠ b := by
  rintro rfl
  obtain ⟨c, hc⟩ := h.typ
  unfold Blk at hk
  rw [hk] at hc
  injection hc with hc
  injection hc with _ e
  exact ht e
theorem Blk.others {w w' : World} {g b : Nat} {t : TypeId} {cs : Array Value} (h : Blk w g t cs) (k : Lib.OthersKept 5 (some b) w w') (hg : g ≠ b) (ht : t ≠ 5) : Blk w' g t cs :=
  k g _ h (by simpa using hg) (fun c fz e => by injection e with _ e2 _; exact ht e2)
theorem BInv.call (h : BInv w0 B b bs bl W) (hp : Lib.IsBuilderF 56 5 B b (Lib.byteCells bs') W') (hb : Below B W W') (ho : Lib.OthersKept 5 (some b) W W') : BInv w0 B b bs' bl W' :=
  ⟨hp, h.lo, h.be.trans hb, fun x hx => ⟨(h.own x hx).1.others ho (h.ne (h.own x hx).1 (h.own x hx).2.1) (h.own x hx).2.2, (h.own x hx).2⟩⟩
theorem others_below {u : TypeId} {b : Option Nat} {w w' : World} (hb : Below w.heap.size w w') : Lib.OthersKept u b w w' := fun k _ hk _ _ => (hb.block k (Array.getElem?_eq_some_iff.1 hk).1).trans hk
theorem builder_below {B b : Nat} {bs : List Value} {w w' : World} (h : Lib.IsBuilderF 56 5 B b bs w) (hb : Below w.heap.size w w') : Lib.IsBuilderF 56 5 B b bs w' := by
  have one : ∀ p, Lib.BuilderAtF 56 5 B b p bs w → Lib.BuilderAtF 56 5 B b p bs w' := by
    rintro p ⟨h1, v, h2, h3, h4⟩
    exact ⟨h1, v, (hb.block b (Array.getElem?_eq_some_iff.1 h2).1).trans h2, h3.kept (grown_of_below hb none) (by cases v.ownBlock <;> simp), h4⟩
  exact h.imp (one _) (one _)
theorem BInv.below (h : BInv w0 B b bs bl W) (hb : Below W.heap.size W W') : BInv w0 B b bs bl W' := h.call (builder_below h.pg hb) (hb.mono h.size) (others_below hb)
theorem BInv.drewN (h : BInv w0 B b bs bl W) (n : Nat) : BInv w0 B b bs bl (W.drewN n) := h.below (below_drewN (Below.refl _ _) n)
theorem BInv.more (h : BInv w0 B b bs bl W) (o : Obj) : BInv w0 B b bs bl (W.alloc o) := h.below ((Below.refl _ _).alloc (Nat.le_refl _) o)
theorem BInv.add (h : BInv w0 B b bs bl W) {g : Nat} {t : TypeId} {cs : Array Value} (hk : Blk W g t cs) (ht : t ≠ 56 ∧ t ≠ 5) : BInv w0 B b bs ((g, t, cs) :: bl) W :=
  ⟨h.pg, h.lo, h.be, fun x hx => by
    rcases List.mem_cons.1 hx with rfl | hx
    · exact ⟨hk, ht⟩
    · exact h.own x hx⟩
theorem BInv.alloc (h : BInv w0 B b bs bl W) (cs : Array Value) (t : TypeId) (ht : t ≠ 56 ∧ t ≠ 5) {n : Nat} (hn : W.heap.size = n) : BInv w0 B b bs ((n, t, cs) :: bl) (W.alloc (.cells cs t)) := by
  subst hn
  exact (h.more (.cells cs t)).add (Blk.new W t cs) ht
theorem BInv.sub {bl' : List OwnB} (h : BInv w0 B b bs bl W) (hs : ∀ x ∈ bl', x ∈ bl) : BInv w0 B b bs bl' W := ⟨h.pg, h.lo, h.be, fun x hx => h.own x (hs x hx)⟩
theorem BInv.blk (h : BInv w0 B b bs bl W) {x : OwnB} (hx : x ∈ bl) : Blk W x.1 x.2.1 x.2.2 := (h.own x hx).1
theorem BInv.b0 {g : Nat} {t : TypeId} {cs : Array Value} (h : BInv w0 B b bs ((g, t, cs) :: bl) W) : Blk W g t cs := h.blk (x := (g, t, cs)) (by simp)
theorem BInv.b1 {g g1 : Nat} {t t1 : TypeId} {cs c1 : Array Value} (h : BInv w0 B b bs ((g1, t1, c1) :: (g, t, cs) :: bl) W) : Blk W g t cs := h.blk (x := (g, t, cs)) (by simp)
theorem bytes_snoc (bs : List UInt8) (c : UInt8) : Lib.byteCells (bs ++ [c]) = Lib.byteCells bs ++ [.int .u8 (c.toNat : Int)] := by simp [Lib.byteCells]
theorem bytes_app (bs l : List UInt8) : Lib.byteCells (bs ++ l) = Lib.byteCells bs ++ Lib.strCells ⟨l.toArray⟩ := by simp [Lib.byteCells, Lib.strCells]
theorem bByte (c : UInt8) (x : Int) (hx : x = (c.toNat : Int)) (h : BInv w0 B b bs bl W) (hl : bs.length + 1 ≤ 140737488355328) :
    Calls Tryd.prog 28 #[.pointer (some ⟨b, 0, none⟩), .int .u8 x] W fun e w' => e = .returned .nilIface ∧ BInv w0 B b (bs ++ [c]) bl w' ∧ Lib.OthersKept 5 (some b) W w' := by
  refine (writeByte_k B b _ x W h.pg (by rw [Lib.byteCells_length]; exact hl) h.size).mono ?_
  rintro e w' ⟨rfl, h1, h2, h3⟩
  exact ⟨rfl, h.call (by rw [bytes_snoc, ← hx]; exact .inr h1) h2 h3, h3⟩
theorem bStr (l : List UInt8) (h : BInv w0 B b bs bl W) (hl : bs.length + l.length ≤ 140737488355328) :
    Calls Tryd.prog 25 #[.pointer (some ⟨b, 0, none⟩), .string ⟨l.toArray⟩] W fun e w' => (∃ v, e = .returned v) ∧ BInv w0 B b (bs ++ l) bl w' ∧ Lib.OthersKept 5 (some b) W w' := by
  refine (writeString_k B b _ ⟨l.toArray⟩ W h.pg (by rw [Lib.byteCells_length]; simpa [ByteArray.size] using hl) h.size).mono ?_
  rintro e w' ⟨rfl, h1, h2, h3⟩
  exact ⟨⟨_, rfl⟩, h.call (by rw [bytes_app]; exact .inr h1) h2 h3, h3⟩
theorem OpsRow.others (h : BInv w0 B b bs bl W) {A : Option Addr} {ks : List Nat} (hr : OpsRow W A ks) (ho : Lib.OthersKept 5 (some b) W W') : OpsRow W' A ks := by
  obtain ⟨g, r, h1, h2⟩ := hr
  refine ⟨g, r, fun hn => ⟨(h1 hn).1, (h1 hn).2.others ho (h.ne (h1 hn).2 (by decide)) (by decide)⟩, fun k hk hk2 => ?_⟩
  have := h2 k hk hk2
  exact this.others ho (h.ne this (by decide)) (by decide)
end
end Go.Proofs.YtgeagpplihecmaaDoor
