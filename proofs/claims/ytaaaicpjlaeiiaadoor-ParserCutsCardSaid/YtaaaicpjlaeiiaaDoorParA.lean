/- The parser in memory, and the contracts of its smallest methods. -/
import Derived.Test.YtaaaicpjlaeiiaaDoorLexC
import Derived.Test.YtaaaicpjlaeiiaaDoorPlainPar
import Derived.Maps.Own
import Derived.Maps.OwnSet
import Derived.Deep.RegionHeld3
namespace Go.Proofs.YtaaaicpjlaeiiaaDoor
open Go.RowKit Go.Maps

/-- Only block b, and what is new, has turned. -/
def Fr (b : Nat) (w w' : World) : Prop := w.grownBy w' (some b)
section
variable {b : Nat} {w w' w'' : World}
theorem Fr.refl (b : Nat) (w : World) : Fr b w w := ⟨rfl, rfl, rfl, Nat.le_refl _, fun _ _ _ => rfl⟩
theorem Fr.trans (h : Fr b w w') (k : Fr b w' w'') : Fr b w w'' :=
  ⟨k.os.trans h.os, k.tape.trans h.tape, k.output.trans h.output, Nat.le_trans h.size k.size, fun i hi hn => (k.block i (Nat.lt_of_lt_of_le hi h.size) hn).trans (h.block i hi hn)⟩
theorem Fr.drewN (h : Fr b w w') (n : Nat) : Fr b w (w'.drewN n) := ⟨h.os, h.tape, h.output, h.size, h.block⟩
theorem Fr.drew (h : Fr b w w') : Fr b w w'.drew := ⟨h.os, h.tape, h.output, h.size, h.block⟩
theorem Fr.alloc (h : Fr b w w') (o : Obj) : Fr b w (w'.alloc o) :=
  ⟨h.os, h.tape, h.output, Nat.le_trans h.size (by simp), fun i hi hn => (Below.heap_alloc w' o i (Nat.lt_of_lt_of_le hi h.size)).trans (h.block i hi hn)⟩
theorem Fr.set (h : Fr b w w') (j : Nat) (v : Value) : Fr b w (w'.setCell ⟨b, j, none⟩ v) :=
  ⟨h.os, h.tape, h.output, by simpa [World.setCell] using h.size, fun i hi hn => (Below.heap_setCell w' ⟨b, j, none⟩ v i (by rintro rfl; exact hn rfl)).trans (h.block i hi hn)⟩
theorem Fr.below (h : Fr b w w') (k : Below w'.heap.size w' w'') : Fr b w w'' :=
  ⟨k.os.trans h.os, k.tape.trans h.tape, k.output.trans h.output, Nat.le_trans h.size k.size, fun i hi hn => (k.block i (Nat.lt_of_lt_of_le hi h.size)).trans (h.block i hi hn)⟩
theorem Fr.of_below (k : Below w.heap.size w w') : Fr b w w' := (Fr.refl b w).below k
end

/-- Where the parser's parts lie: the tokens' slice, and the map's block. -/
structure Loc where
  A : Option Addr
  c : Nat
  m : Nat
def pCells (X : Loc) (E : PP.Env) (σ : PP.St) : Array Value :=
  #[.slice X.A E.ts.length X.c, .int .i64 (σ.next : Int), .int .i64 (E.L : Int), .map (some X.m), .int .i64 (σ.off : Int), .int .i64 (σ.err : Int)]
/-- The parser at block b, in a state. -/
structure PS (w : World) (b : Nat) (X : Loc) (E : PP.Env) (σ : PP.St) : Prop where
  blk : w.heap[b]? = some (.cells (pCells X E σ) 109 (0, 0))
  tok : ∀ i t, E.ts[i]? = some t → ∃ g o, X.A = some ⟨g, o, none⟩ ∧ g ≠ b ∧ g < w.heap.size ∧ w.cell? ⟨g, o + i * 3, none⟩ = some (.int .u8 (t.kind : Int)) ∧ w.cell? ⟨g, o + i * 3 + 1, none⟩ = some (.string ⟨t.text.toArray⟩) ∧ w.cell? ⟨g, o + i * 3 + 2, none⟩ = some (.int .i64 (t.pos : Int))
  len : E.ts.length ≤ 65536
  txt : ∀ t ∈ E.ts, t.text.length ≤ 65536
  next : σ.next ≤ E.ts.length
section
variable {w w' : World} {b : Nat} {X : Loc} {E : PP.Env} {σ : PP.St}
theorem PS.cells (h : PS w b X E σ) : w.cell? ⟨b, 0, none⟩ = some (.slice X.A E.ts.length X.c) ∧ w.cell? ⟨b, 1, none⟩ = some (.int .i64 (σ.next : Int)) ∧ w.cell? ⟨b, 2, none⟩ = some (.int .i64 (E.L : Int)) ∧
    w.cell? ⟨b, 3, none⟩ = some (.map (some X.m)) ∧ w.cell? ⟨b, 4, none⟩ = some (.int .i64 (σ.off : Int)) ∧ w.cell? ⟨b, 5, none⟩ = some (.int .i64 (σ.err : Int)) := by
  have hc := fun j => cell_of_row w b j (pCells X E σ) 109 (0, 0) h.blk
  exact ⟨hc 0, hc 1, hc 2, hc 3, hc 4, hc 5⟩
theorem PS.frozen (h : PS w b X E σ) (j : Nat) : w.frozen? ⟨b, j, none⟩ = false := frozen_of_row w b j (pCells X E σ) 109 h.blk
theorem PS.lt (h : PS w b X E σ) : b < w.heap.size := (Array.getElem?_eq_some_iff.1 h.blk).1
/-- All but the block itself stays over a frame. -/
theorem PS.fr (h : PS w b X E σ) {σ' : PP.St} (k : Fr b w w') (hb : w'.heap[b]? = some (.cells (pCells X E σ') 109 (0, 0))) (hn : σ'.next ≤ E.ts.length) : PS w' b X E σ' := by
  refine ⟨hb, fun i t hi => ?_, h.len, h.txt, hn⟩
  obtain ⟨g, o, hA, hg, hlt, h0, h1, h2⟩ := h.tok i t hi
  have hb := k.block g hlt (by simpa using hg)
  exact ⟨g, o, hA, hg, Nat.lt_of_lt_of_le hlt k.size, (World.cell?_of_block (a := ⟨g, o + i * 3, none⟩) hb).trans h0, (World.cell?_of_block (a := ⟨g, o + i * 3 + 1, none⟩) hb).trans h1, (World.cell?_of_block (a := ⟨g, o + i * 3 + 2, none⟩) hb).trans h2⟩
theorem PS.drewN (h : PS w b X E σ) (n : Nat) : PS (w.drewN n) b X E σ := ⟨h.blk, h.tok, h.len, h.txt, h.next⟩
theorem PS.drew (h : PS w b X E σ) : PS w.drew b X E σ := ⟨h.blk, h.tok, h.len, h.txt, h.next⟩
theorem PS.below (h : PS w b X E σ) (k : Below w.heap.size w w') : PS w' b X E σ := h.fr (Fr.of_below k) ((k.block b h.lt).trans h.blk) h.next
theorem PS.alloc (h : PS w b X E σ) (o : Obj) : PS (w.alloc o) b X E σ := h.below ((Below.refl _ _).alloc (Nat.le_refl _) o)
/-- The token that comes next. -/
theorem PS.cur (h : PS w b X E σ) (hn : σ.next < E.ts.length) : ∃ g o, X.A = some ⟨g, o, none⟩ ∧ w.cell? ⟨g, o + σ.next * 3, none⟩ = some (.int .u8 ((PP.cur E σ).kind : Int)) ∧ w.cell? ⟨g, o + σ.next * 3 + 1, none⟩ = some (.string ⟨(PP.cur E σ).text.toArray⟩) ∧ w.cell? ⟨g, o + σ.next * 3 + 2, none⟩ = some (.int .i64 ((PP.cur E σ).pos : Int)) := by
  obtain ⟨g, o, hA, _, _, h0, h1, h2⟩ := h.tok _ _ (PP.cur_at E hn)
  exact ⟨g, o, hA, h0, h1, h2⟩
end

section
set_option maxHeartbeats 400000
set_option maxRecDepth 100000
variable {b : Nat} {X : Loc} {E : PP.Env} {σ : PP.St}
theorem more_any (w : World) (h : PS w b X E σ) :
    Calls Tryd.prog 62 #[.pointer (some ⟨b, 0, none⟩)] w fun e w' => e = .returned (.bool (PP.more E σ)) ∧ ∃ n, w' = w.drewN n := by
  obtain ⟨c0, c1, _, _, _, c5⟩ := h.cells
  clear h
  rcases PP.more_cases E σ with ⟨h1, h2, h3⟩ | ⟨h1, h2⟩ | ⟨h1, h2, h3⟩
  · have e1 : ((σ.err : Int) == 0) = true := by simp [h2]
    have e2 : decide ((σ.next : Int) < (E.ts.length : Int)) = true := by simp; exact h3
    have e3 : decide (σ.next < E.ts.length) = true := by simp; exact h3
    have H1 := Lib.hid h1
    clear h1 h2
    rw [H1.out]
    go_enter Tryd.func62, Tryd.ntmps62
    go_wp2_with fail
    go_quiet (fail)
    go_wp2_with fail
    go_ret
    exact ⟨rfl, _, rfl⟩
  · have e1 : ((σ.err : Int) == 0) = false := beq_eq_false_iff_ne.2 (by omega)
    have H1 := Lib.hid h1
    clear h1 h2
    rw [H1.out]
    go_enter Tryd.func62, Tryd.ntmps62
    go_wp2_with fail
    go_quiet (fail)
    go_wp2_with fail
    go_ret
    exact ⟨rfl, _, rfl⟩
  · have e1 : ((σ.err : Int) == 0) = true := by simp [h2]
    have e2 : decide ((σ.next : Int) < (E.ts.length : Int)) = false := by simp; exact h3
    have e3 : decide (σ.next < E.ts.length) = false := by simp; exact h3
    have H1 := Lib.hid h1
    clear h1 h2
    rw [H1.out]
    go_enter Tryd.func62, Tryd.ntmps62
    go_wp2_with fail
    go_quiet (fail)
    go_wp2_with fail
    go_ret
    exact ⟨rfl, _, rfl⟩
end
end Go.Proofs.YtaaaicpjlaeiiaaDoor
