/- Merged from ParA, ParB, ParC, ParD, ParE, Tree, ParF, ParG, ParH, ParI, ParJ, Inv (wip/pack.py). -/
import Derived.Test.YtglaecalbamnkaaGreatDoorKB
import Derived.Test.YtglaecalbamnkaaGreatDoorKA
import Derived.Maps.Own
import Derived.Maps.OwnSet
import Derived.Deep.RegionHeld3
import Derived.ProofKit
import Derived.OpenShut
import Derived.LoopTactic
import Derived.Deep.AppendLies
import Derived.Deep.RegionLaw
import Derived.Deep.DrawnRows
/- The parser in memory, and the contracts of its smallest methods. -/
namespace Go.Proofs.YtglaecalbamnkaaGreatDoor
open Go.RowKit Go.Maps

/-- Only block b, and what is new, has turned. -/
def Fr (b : Nat) (w w' : World) : Prop := w.grownBy w' (some b)
section
variable {b : Nat} {w w' w'' : World}
theorem Fr.refl (b : Nat) (w : World) : Fr b w w := ⟨rfl, rfl, rfl, Nat.le_refl _, fun _ _ _ => rfl⟩
theorem Fr.trans (h : Fr b w w') (k : Fr b w' w'') : Fr b w w'' :=
  ⟨k.os.trans h.os, k.tape.trans h.tape, k.output.trans h.output, Nat.le_trans h.size k.size, fun i hi hn => (k.block i (Nat.lt_of_lt_of_le hi h.size) hn).trans (h.block i hi hn)⟩
theorem Fr.drewN (h : Fr b w w') (n : Nat) : Fr b w (w'.drewN n) := ⟨h.os, h.tape, h.output, h.size, h.block⟩
theorem Fr.drew (h : Fr b w w') : Fr b w w'.drew := ⟨h.os, h.tape, h.output, h.size, h.block⟩
theorem Fr.alloc (h : Fr b w w') (o : Obj) : Fr b w (w'.alloc o) :=
  ⟨h.os, h.tape, h.output, Nat.le_trans h.size (by simp), fun i hi hn => (Below.heap_alloc w' o i (Nat.lt_of_lt_of_le hi h.size)).trans (h.block i hi hn)⟩
theorem Fr.set (h : Fr b w w') (j : Nat) (v : Value) : Fr b w (w'.setCell ⟨b, j, none⟩ v) :=
  ⟨h.os, h.tape, h.output, by simpa [World.setCell] using h.size, fun i hi hn => (Below.heap_setCell w' ⟨b, j, none⟩ v i (by rintro rfl; exact hn rfl)).trans (h.block i hi hn)⟩
theorem Fr.below (h : Fr b w w') (k : Below w'.heap.size w' w'') : Fr b w w'' :=
  ⟨k.os.trans h.os, k.tape.trans h.tape, k.output.trans h.output, Nat.le_trans h.size k.size, fun i hi hn => (k.block i (Nat.lt_of_lt_of_le hi h.size)).trans (h.block i hi hn)⟩
theorem Fr.of_below (k : Below w.heap.size w w') : Fr b w w' := (Fr.refl b w).below k
end

/-- Where the parser's parts lie: the tokens' slice, and the map's block. -/
structure Loc where
  A : Option Addr
  c : Nat
  m : Nat
def pCells (X : Loc) (E : PP.Env) (σ : PP.St) : Array Value :=
  #[.slice X.A E.ts.length X.c, .int .i64 (σ.next : Int), .int .i64 (E.L : Int), .map (some X.m), .int .i64 (σ.off : Int), .int .i64 (σ.err : Int)]
/-- The parser at block b, in a state. -/
structure PS (w : World) (b : Nat) (X : Loc) (E : PP.Env) (σ : PP.St) : Prop where
  blk : w.heap[b]? = some (.cells (pCells X E σ) 54 (0, 0))
  tok : ∀ i t, E.ts[i]? = some t → ∃ g o, X.A = some ⟨g, o, none⟩ ∧ g ≠ b ∧ g < w.heap.size ∧ w.cell? ⟨g, o + i * 3, none⟩ = some (.int .u8 (t.kind : Int)) ∧ w.cell? ⟨g, o + i * 3 + 1, none⟩ = some (.string ⟨t.text.toArray⟩) ∧ w.cell? ⟨g, o + i * 3 + 2, none⟩ = some (.int .i64 (t.pos : Int))
  len : E.ts.length ≤ 65536
  txt : ∀ t ∈ E.ts, t.text.length ≤ 65536
  next : σ.next ≤ E.ts.length
section
variable {w w' : World} {b : Nat} {X : Loc} {E : PP.Env} {σ : PP.St}
theorem PS.cells (h : PS w b X E σ) : w.cell? ⟨b, 0, none⟩ = some (.slice X.A E.ts.length X.c) ∧ w.cell? ⟨b, 1, none⟩ = some (.int .i64 (σ.next : Int)) ∧ w.cell? ⟨b, 2, none⟩ = some (.int .i64 (E.L : Int)) ∧
    w.cell? ⟨b, 3, none⟩ = some (.map (some X.m)) ∧ w.cell? ⟨b, 4, none⟩ = some (.int .i64 (σ.off : Int)) ∧ w.cell? ⟨b, 5, none⟩ = some (.int .i64 (σ.err : Int)) := by
  have hc := fun j => cell_of_row w b j (pCells X E σ) 54 (0, 0) h.blk
  exact ⟨hc 0, hc 1, hc 2, hc 3, hc 4, hc 5⟩
theorem PS.frozen (h : PS w b X E σ) (j : Nat) : w.frozen? ⟨b, j, none⟩ = false := frozen_of_row w b j (pCells X E σ) 54 h.blk
theorem PS.lt (h : PS w b X E σ) : b < w.heap.size := (Array.getElem?_eq_some_iff.1 h.blk).1
/-- All but the block itself stays over a frame. -/
theorem PS.fr (h : PS w b X E σ) {σ' : PP.St} (k : Fr b w w') (hb : w'.heap[b]? = some (.cells (pCells X E σ') 54 (0, 0))) (hn : σ'.next ≤ E.ts.length) : PS w' b X E σ' := by
  refine ⟨hb, fun i t hi => ?_, h.len, h.txt, hn⟩
  obtain ⟨g, o, hA, hg, hlt, h0, h1, h2⟩ := h.tok i t hi
  have hb := k.block g hlt (by simpa using hg)
  exact ⟨g, o, hA, hg, Nat.lt_of_lt_of_le hlt k.size, (World.cell?_of_block (a := ⟨g, o + i * 3, none⟩) hb).trans h0, (World.cell?_of_block (a := ⟨g, o + i * 3 + 1, none⟩) hb).trans h1, (World.cell?_of_block (a := ⟨g, o + i * 3 + 2, none⟩) hb).trans h2⟩
theorem PS.drewN (h : PS w b X E σ) (n : Nat) : PS (w.drewN n) b X E σ := ⟨h.blk, h.tok, h.len, h.txt, h.next⟩
theorem PS.drew (h : PS w b X E σ) : PS w.drew b X E σ := ⟨h.blk, h.tok, h.len, h.txt, h.next⟩
theorem PS.below (h : PS w b X E σ) (k : Below w.heap.size w w') : PS w' b X E σ := h.fr (Fr.of_below k) ((k.block b h.lt).trans h.blk) h.next
theorem PS.alloc (h : PS w b X E σ) (o : Obj) : PS (w.alloc o) b X E σ := h.below ((Below.refl _ _).alloc (Nat.le_refl _) o)
/-- The token that comes next. -/
theorem PS.cur (h : PS w b X E σ) (hn : σ.next < E.ts.length) : ∃ g o, X.A = some ⟨g, o, none⟩ ∧ w.cell? ⟨g, o + σ.next * 3, none⟩ = some (.int .u8 ((PP.cur E σ).kind : Int)) ∧ w.cell? ⟨g, o + σ.next * 3 + 1, none⟩ = some (.string ⟨(PP.cur E σ).text.toArray⟩) ∧ w.cell? ⟨g, o + σ.next * 3 + 2, none⟩ = some (.int .i64 ((PP.cur E σ).pos : Int)) := by
  obtain ⟨g, o, hA, _, _, h0, h1, h2⟩ := h.tok _ _ (PP.cur_at E hn)
  exact ⟨g, o, hA, h0, h1, h2⟩
end

section
set_option maxHeartbeats 400000
set_option maxRecDepth 100000
variable {b : Nat} {X : Loc} {E : PP.Env} {σ : PP.St}
theorem more_any (w : World) (h : PS w b X E σ) :
    Calls Tryz.prog 15 #[.pointer (some ⟨b, 0, none⟩)] w fun e w' => e = .returned (.bool (PP.more E σ)) ∧ ∃ n, w' = w.drewN n := by
  obtain ⟨c0, c1, _, _, _, c5⟩ := h.cells
  clear h
  rcases PP.more_cases E σ with ⟨h1, h2, h3⟩ | ⟨h1, h2⟩ | ⟨h1, h2, h3⟩
  · have e1 : ((σ.err : Int) == 0) = true := by simp [h2]
    have e2 : decide ((σ.next : Int) < (E.ts.length : Int)) = true := by simp; exact h3
    have e3 : decide (σ.next < E.ts.length) = true := by simp; exact h3
    have H1 := Lib.hid h1
    clear h1 h2
    rw [H1.out]
    go_enter Tryz.func15, Tryz.ntmps15
    go_wp2_with fail
    go_quiet (fail)
    go_wp2_with fail
    go_ret
    exact ⟨rfl, _, rfl⟩
  · have e1 : ((σ.err : Int) == 0) = false := beq_eq_false_iff_ne.2 (by omega)
    have H1 := Lib.hid h1
    clear h1 h2
    rw [H1.out]
    go_enter Tryz.func15, Tryz.ntmps15
    go_wp2_with fail
    go_quiet (fail)
    go_wp2_with fail
    go_ret
    exact ⟨rfl, _, rfl⟩
  · have e1 : ((σ.err : Int) == 0) = true := by simp [h2]
    have e2 : decide ((σ.next : Int) < (E.ts.length : Int)) = false := by simp; exact h3
    have e3 : decide (σ.next < E.ts.length) = false := by simp; exact h3
    have H1 := Lib.hid h1
    clear h1 h2
    rw [H1.out]
    go_enter Tryz.func15, Tryz.ntmps15
    go_wp2_with fail
    go_quiet (fail)
    go_wp2_with fail
    go_ret
    exact ⟨rfl, _, rfl⟩
end
end Go.Proofs.YtglaecalbamnkaaGreatDoor
/- The contracts of the parser's small methods. -/
namespace Go.Proofs.YtglaecalbamnkaaGreatDoor
open Go.RowKit Go.Maps

theorem quiet_dr {P : Program} {f : FuncId} {args : Array Value} {w : World} {n : Nat} {v : Value}
    (h : Calls P f args (w.drewN n) fun e w' => e = .returned v ∧ ∃ m, w' = (w.drewN n).drewN m) : Calls P f args (w.drewN n) fun e w'' => e = .returned v ∧ ∃ m, w'' = w.drewN m :=
  h.mono fun _ _ ⟨he, m, hm⟩ => ⟨he, n + m, by rw [hm, World.drewN_drewN]⟩

section
set_option maxHeartbeats 400000
set_option maxRecDepth 100000
variable {b : Nat} {X : Loc} {E : PP.Env} {σ : PP.St}
theorem sees_any (s : ByteArray) (w : World) (h : PS w b X E σ) :
    Calls Tryz.prog 37 #[.pointer (some ⟨b, 0, none⟩), .string s] w fun e w' => e = .returned (.bool (PP.sees E σ s.data.toList)) ∧ ∃ n, w' = w.drewN n := by
  obtain ⟨c0, c1, _, _, _, _⟩ := h.cells
  have hmore : ∀ k, Calls Tryz.prog 15 #[.pointer (some ⟨b, 0, none⟩)] (w.drewN k) fun e w' => e = .returned (.bool (PP.more E σ)) ∧ ∃ n, w' = (w.drewN k).drewN n := fun k => more_any _ (h.drewN k)
  have hs : PP.sees E σ s.data.toList = (PP.more E σ && ((PP.cur E σ).text == s.data.toList)) := rfl
  generalize hS : PP.sees E σ s.data.toList = S at *
  cases hm : PP.more E σ with
  | false =>
    rw [hm] at hs hmore
    simp at hs
    subst hs
    have HM := Lib.hid hmore
    clear hmore hS hm h
    go_enter Tryz.func37, Tryz.ntmps37
    go_wp2_with fail
    go_quiet ((go_at_call 15; exact quiet_dr (HM.out _)))
    go_wp2_with fail
    go_ret
    exact ⟨rfl, _, rfl⟩
  | true =>
    have hn : σ.next < E.ts.length := by
      rcases PP.more_cases E σ with ⟨_, _, h3⟩ | ⟨h1, _⟩ | ⟨h1, _, _⟩
      · exact h3
      · rw [hm] at h1; cases h1
      · rw [hm] at h1; cases h1
    obtain ⟨g, o, hA, t0, t1, t2⟩ := h.cur hn
    rw [hm] at hs hmore
    simp only [Bool.true_and] at hs
    rw [hA] at c0
    have HM := Lib.hid hmore
    have p1 : (0 : Int) ≤ (σ.next : Int) := by omega
    have p2 : (σ.next : Int) < (E.ts.length : Int) := by omega
    generalize hT : (PP.cur E σ).text = T at *
    clear hmore hS hm h hA hT t0 t2
    cases hb : (T == s.data.toList) with
    | false =>
      have e1 : (T == s.toList) = false := by rw [Lib.toList_data]; exact hb
      rw [hb] at hs
      subst hs
      clear hb
      go_enter Tryz.func37, Tryz.ntmps37
      go_wp2_with fail
      go_quiet ((go_at_call 15; exact quiet_dr (HM.out _)))
      go_wp2_with fail
      go_ret
      exact ⟨rfl, _, rfl⟩
    | true =>
      have e1 : (T == s.toList) = true := by rw [Lib.toList_data]; exact hb
      rw [hb] at hs
      subst hs
      clear hb
      go_enter Tryz.func37, Tryz.ntmps37
      go_wp2_with fail
      go_quiet ((go_at_call 15; exact quiet_dr (HM.out _)))
      go_wp2_with fail
      go_ret
      exact ⟨rfl, _, rfl⟩
theorem here_any (w : World) (h : PS w b X E σ) :
    Calls Tryz.prog 35 #[.pointer (some ⟨b, 0, none⟩)] w fun e w' => e = .returned (.int .i64 (PP.here E σ : Int)) ∧ ∃ n, w' = w.drewN n := by
  obtain ⟨c0, c1, c2, _, _, _⟩ := h.cells
  unfold PP.here
  by_cases hn : σ.next < E.ts.length
  · obtain ⟨g, o, hA, t0, t1, t2⟩ := h.cur hn
    rw [hA] at c0
    rw [if_pos hn]
    have p1 : (0 : Int) ≤ (σ.next : Int) := by omega
    have p2 : (σ.next : Int) < (E.ts.length : Int) := by omega
    have e2 : decide (σ.next < E.ts.length) = true := by simp; exact hn
    have e3 : decide ((σ.next : Int) < (E.ts.length : Int)) = true := by simp; exact hn
    clear h hA t0 t1
    go_enter Tryz.func35, Tryz.ntmps35
    go_wp2_with fail
    go_quiet (fail)
    go_wp2_with fail
    go_quiet (fail)
    go_wp2_with fail
    go_ret
    exact ⟨rfl, _, World.drewN_drewN _ _ _⟩
  · rw [if_neg hn]
    have e2 : decide (σ.next < E.ts.length) = false := by simpa using hn
    have e3 : decide ((σ.next : Int) < (E.ts.length : Int)) = false := by simpa using hn
    clear h hn
    go_enter Tryz.func35, Tryz.ntmps35
    go_wp2_with fail
    go_quiet (fail)
    go_wp2_with fail
    go_ret
    exact ⟨rfl, _, rfl⟩
/-- A store of the next index, or of the offset and the error. -/
theorem PS.setNext {w : World} (h : PS w b X E σ) (k : Nat) (hk : k ≤ E.ts.length) : PS (w.setCell ⟨b, 1, none⟩ (.int .i64 (k : Int))) b X E ⟨k, σ.off, σ.err⟩ := by
  refine h.fr ((Fr.refl b w).set 1 _) ?_ hk
  have := heap_setCell_same w b 1 (pCells X E σ) 54 (.int .i64 (k : Int)) h.blk
  rw [this]; rfl
theorem PS.setFail {w : World} (h : PS w b X E σ) (o e : Nat) : PS ((w.setCell ⟨b, 4, none⟩ (.int .i64 (o : Int))).setCell ⟨b, 5, none⟩ (.int .i64 (e : Int))) b X E ⟨σ.next, o, e⟩ := by
  have h1 := heap_setCell_same w b 4 (pCells X E σ) 54 (.int .i64 (o : Int)) h.blk
  have h2 := heap_setCell_same (w.setCell ⟨b, 4, none⟩ (.int .i64 (o : Int))) b 5 _ 54 (.int .i64 (e : Int)) h1
  refine h.fr (((Fr.refl b w).set 4 _).set 5 _) ?_ h.next
  rw [h2]; rfl
theorem fail_any (o e : Nat) (w : World) (h : PS w b X E σ) :
    Calls Tryz.prog 34 #[.pointer (some ⟨b, 0, none⟩), .int .i64 (o : Int), .int .i64 (e : Int)] w fun r w' => r = .returned (.tuple #[]) ∧ PS w' b X E (PP.fail σ o e) ∧ Fr b w w' := by
  obtain ⟨_, _, _, _, c4, c5⟩ := h.cells
  have f4 := h.frozen 4
  have f5 := h.frozen 5
  unfold PP.fail
  by_cases he : σ.err = 0
  · rw [if_pos he]
    have e1 : ((σ.err : Int) == 0) = true := by simp [he]
    have HP := Lib.hid (h.setFail o e)
    clear h he
    go_enter Tryz.func34, Tryz.ntmps34
    go_wp2_with fail
    go_end0
    exact ⟨rfl, HP.out, ((Fr.refl b w).set 4 _).set 5 _⟩
  · rw [if_neg he]
    have e1 : ((σ.err : Int) == 0) = false := beq_eq_false_iff_ne.2 (by omega)
    have HP := Lib.hid h
    clear h he
    go_enter Tryz.func34, Tryz.ntmps34
    go_wp2_with fail
    go_end0
    exact ⟨rfl, HP.out, Fr.refl b w⟩
theorem reject_any (w : World) (h : PS w b X E σ) :
    Calls Tryz.prog 16 #[.pointer (some ⟨b, 0, none⟩)] w fun r w' => r = .returned (.tuple #[]) ∧ PS w' b X E (PP.reject E σ) ∧ Fr b w w' := by
  obtain ⟨c0, c1, _, _, _, _⟩ := h.cells
  have hhere : ∀ k, Calls Tryz.prog 35 #[.pointer (some ⟨b, 0, none⟩)] (w.drewN k) fun e w' => e = .returned (.int .i64 (PP.here E σ : Int)) ∧ ∃ n, w' = (w.drewN k).drewN n := fun k => here_any _ (h.drewN k)
  have hfail : ∀ k e, Calls Tryz.prog 34 #[.pointer (some ⟨b, 0, none⟩), .int .i64 (PP.here E σ : Int), .int .i64 ((e : Nat) : Int)] (w.drewN k) fun r w' => r = .returned (.tuple #[]) ∧ PS w' b X E (PP.fail σ (PP.here E σ) e) ∧ Fr b (w.drewN k) w' := fun k e => fail_any _ e _ (h.drewN k)
  have HH := Lib.hid hhere
  have HF := Lib.hid hfail
  have hfr : ∀ k w', Fr b (w.drewN k) w' → Fr b w w' := fun k w' hf => ((Fr.refl b w).drewN k).trans hf
  have HFR := Lib.hid hfr
  clear hhere hfail hfr
  unfold PP.reject
  by_cases hn : σ.next < E.ts.length
  · rw [if_pos hn]
    have e2 : decide (σ.next < E.ts.length) = true := by simp; exact hn
    have e3 : decide ((σ.next : Int) < (E.ts.length : Int)) = true := by simp; exact hn
    clear h
    go_enter Tryz.func16, Tryz.ntmps16
    go_wp2_with fail
    go_quiet (fail)
    go_wp2_with fail
    refine (HH.out _).mono ?_
    rintro e w1 ⟨rfl, n1, rfl⟩
    go_wp2_with fail
    refine (HF.out _ 3).mono ?_
    rintro e w2 ⟨rfl, hp, hf⟩
    go_wp2_with fail
    go_end0
    exact ⟨rfl, hp, HFR.out _ _ hf⟩
  · rw [if_neg hn]
    have e2 : decide (σ.next < E.ts.length) = false := by simpa using hn
    have e3 : decide ((σ.next : Int) < (E.ts.length : Int)) = false := by simpa using hn
    clear h hn
    go_enter Tryz.func16, Tryz.ntmps16
    go_wp2_with fail
    go_quiet (fail)
    go_wp2_with fail
    refine (HH.out _).mono ?_
    rintro e w1 ⟨rfl, n1, rfl⟩
    go_wp2_with fail
    refine (HF.out _ 4).mono ?_
    rintro e w2 ⟨rfl, hp, hf⟩
    go_wp2_with fail
    go_end0
    exact ⟨rfl, hp, HFR.out _ _ hf⟩
theorem require_any (s : ByteArray) (w : World) (h : PS w b X E σ) :
    Calls Tryz.prog 39 #[.pointer (some ⟨b, 0, none⟩), .string s] w fun r w' => r = .returned (.tuple #[]) ∧ PS w' b X E (PP.require E σ s.data.toList) ∧ Fr b w w' := by
  obtain ⟨c0, c1, _, _, _, _⟩ := h.cells
  have f1 := h.frozen 1
  have hsees := sees_any s w h
  have hrej : ∀ k, Calls Tryz.prog 16 #[.pointer (some ⟨b, 0, none⟩)] (w.drewN k) fun r w' => r = .returned (.tuple #[]) ∧ PS w' b X E (PP.reject E σ) ∧ Fr b (w.drewN k) w' := fun k => reject_any _ (h.drewN k)
  have hfr : ∀ k w', Fr b (w.drewN k) w' → Fr b w w' := fun k w' hf => ((Fr.refl b w).drewN k).trans hf
  have HFR := Lib.hid hfr
  have HR := Lib.hid hrej
  have hlen := h.len
  unfold PP.require
  cases hs : PP.sees E σ s.data.toList with
  | false =>
    rw [hs] at hsees
    simp only [Bool.false_eq_true, if_false]
    have HS := Lib.hid hsees
    clear hsees hs hrej hfr h
    go_enter Tryz.func39, Tryz.ntmps39
    go_wp2_with fail
    refine HS.out.mono ?_
    rintro e w1 ⟨rfl, n1, rfl⟩
    go_wp2_with fail
    refine (HR.out _).mono ?_
    rintro e w2 ⟨rfl, hp, hf⟩
    go_wp2_with fail
    go_end0
    exact ⟨rfl, hp, HFR.out _ _ hf⟩
  | true =>
    have hn : σ.next < E.ts.length := by
      unfold PP.sees at hs
      rcases PP.more_cases E σ with ⟨_, _, h3⟩ | ⟨h1, _⟩ | ⟨h1, _, _⟩
      · exact h3
      · rw [h1] at hs; cases hs
      · rw [h1] at hs; cases hs
    rw [hs] at hsees
    simp only [if_true]
    have HS := Lib.hid hsees
    have hset : ∀ k, PS ((w.drewN k).setCell ⟨b, 1, none⟩ (.int .i64 ((σ.next : Int) + 1))) b X E (PP.adv σ) := fun k => (h.drewN k).setNext (σ.next + 1) (by omega)
    have hfs : ∀ k, Fr b w ((w.drewN k).setCell ⟨b, 1, none⟩ (.int .i64 ((σ.next : Int) + 1))) := fun k => ((Fr.refl b w).drewN k).set 1 _
    have HSET := Lib.hid hset
    have HFS := Lib.hid hfs
    clear hsees hs hrej hfr h hset hfs
    go_enter Tryz.func39, Tryz.ntmps39
    go_wp2_with fail
    refine HS.out.mono ?_
    rintro e w1 ⟨rfl, n1, rfl⟩
    go_wp2_with fail
    go_end0
    exact ⟨rfl, HSET.out _, HFS.out _⟩
end
end Go.Proofs.YtglaecalbamnkaaGreatDoor
/- The contracts of the parser's name and number. -/
namespace Go.Proofs.YtglaecalbamnkaaGreatDoor
open Go.RowKit Go.Maps

section
set_option maxHeartbeats 400000
set_option maxRecDepth 100000
/-- A text without its leading zeros. -/
def trim0 (l : List UInt8) : List UInt8 := l.dropWhile (· == 48)
theorem drop0_step {l : List UInt8} {k : Nat} (h : k < l.length) (h0 : l[k] = 48) : trim0 (l.drop k) = trim0 (l.drop (k + 1)) := by
  unfold trim0
  rw [List.drop_eq_getElem_cons h, List.dropWhile_cons, h0]; rfl
theorem drop0_stop {l : List UInt8} {k : Nat} (h : k < l.length) (h0 : l[k] ≠ 48) : trim0 (l.drop k) = l.drop k := by
  unfold trim0
  rw [List.drop_eq_getElem_cons h, List.dropWhile_cons]
  have : (l[k] == 48) = false := by simpa using h0
  rw [this]; rfl
theorem trimByte_any (s : ByteArray) (w : World) (hs : s.size ≤ maxLen) :
    Calls Tryz.prog 81 #[.string s, .int .u8 48] w fun e w' => e = .returned (.string ⟨(trim0 s.data.toList).toArray⟩) ∧ w = w' := by
  have hsl : s.data.toList.length = s.size := Array.length_toList
  have HSL := Lib.hid hsl
  clear hsl
  unfold maxLen at hs
  go_enter Tryz.func81, Tryz.ntmps81
  go_wp2_with fail
  go_loop [0] (fun x => ∃ k : Nat, k ≤ s.size ∧ x = .string (s.extract k s.size) ∧ trim0 s.data.toList = trim0 (s.data.toList.drop k)) (fun x => match x with | .string t => t.size | _ => 0)
  case atStart => exact ⟨0, Nat.zero_le _, by rw [show s.extract 0 s.size = s from bytes_ext (by rw [drop_bytes]; simp)], by simp⟩
  case round =>
    obtain ⟨k, hk, rfl, ht⟩ := hrel
    have HT := Lib.hid ht
    clear ht
    by_cases hlt : k < s.size
    · have hx : (s.extract k s.size).size = s.size - k := by simp
      generalize hX : s.extract k s.size = Y at *
      have hy : 0 < Y.size := by omega
      have hY0 : Y[0] = s[k] := by
        have h1 := drop_bytes s k
        rw [hX] at h1
        have h2 : Y.data.toList[0]'(by rw [Array.length_toList]; exact hy) = (s.data.toList.drop k)[0]'(by rw [← h1, Array.length_toList]; exact hy) := by simp [h1]
        have h3 : Y.data[0]'hy = s.data[k]'hlt := by simpa using h2
        exact h3
      have hnext : Y.extract 1 Y.size = s.extract (k + 1) s.size := by
        apply bytes_ext
        rw [drop_bytes, drop_bytes, ← hX, drop_bytes, List.drop_drop]
      have hkl : k < s.data.toList.length := by rw [HSL.out]; exact hlt
      have hyz : decide ((0 : Int) < (Y.size : Int)) = true := by simp; omega
      have hyz2 : decide (0 < Y.size) = true := by simp; omega
      have HX := Lib.hid hX
      have HNX := Lib.hid hnext
      have HY0 := Lib.hid hY0
      have Hx := Lib.hid hx
      have hyb : Y.size ≤ 9223372036854775807 := by omega
      clear hX hnext hY0 hx
      by_cases h48 : s[k] = 48
      · have hb : ((Y[0].toNat : Int) == 48) = true := by rw [HY0.out, h48]; rfl
        have hst := drop0_step hkl (by exact h48)
        have HST := Lib.hid hst
        clear hst h48
        go_wp2_with fail
        go_round
        case rel => exact ⟨k + 1, by omega, by rw [HNX.out], by rw [HT.out, HST.out]⟩
        case measure => simp; omega
      · have hb : ((Y[0].toNat : Int) == 48) = false := by
          rw [HY0.out, ← show (s[k] == 48) = ((s[k].toNat : Int) == 48) from PL.byte_beq _ _]
          simpa using h48
        have hst := drop0_stop hkl (by exact h48)
        have HST := Lib.hid hst
        clear hst h48
        go_wp2_with fail
        go_ret
        refine ⟨?_, rfl⟩
        rw [HT.out, HST.out, show (⟨(s.data.toList.drop k).toArray⟩ : ByteArray) = Y from bytes_ext (by rw [← HX.out, drop_bytes])]
        rfl
    · have hz : (s.extract k s.size).size = 0 := by simp; omega
      have htn : trim0 (s.data.toList.drop k) = [] := by rw [List.drop_of_length_le (by rw [HSL.out]; omega)]; rfl
      generalize hX : s.extract k s.size = Y at *
      have hyz : decide ((0 : Int) < (Y.size : Int)) = false := decide_eq_false (by omega)
      have hyz2 : decide (0 < Y.size) = false := decide_eq_false (by omega)
      have HTN := Lib.hid htn
      have HZ := Lib.hid hz
      clear hX htn hz
      go_wp2_with fail
      go_ret
      refine ⟨?_, rfl⟩
      rw [HT.out, HTN.out, show (⟨([] : List UInt8).toArray⟩ : ByteArray) = Y from bytes_ext (by
        have : Y.data.toList.length = 0 := by rw [Array.length_toList]; exact HZ.out
        rw [List.eq_nil_of_length_eq_zero this])]
      rfl
theorem trimLeft_any (s : ByteArray) (w : World) (hs : s.size ≤ maxLen) :
    Calls Tryz.prog 57 #[.string s, .string ⟨#[48]⟩] w fun e w' => e = .returned (.string ⟨(trim0 s.data.toList).toArray⟩) ∧ w = w' := by
  by_cases h0 : s.size = 0
  · have he : s.data.toList = [] := List.eq_nil_of_length_eq_zero (by rw [Array.length_toList]; exact h0)
    have hie : s.toList.isEmpty = true := by rw [Lib.toList_data, he]; rfl
    have hie2 : s.toList = [] := by rw [Lib.toList_data, he]
    have hfin : (⟨(trim0 s.data.toList).toArray⟩ : ByteArray) = s := bytes_ext (by rw [he]; rfl)
    rw [hfin]
    clear hfin he h0
    go_enter Tryz.func57, Tryz.ntmps57
    go_wp2_with fail
    go_ret
    exact ⟨rfl, rfl⟩
  · have hne : s.data.toList ≠ [] := by intro h; have := congrArg List.length h; rw [Array.length_toList] at this; exact h0 this
    have hie : s.toList.isEmpty = false := by rw [Lib.toList_data]; simpa using hne
    have HB := Lib.hid (trimByte_any s w hs)
    clear hne h0
    go_enter Tryz.func57, Tryz.ntmps57
    go_wp2_with (go_at_call 81; refine HB.out.mono ?_; rintro e w' ⟨rfl, rfl⟩)
    go_ret
    exact ⟨rfl, rfl⟩
end
end Go.Proofs.YtglaecalbamnkaaGreatDoor
/- The contracts of the parser's name and number. -/
namespace Go.Proofs.YtglaecalbamnkaaGreatDoor
open Go.RowKit Go.Maps

/-- The program's tables lie beside the parser. -/
structure Gl (w : World) (b : Nat) : Prop where
  signs : SignsIs w
  ne : 1 ≠ b
theorem Gl.fr {w w' : World} {b : Nat} (h : Gl w b) (k : Fr b w w') : Gl w' b := by
  refine ⟨?_, h.ne⟩
  obtain ⟨t, fr, hs⟩ := h.signs
  exact ⟨t, fr, (k.block _ h.signs.pos (by simpa using h.ne)).trans hs⟩

section
set_option maxHeartbeats 400000
set_option maxRecDepth 100000
variable {b : Nat} {X : Loc} {E : PP.Env} {σ : PP.St}
theorem nameP_any (w : World) (hg : Gl w b) (h : PS w b X E σ) :
    Calls Tryz.prog 38 #[.pointer (some ⟨b, 0, none⟩)] w fun r w' => r = .returned (.string ⟨(PP.nameP E σ).2.toArray⟩) ∧ PS w' b X E (PP.nameP E σ).1 ∧ Fr b w w' := by
  obtain ⟨c0, c1, _, _, _, _⟩ := h.cells
  have hmore : ∀ k, Calls Tryz.prog 15 #[.pointer (some ⟨b, 0, none⟩)] (w.drewN k) fun e w' => e = .returned (.bool (PP.more E σ)) ∧ ∃ n, w' = (w.drewN k).drewN n := fun k => more_any _ (h.drewN k)
  have hrej : ∀ k, Calls Tryz.prog 16 #[.pointer (some ⟨b, 0, none⟩)] (w.drewN k) fun r w' => r = .returned (.tuple #[]) ∧ PS w' b X E (PP.reject E σ) ∧ Fr b (w.drewN k) w' := fun k => reject_any _ (h.drewN k)
  have hfr : ∀ k w', Fr b (w.drewN k) w' → Fr b w w' := fun k w' hf => ((Fr.refl b w).drewN k).trans hf
  have HFR := Lib.hid hfr
  have HR := Lib.hid hrej
  clear hfr hrej
  cases hm : PP.more E σ with
  | false =>
    have hv : PP.nameP E σ = (PP.reject E σ, []) := by unfold PP.nameP; rw [hm]; rfl
    rw [hv]
    rw [hm] at hmore
    have HM := Lib.hid hmore
    clear hmore hm hv h hg
    go_enter Tryz.func38, Tryz.ntmps38
    go_wp2_with fail
    go_quiet ((go_at_call 15; exact quiet_dr (HM.out _)))
    go_wp2_with fail
    refine (HR.out _).mono ?_
    rintro e w2 ⟨rfl, hp, hf⟩
    go_wp2_with fail
    go_ret
    exact ⟨rfl, hp, HFR.out _ _ hf⟩
  | true =>
    have hn : σ.next < E.ts.length := by
      rcases PP.more_cases E σ with ⟨_, _, h3⟩ | ⟨h1, _⟩ | ⟨h1, _, _⟩
      · exact h3
      · rw [hm] at h1; cases h1
      · rw [hm] at h1; cases h1
    obtain ⟨g, o, hA, t0, t1, t2⟩ := h.cur hn
    have hbl := h.lt
    have hgne : g ≠ b := by
      obtain ⟨g', o', hA', hg', _⟩ := h.tok _ _ (PP.cur_at E hn)
      rw [hA] at hA'; injection hA' with hA'; injection hA' with hA' _; rw [hA']; exact hg'
    have hgl : g < w.heap.size := World.block_lt_of_cell? w _ t1
    have htl := h.txt _ (List.mem_of_getElem? (PP.cur_at E hn))
    have hname : ∀ k, Calls Tryz.prog 56 #[.string ⟨(PP.cur E σ).text.toArray⟩] (w.drewN k) fun e w' => e = .returned (.bool (PL.isName (PP.cur E σ).text)) ∧ Below (w.drewN k).heap.size (w.drewN k) w' := fun k =>
      name_any ⟨(PP.cur E σ).text.toArray⟩ (w.drewN k) hg.signs (by show (PP.cur E σ).text.toArray.size ≤ _; rw [List.size_toArray]; unfold maxLen; omega)
    have hv : PP.nameP E σ = if PL.isName (PP.cur E σ).text then (PP.adv σ, (PP.cur E σ).text) else (PP.reject E σ, []) := by unfold PP.nameP; rw [hm]; rfl
    rw [hv]
    rw [hA] at c0
    rw [hm] at hmore
    have HM := Lib.hid hmore
    have HN := Lib.hid hname
    have p1 : (0 : Int) ≤ (σ.next : Int) := by omega
    have p2 : (σ.next : Int) < (E.ts.length : Int) := by omega
    have hlen := h.len
    have HP := Lib.hid h
    have HA := Lib.hid hA
    have HG := Lib.hid hgne
    generalize hT : (PP.cur E σ).text = T at *
    clear hmore hname hm hv hA hT t0 t2 h hg htl hgne
    cases hb : PL.isName T with
    | false =>
      simp only [Bool.false_eq_true, if_false]
      go_enter Tryz.func38, Tryz.ntmps38
      go_wp2_with fail
      go_region_held3 (fun W => W.cell? ⟨b, 0, none⟩ = some (.slice (some ⟨g, o, none⟩) E.ts.length X.c) ∧ W.cell? ⟨b, 1, none⟩ = some (.int .i64 (σ.next : Int)) ∧ W.cell? ⟨g, o + σ.next * 3 + 1, none⟩ = some (.string ⟨T.toArray⟩)) (first | exact ⟨c0, c1, t1⟩ | exact ⟨(hb2.cell (p := ⟨b, 0, none⟩) hbl).trans c0, (hb2.cell (p := ⟨b, 1, none⟩) hbl).trans c1, (hb2.cell (p := ⟨g, o + σ.next * 3 + 1, none⟩) hgl).trans t1⟩) (first | (go_at_call 15; refine (HM.out 1).mono ?_; rintro e w1 ⟨rfl, n1, rfl⟩) | (go_at_call 56; refine (HN.out _).mono ?_; rintro e w2 ⟨rfl, hb2⟩))
      have HP2 := Lib.hid ((HP.out.drewN _).below hb2)
      have hf2 : Fr b w w2 := ((Fr.refl b w).drewN _).below hb2
      go_wp2_with fail
      refine (reject_any _ HP2.out).mono ?_
      rintro e w3 ⟨rfl, hp3, hf3⟩
      go_wp2_with fail
      go_ret
      exact ⟨rfl, hp3, hf2.trans hf3⟩
    | true =>
      simp only [if_true]
      go_enter Tryz.func38, Tryz.ntmps38
      go_wp2_with fail
      go_region_held3 (fun W => W.cell? ⟨b, 0, none⟩ = some (.slice (some ⟨g, o, none⟩) E.ts.length X.c) ∧ W.cell? ⟨b, 1, none⟩ = some (.int .i64 (σ.next : Int)) ∧ W.cell? ⟨g, o + σ.next * 3 + 1, none⟩ = some (.string ⟨T.toArray⟩)) (first | exact ⟨c0, c1, t1⟩ | exact ⟨(hb2.cell (p := ⟨b, 0, none⟩) hbl).trans c0, (hb2.cell (p := ⟨b, 1, none⟩) hbl).trans c1, (hb2.cell (p := ⟨g, o + σ.next * 3 + 1, none⟩) hgl).trans t1⟩) (first | (go_at_call 15; refine (HM.out 1).mono ?_; rintro e w1 ⟨rfl, n1, rfl⟩) | (go_at_call 56; refine (HN.out _).mono ?_; rintro e w2 ⟨rfl, hb2⟩))
      have hp2 := (HP.out.drewN _).below hb2
      have hf2 : Fr b w w2 := ((Fr.refl b w).drewN _).below hb2
      obtain ⟨d0, d1, _, _, _, _⟩ := hp2.cells
      rw [HA.out] at d0
      have f1 := hp2.frozen 1
      have d2 := (hb2.cell (p := ⟨g, o + σ.next * 3 + 1, none⟩) hgl).trans t1
      have hset := hp2.setNext (σ.next + 1) (by omega)
      have hfs := hf2.set 1 (.int .i64 ((σ.next : Int) + 1))
      have HSET := Lib.hid hset
      have HFS := Lib.hid hfs
      have hgb : g ≠ b := HG.out
      have e0 : (w2.setCell ⟨b, 1, none⟩ (.int .i64 ((σ.next : Int) + 1))).cell? ⟨b, 0, none⟩ = some (.slice (some ⟨g, o, none⟩) E.ts.length X.c) := by rw [World.cell?_setCell_other _ _ _ _ (by simp)]; exact d0
      have e1 : (w2.setCell ⟨b, 1, none⟩ (.int .i64 ((σ.next : Int) + 1))).cell? ⟨b, 1, none⟩ = some (.int .i64 ((σ.next : Int) + 1)) := HSET.out.cells.2.1
      have e2 : (w2.setCell ⟨b, 1, none⟩ (.int .i64 ((σ.next : Int) + 1))).cell? ⟨g, o + σ.next * 3 + 1, none⟩ = some (.string ⟨T.toArray⟩) := by rw [World.cell?_setCell_other _ _ _ _ (by intro h; injection h with h; exact hgb h.symm)]; exact d2
      clear hp2 hset hfs HP hb2 c0 c1 t1 hgb
      go_wp2_with fail
      have hw : IntKind.i64.wrap ((σ.next : Int) + 1 - 1) = (σ.next : Int) := by rw [show (σ.next : Int) + 1 - 1 = (σ.next : Int) from by omega]; exact IntWalk.i64_in _ (by omega)
      go_quiet (fail)
      go_wp2_with fail
      go_ret
      exact ⟨rfl, HSET.out.drewN _, HFS.out.drewN _⟩
end
end Go.Proofs.YtglaecalbamnkaaGreatDoor
/- The contract of the parser's number. -/
namespace Go.Proofs.YtglaecalbamnkaaGreatDoor
open Go.RowKit Go.Maps

/-- What the loop over the digits has read. -/
def Read (high : Int) (ds : List UInt8) (k : Nat) (v : Int) : Prop := PP.digitsVal high 0 ds = PP.digitsVal high v (ds.drop k) ∧ 0 ≤ v ∧ v ≤ high * 10 + 255
theorem Read.next {high : Int} {ds : List UInt8} {k : Nat} {v : Int} (h : Read high ds k v) (hk : k < ds.length) (hv : v ≤ high) : Read high ds (k + 1) (v * 10 + ((ds[k] - 48).toNat : Int)) := by
  have hd : (ds[k] - 48).toNat < 256 := (ds[k] - 48).toNat_lt
  refine ⟨?_, by have := h.2.1; omega, by omega⟩
  rw [h.1, List.drop_eq_getElem_cons hk]
  simp only [PP.digitsVal, hv, if_true]
theorem Read.stop {high : Int} {ds : List UInt8} {k : Nat} {v : Int} (h : Read high ds k v) (hd : ds.length ≤ k ∨ high < v) : PP.digitsVal high 0 ds = v := by
  rw [h.1]
  rcases hd with hd | hd
  · rw [List.drop_of_length_le hd]; rfl
  · cases ds.drop k with
    | nil => rfl
    | cons a t => simp only [PP.digitsVal]; rw [if_neg (by omega)]
def NumRel (high : Int) (ds : List UInt8) (n : Nat) (x i : Value) : Prop := ∃ (k : Nat) (v : Int), k ≤ n ∧ i = .int .i64 k ∧ x = .int .i64 v ∧ Read high ds k v
theorem sub48 (c : UInt8) : IntKind.u8.wrap ((c.toNat : Int) - 48) = ((c - 48).toNat : Int) := by
  rw [IntKind.wrap_u8, UInt8.toNat_sub]
  have := c.toNat_lt
  simp
  omega

section
set_option maxHeartbeats 400000
set_option maxRecDepth 100000
variable {b : Nat} {X : Loc} {E : PP.Env} {σ : PP.St}
theorem numP_any (low high : Int) (w : World) (_hl0 : 0 ≤ low) (hh0 : 0 ≤ high) (hh : high ≤ 2147483647) (h : PS w b X E σ) :
    Calls Tryz.prog 40 #[.pointer (some ⟨b, 0, none⟩), .int .i64 low, .int .i64 high] w fun r w' => r = .returned (.int .i64 (PP.numP E σ low high).2) ∧ PS w' b X E (PP.numP E σ low high).1 ∧ Fr b w w' := by
  obtain ⟨c0, c1, _, _, _, _⟩ := h.cells
  have hmore : ∀ k, Calls Tryz.prog 15 #[.pointer (some ⟨b, 0, none⟩)] (w.drewN k) fun e w' => e = .returned (.bool (PP.more E σ)) ∧ ∃ n, w' = (w.drewN k).drewN n := fun k => more_any _ (h.drewN k)
  have hrej : ∀ k, Calls Tryz.prog 16 #[.pointer (some ⟨b, 0, none⟩)] (w.drewN k) fun r w' => r = .returned (.tuple #[]) ∧ PS w' b X E (PP.reject E σ) ∧ Fr b (w.drewN k) w' := fun k => reject_any _ (h.drewN k)
  have hfr : ∀ k w', Fr b (w.drewN k) w' → Fr b w w' := fun k w' hf => ((Fr.refl b w).drewN k).trans hf
  have HFR := Lib.hid hfr
  have HR := Lib.hid hrej
  clear hfr hrej
  cases hm : PP.more E σ with
  | false =>
    have hv : PP.numP E σ low high = (PP.reject E σ, 0) := by unfold PP.numP; rw [hm]; rfl
    rw [hv]
    rw [hm] at hmore
    have HM := Lib.hid hmore
    clear hmore hm hv h
    go_enter Tryz.func40, Tryz.ntmps40
    go_wp2_with fail
    go_quiet ((go_at_call 15; exact quiet_dr (HM.out _)))
    go_wp2_with fail
    refine (HR.out _).mono ?_
    rintro e w2 ⟨rfl, hp, hf⟩
    go_wp2_with fail
    go_ret
    exact ⟨rfl, hp, HFR.out _ _ hf⟩
  | true =>
    have hn : σ.next < E.ts.length := by
      rcases PP.more_cases E σ with ⟨_, _, h3⟩ | ⟨h1, _⟩ | ⟨h1, _, _⟩
      · exact h3
      · rw [hm] at h1; cases h1
      · rw [hm] at h1; cases h1
    obtain ⟨g, o, hA, t0, t1, t2⟩ := h.cur hn
    have htl := h.txt _ (List.mem_of_getElem? (PP.cur_at E hn))
    rw [hA] at c0
    rw [hm] at hmore
    have HM := Lib.hid hmore
    have p1 : (0 : Int) ≤ (σ.next : Int) := by omega
    have p2 : (σ.next : Int) < (E.ts.length : Int) := by omega
    have hlen := h.len
    by_cases hk : (PP.cur E σ).kind = 2
    · have hv : PP.numP E σ low high = (if PP.digitsVal high 0 (trim0 (PP.cur E σ).text) < low ∨ high < PP.digitsVal high 0 (trim0 (PP.cur E σ).text) then (PP.fail σ (PP.here E σ) 2, 0) else (PP.adv σ, PP.digitsVal high 0 (trim0 (PP.cur E σ).text))) := by
        unfold PP.numP; rw [hm, hk]; rfl
      have htr : ∀ W, Calls Tryz.prog 57 #[.string ⟨(PP.cur E σ).text.toArray⟩, .string ⟨#[48]⟩] W fun e w' => e = .returned (.string ⟨(trim0 (PP.cur E σ).text).toArray⟩) ∧ W = w' := fun W =>
        trimLeft_any ⟨(PP.cur E σ).text.toArray⟩ W (by show (PP.cur E σ).text.toArray.size ≤ _; rw [List.size_toArray]; unfold maxLen; omega)
      have hdl : (trim0 (PP.cur E σ).text).length ≤ 65536 := Nat.le_trans (List.dropWhile_sublist _).length_le htl
      have hhere : ∀ k, Calls Tryz.prog 35 #[.pointer (some ⟨b, 0, none⟩)] (w.drewN k) fun e w' => e = .returned (.int .i64 (PP.here E σ : Int)) ∧ ∃ n, w' = (w.drewN k).drewN n := fun k => here_any _ (h.drewN k)
      have hfail : ∀ k e, Calls Tryz.prog 34 #[.pointer (some ⟨b, 0, none⟩), .int .i64 (PP.here E σ : Int), .int .i64 ((e : Nat) : Int)] (w.drewN k) fun r w' => r = .returned (.tuple #[]) ∧ PS w' b X E (PP.fail σ (PP.here E σ) e) ∧ Fr b (w.drewN k) w' := fun k e => fail_any _ e _ (h.drewN k)
      rw [hk] at t0
      have hset : ∀ k, PS ((w.drewN k).setCell ⟨b, 1, none⟩ (.int .i64 ((σ.next : Int) + 1))) b X E (PP.adv σ) := fun k => (h.drewN k).setNext (σ.next + 1) (by omega)
      have hfs : ∀ k, Fr b w ((w.drewN k).setCell ⟨b, 1, none⟩ (.int .i64 ((σ.next : Int) + 1))) := fun k => ((Fr.refl b w).drewN k).set 1 _
      have f1 := h.frozen 1
      generalize hres : PP.numP E σ low high = res at *
      generalize hD : trim0 (PP.cur E σ).text = D at *
      generalize hVV : PP.digitsVal high 0 D = V at *
      have HV := Lib.hid hv
      have HVV := Lib.hid hVV
      have HTR := Lib.hid htr
      have HHERE := Lib.hid hhere
      have HFAIL := Lib.hid hfail
      have HSET := Lib.hid hset
      have HFS := Lib.hid hfs
      generalize hT : (PP.cur E σ).text = T at *
      clear hmore hm hv hres hVV htr hhere hfail hset hfs hD hT hk hA t2 h htl
      have hdz : (⟨D.toArray⟩ : ByteArray).size = D.length := by show D.toArray.size = _; simp
      have hds : ∀ (k : Nat) (h : k < (⟨D.toArray⟩ : ByteArray).size) (h2 : k < D.length), ((⟨D.toArray⟩ : ByteArray)[k]'h) = D[k]'h2 := fun k h h2 => rfl
      generalize hDB : (⟨D.toArray⟩ : ByteArray) = DB at *
      have HDS := Lib.hid hds
      have HDZ := Lib.hid hdz
      have hdb : DB.size ≤ 65536 := by omega
      clear hds hdz hDB hdl
      go_enter Tryz.func40, Tryz.ntmps40
      go_wp2_with fail
      go_quiet ((go_at_call 15; exact quiet_dr (HM.out _)))
      go_wp2_with fail
      go_quiet ((go_at_call 57; exact quiet_add_left (HTR.out _)))
      go_wp2_with fail
      go_loop [7, 9] (fun x i => NumRel high D DB.size x i) (fun _ i => DB.size - (intOf i).toNat)
      case atStart => exact ⟨0, 0, Nat.zero_le _, rfl, rfl, by simp, by omega, by omega⟩
      case round =>
        obtain ⟨k, v, hk, rfl, rfl, hrd⟩ := hrel
        have hv0 := hrd.2.1
        have hv1 := hrd.2.2
        by_cases hlt : k < DB.size ∧ v ≤ high
        · obtain ⟨hlt, hvh⟩ := hlt
          have hnx := hrd.next (by rw [← HDZ.out]; exact hlt) hvh
          rw [← HDS.out k hlt _] at hnx
          have hsub := sub48 DB[k]
          have hd : (DB[k] - 48).toNat < 256 := (DB[k] - 48).toNat_lt
          generalize hdd : (DB[k] - 48).toNat = dd at *
          have HNX := Lib.hid hnx
          have e1 : decide (k < DB.size) = true := by simp; exact hlt
          have e2 : decide ((k : Int) < (DB.size : Int)) = true := by simp; exact hlt
          have e3 : decide (v ≤ high) = true := by simpa using hvh
          clear hnx hdd
          go_wp2_with fail
          go_round
          case rel => exact ⟨k + 1, _, by omega, by go_num, rfl, HNX.out⟩
          case measure => simp [intOf]; omega
        · have hst := hrd.stop (by rw [← HDZ.out]; omega)
          rw [HVV.out] at hst
          subst hst
          have hex : (k < DB.size ∧ ¬ V ≤ high) ∨ ¬ k < DB.size := by omega
          clear hrd hlt HVV
          by_cases hbad : V < low ∨ high < V
          · have hres := HV.out
            rw [if_pos hbad] at hres
            have HRES := Lib.hid hres
            clear hres
            rcases hex with ⟨q1, q2⟩ | q1 <;> rcases (show V < low ∨ (¬ V < low ∧ high < V) from by omega) with r1 | ⟨r1, r2⟩
            all_goals
              go_wp2_with fail
              refine (HHERE.out _).mono ?_
              rintro e w1 ⟨rfl, n1, rfl⟩
              go_wp2_with fail
              refine (HFAIL.out _ 2).mono ?_
              rintro e w2 ⟨rfl, hp, hf⟩
              go_wp2_with fail
              go_ret
              rw [HRES.out]
              exact ⟨rfl, hp, HFR.out _ _ hf⟩
          · have hres := HV.out
            rw [if_neg hbad] at hres
            have HRES := Lib.hid hres
            clear hres
            rcases hex with ⟨q1, q2⟩ | q1
            · exfalso; omega
            · go_wp2_with fail
              go_ret
              rw [HRES.out]
              exact ⟨rfl, HSET.out _, HFS.out _⟩
    · have hv : PP.numP E σ low high = (PP.reject E σ, 0) := by unfold PP.numP; rw [hm]; simp [hk]
      rw [hv]
      have hkk : (((PP.cur E σ).kind : Int) != 2) = true := by simp; omega
      generalize hKK : (PP.cur E σ).kind = KK at *
      clear hmore hm hv h hk hKK t1 t2 hA htl
      go_enter Tryz.func40, Tryz.ntmps40
      go_wp2_with fail
      go_quiet ((go_at_call 15; exact quiet_dr (HM.out _)))
      go_wp2_with fail
      refine (HR.out _).mono ?_
      rintro e w2 ⟨rfl, hp, hf⟩
      go_wp2_with fail
      go_ret
      exact ⟨rfl, hp, HFR.out _ _ hf⟩
end
end Go.Proofs.YtglaecalbamnkaaGreatDoor
/- Trees in memory. -/
namespace Go.Proofs.YtglaecalbamnkaaGreatDoor
open Go.RowKit
open PP (Tree)
open Go.Maps Go.WideMaps Go.WideElems

/-- The children of a node, in blocks of a set. -/
inductive KidsC (w : World) (Z : Nat → Prop) : Option Addr → List Tree → Prop
  | mk (A : Option Addr) (kids : List Tree) (g o : Nat) (K : Nat → Nat) (N : Nat → Int) (S : Nat → List UInt8) (AA : Nat → Option Addr) (C : Nat → Nat) (KS : Nat → List Tree)
      (hA : kids ≠ [] → A = some ⟨g, o, none⟩ ∧ Z g ∧ g < w.heap.size)
      (hk : ∀ i, i < kids.length → kids[i]? = some (.node (K i) (N i) (S i) (KS i)))
      (hc : ∀ i, i < kids.length → w.cell? ⟨g, o + i * 4, none⟩ = some (.int .u8 (K i : Int)) ∧ w.cell? ⟨g, o + i * 4 + 1, none⟩ = some (.int .i64 (N i)) ∧ w.cell? ⟨g, o + i * 4 + 2, none⟩ = some (.string ⟨(S i).toArray⟩) ∧ w.cell? ⟨g, o + i * 4 + 3, none⟩ = some (.slice (AA i) (KS i).length (C i)))
      (h : ∀ i, i < kids.length → KidsC w Z (AA i) (KS i)) : KidsC w Z A kids
theorem KidsC.nil (w : World) (Z : Nat → Prop) (A : Option Addr) : KidsC w Z A [] :=
  .mk A [] 0 0 (fun _ => 0) (fun _ => 0) (fun _ => []) (fun _ => none) (fun _ => 0) (fun _ => []) (fun h => absurd rfl h) (fun i hi => by simp at hi) (fun i hi => by simp at hi) (fun i hi => by simp at hi)
/-- What lies in the set has stayed. -/
def Keep (Z : Nat → Prop) (w w' : World) : Prop := w.heap.size ≤ w'.heap.size ∧ ∀ g, Z g → g < w.heap.size → w'.heap[g]? = w.heap[g]?
theorem Keep.refl (Z : Nat → Prop) (w : World) : Keep Z w w := ⟨Nat.le_refl _, fun _ _ _ => rfl⟩
theorem Keep.trans {Z : Nat → Prop} {w w' w'' : World} (h : Keep Z w w') (k : Keep Z w' w'') : Keep Z w w'' :=
  ⟨Nat.le_trans h.1 k.1, fun g hz hg => (k.2 g hz (Nat.lt_of_lt_of_le hg h.1)).trans (h.2 g hz hg)⟩
theorem Keep.fr {Z : Nat → Prop} {b : Nat} {w w' w'' : World} (h : Keep Z w w') (k : Fr b w' w'') (hb : ¬ Z b) : Keep Z w w'' :=
  h.trans ⟨k.size, fun g hz hg => k.block g hg (by intro e; injection e with e; subst e; exact hb hz)⟩
theorem Keep.alloc {Z : Nat → Prop} {w w' : World} (h : Keep Z w w') (o : Obj) : Keep Z w (w'.alloc o) :=
  h.trans ⟨by simp, fun g _ hg => Below.heap_alloc w' o g hg⟩
theorem Keep.drewN {Z : Nat → Prop} {w w' : World} (h : Keep Z w w') (n : Nat) : Keep Z w (w'.drewN n) := h
theorem Keep.drew {Z : Nat → Prop} {w w' : World} (h : Keep Z w w') : Keep Z w w'.drew := h
theorem Keep.set {Z : Nat → Prop} {w w' : World} (h : Keep Z w w') {p : Addr} (hp : ¬ Z p.block) (u : Value) : Keep Z w (w'.setCell p u) :=
  h.trans ⟨by simp [World.setCell], fun g hz _ => Below.heap_setCell w' p u g (by rintro rfl; exact hp hz)⟩
theorem KidsC.keep {w w' : World} {Z : Nat → Prop} {A : Option Addr} {kids : List Tree} (h : KidsC w Z A kids) (k : Keep Z w w') : KidsC w' Z A kids := by
  induction h with
  | mk A kids g o K N S AA C KS hA hk hc _ ih =>
    refine .mk A kids g o K N S AA C KS (fun hn => ?_) hk (fun i hi => ?_) ih
    · obtain ⟨h1, h2, h3⟩ := hA hn
      exact ⟨h1, h2, Nat.lt_of_lt_of_le h3 k.1⟩
    · obtain ⟨_, h2, h3⟩ := hA (by rintro rfl; simp at hi)
      have hb := k.2 g h2 h3
      obtain ⟨c0, c1, c2, c3⟩ := hc i hi
      exact ⟨(World.cell?_of_block (a := ⟨g, o + i * 4, none⟩) hb).trans c0, (World.cell?_of_block (a := ⟨g, o + i * 4 + 1, none⟩) hb).trans c1, (World.cell?_of_block (a := ⟨g, o + i * 4 + 2, none⟩) hb).trans c2, (World.cell?_of_block (a := ⟨g, o + i * 4 + 3, none⟩) hb).trans c3⟩
theorem KidsC.weak {w : World} {Z Z' : Nat → Prop} {A : Option Addr} {kids : List Tree} (h : KidsC w Z A kids) (k : ∀ g, Z g → g < w.heap.size → Z' g) : KidsC w Z' A kids := by
  induction h with
  | mk A kids g o K N S AA C KS hA hk hc _ ih =>
    refine .mk A kids g o K N S AA C KS (fun hn => ?_) hk hc ih
    obtain ⟨h1, h2, h3⟩ := hA hn
    exact ⟨h1, k g h2 h3, h3⟩
/-- A node as a value. -/
def NodeV (w : World) (Z : Nat → Prop) (v : Value) (t : Tree) : Prop :=
  ∃ k num nm A c kids, v = .agg #[.int .u8 ((k : Nat) : Int), .int .i64 num, .string ⟨(nm : List UInt8).toArray⟩, .slice A (kids : List Tree).length c] ∧ t = .node k num nm kids ∧ KidsC w Z A kids
theorem NodeV.keep {w w' : World} {Z : Nat → Prop} {v : Value} {t : Tree} (h : NodeV w Z v t) (k : Keep Z w w') : NodeV w' Z v t := by
  obtain ⟨kd, num, nm, A, c, kids, rfl, rfl, hk⟩ := h
  exact ⟨kd, num, nm, A, c, kids, rfl, rfl, hk.keep k⟩
theorem NodeV.weak {w : World} {Z Z' : Nat → Prop} {v : Value} {t : Tree} (h : NodeV w Z v t) (k : ∀ g, Z g → g < w.heap.size → Z' g) : NodeV w Z' v t := by
  obtain ⟨kd, num, nm, A, c, kids, rfl, rfl, hk⟩ := h
  exact ⟨kd, num, nm, A, c, kids, rfl, rfl, hk.weak k⟩
theorem NodeV.leaf (w : World) (Z : Nat → Prop) (k : Nat) (num : Int) (nm : List UInt8) : NodeV w Z (.agg #[.int .u8 (k : Int), .int .i64 num, .string ⟨nm.toArray⟩, .slice none 0 0]) (.node k num nm []) :=
  ⟨k, num, nm, none, 0, [], rfl, rfl, KidsC.nil w Z none⟩

/-- A new slice of one node. -/
theorem kids_one {w : World} {Z : Nat → Prop} (hz : Z w.heap.size) {k : Nat} {num : Int} {nm : List UInt8} {A : Option Addr} {c : Nat} {kids : List Tree} (h : KidsC w Z A kids) (ty : TypeId) :
    KidsC (w.alloc (.cells #[.int .u8 (k : Int), .int .i64 num, .string ⟨nm.toArray⟩, .slice A kids.length c] ty)) Z (some ⟨w.heap.size, 0, none⟩) [.node k num nm kids] := by
  have hf := (Keep.refl Z w).alloc (.cells #[.int .u8 (k : Int), .int .i64 num, .string ⟨nm.toArray⟩, .slice A kids.length c] ty)
  have hc := fun j => cell_of_row (w.alloc (.cells #[.int .u8 (k : Int), .int .i64 num, .string ⟨nm.toArray⟩, .slice A kids.length c] ty)) w.heap.size j #[.int .u8 (k : Int), .int .i64 num, .string ⟨nm.toArray⟩, .slice A kids.length c] ty (0, 0) (heap_alloc_new w _)
  refine .mk _ _ w.heap.size 0 (fun _ => k) (fun _ => num) (fun _ => nm) (fun _ => A) (fun _ => c) (fun _ => kids) (fun _ => ⟨rfl, hz, by simp⟩) (fun i hi => ?_) (fun i hi => ?_) (fun i hi => h.keep hf)
  · obtain rfl : i = 0 := by simp at hi; omega
    rfl
  · obtain rfl : i = 0 := by simp at hi; omega
    exact ⟨hc 0, hc 1, hc 2, hc 3⟩
def pickN {α : Type} (i : Nat) (x y : α) : α := if i = 0 then x else y
/-- A new slice of two nodes. -/
theorem kids_two {w : World} {Z : Nat → Prop} (hz : Z w.heap.size) {k : Nat} {num : Int} {nm : List UInt8} {A : Option Addr} {c : Nat} {kids : List Tree} (h : KidsC w Z A kids)
    {k' : Nat} {num' : Int} {nm' : List UInt8} {A' : Option Addr} {c' : Nat} {kids' : List Tree} (h' : KidsC w Z A' kids') (ty : TypeId) :
    KidsC (w.alloc (.cells #[.int .u8 (k : Int), .int .i64 num, .string ⟨nm.toArray⟩, .slice A kids.length c, .int .u8 (k' : Int), .int .i64 num', .string ⟨nm'.toArray⟩, .slice A' kids'.length c'] ty)) Z (some ⟨w.heap.size, 0, none⟩) [.node k num nm kids, .node k' num' nm' kids'] := by
  have hf := (Keep.refl Z w).alloc (.cells #[.int .u8 (k : Int), .int .i64 num, .string ⟨nm.toArray⟩, .slice A kids.length c, .int .u8 (k' : Int), .int .i64 num', .string ⟨nm'.toArray⟩, .slice A' kids'.length c'] ty)
  have hc := fun j => cell_of_row (w.alloc (.cells #[.int .u8 (k : Int), .int .i64 num, .string ⟨nm.toArray⟩, .slice A kids.length c, .int .u8 (k' : Int), .int .i64 num', .string ⟨nm'.toArray⟩, .slice A' kids'.length c'] ty)) w.heap.size j #[.int .u8 (k : Int), .int .i64 num, .string ⟨nm.toArray⟩, .slice A kids.length c, .int .u8 (k' : Int), .int .i64 num', .string ⟨nm'.toArray⟩, .slice A' kids'.length c'] ty (0, 0) (heap_alloc_new w _)
  refine .mk _ _ w.heap.size 0 (fun i => pickN i k k') (fun i => pickN i num num') (fun i => pickN i nm nm') (fun i => pickN i A A') (fun i => pickN i c c') (fun i => pickN i kids kids') (fun _ => ⟨rfl, hz, by simp⟩) (fun i hi => ?_) (fun i hi => ?_) (fun i hi => ?_)
  · rcases (show i = 0 ∨ i = 1 from by simp at hi; omega) with rfl | rfl <;> rfl
  · rcases (show i = 0 ∨ i = 1 from by simp at hi; omega) with rfl | rfl
    · exact ⟨hc 0, hc 1, hc 2, hc 3⟩
    · exact ⟨hc 4, hc 5, hc 6, hc 7⟩
  · rcases (show i = 0 ∨ i = 1 from by simp at hi; omega) with rfl | rfl
    · exact h.keep hf
    · exact h'.keep hf

/-- The table of the operators. -/
def opCells : Array Value := (PP.opTable.flatMap fun x => [Value.string ⟨x.1.toArray⟩, Value.int .i64 (x.2 : Int)]).toArray
def OpsIs (w : World) : Prop := ∃ (t : TypeId) (fr : Nat × Nat), w.heap[0]? = some (.cells opCells t fr)
theorem opCells_at (op : Nat) (h : op < 24) : opCells[op * 2]? = some (.string ⟨(PP.symbol op).toArray⟩) ∧ opCells[op * 2 + 1]? = some (.int .i64 (PP.level op : Int)) := by
  match op, h with
  | 0, _ => exact ⟨rfl, rfl⟩
  | 1, _ => exact ⟨rfl, rfl⟩
  | 2, _ => exact ⟨rfl, rfl⟩
  | 3, _ => exact ⟨rfl, rfl⟩
  | 4, _ => exact ⟨rfl, rfl⟩
  | 5, _ => exact ⟨rfl, rfl⟩
  | 6, _ => exact ⟨rfl, rfl⟩
  | 7, _ => exact ⟨rfl, rfl⟩
  | 8, _ => exact ⟨rfl, rfl⟩
  | 9, _ => exact ⟨rfl, rfl⟩
  | 10, _ => exact ⟨rfl, rfl⟩
  | 11, _ => exact ⟨rfl, rfl⟩
  | 12, _ => exact ⟨rfl, rfl⟩
  | 13, _ => exact ⟨rfl, rfl⟩
  | 14, _ => exact ⟨rfl, rfl⟩
  | 15, _ => exact ⟨rfl, rfl⟩
  | 16, _ => exact ⟨rfl, rfl⟩
  | 17, _ => exact ⟨rfl, rfl⟩
  | 18, _ => exact ⟨rfl, rfl⟩
  | 19, _ => exact ⟨rfl, rfl⟩
  | 20, _ => exact ⟨rfl, rfl⟩
  | 21, _ => exact ⟨rfl, rfl⟩
  | 22, _ => exact ⟨rfl, rfl⟩
  | 23, _ => exact ⟨rfl, rfl⟩
  | op + 24, h => omega
theorem OpsIs.cells {w : World} (h : OpsIs w) (op : Nat) (ho : op < 24) : w.cell? ⟨0, op * 2, none⟩ = some (.string ⟨(PP.symbol op).toArray⟩) ∧ w.cell? ⟨0, op * 2 + 1, none⟩ = some (.int .i64 (PP.level op : Int)) := by
  obtain ⟨t, fr, hb⟩ := h
  obtain ⟨h0, h1⟩ := opCells_at op ho
  exact ⟨(cell_of_row w _ _ opCells t fr hb).trans h0, (cell_of_row w _ _ opCells t fr hb).trans h1⟩
theorem level_big {op : Nat} (h : 24 ≤ op) : PP.level op = 0 := by
  unfold PP.level
  rw [List.getD_eq_getElem?_getD, List.getElem?_eq_none (by simpa [PP.opTable] using h)]; rfl
theorem symbol_big {op : Nat} (h : 24 ≤ op) : PP.symbol op = [] := by
  unfold PP.symbol
  rw [List.getD_eq_getElem?_getD, List.getElem?_eq_none (by simpa [PP.opTable] using h)]; rfl
theorem level_any (op : Nat) (w : World) (hO : OpsIs w) (h : op ≤ 255) :
    Calls Tryz.prog 72 #[.int .u8 (op : Int)] w fun e w' => e = .returned (.int .i64 (PP.level op : Int)) ∧ w = w' := by
  by_cases ho : op < 24
  · obtain ⟨_, h1⟩ := hO.cells op ho
    go_enter Tryz.func72, Tryz.ntmps72
    go_wp2_with fail
    go_ret
    exact ⟨rfl, rfl⟩
  · rw [level_big (by omega)]
    go_enter Tryz.func72, Tryz.ntmps72
    go_wp2_with fail
    go_ret
    exact ⟨rfl, rfl⟩
theorem symbol_any (op : Nat) (w : World) (hO : OpsIs w) (h : op ≤ 255) :
    Calls Tryz.prog 31 #[.int .u8 (op : Int)] w fun e w' => e = .returned (.string ⟨(PP.symbol op).toArray⟩) ∧ w = w' := by
  by_cases ho : op < 24
  · obtain ⟨h1, _⟩ := hO.cells op ho
    go_enter Tryz.func31, Tryz.ntmps31
    go_wp2_with fail
    go_ret
    exact ⟨rfl, rfl⟩
  · rw [symbol_big (by omega)]
    go_enter Tryz.func31, Tryz.ntmps31
    go_wp2_with fail
    go_ret
    exact ⟨rfl, rfl⟩

/-- The map from symbols to binary operators, after k of them. -/
def opsD : Nat → DataW Unit
  | 0 => .map []
  | k + 1 => (opsD k).put (.string (PP.symbol (k + 6))) (.lit (.int .u8 ((k + 6 : Nat) : Int)))
theorem opsD_none (T : List UInt8) : ∀ k, (∀ i, i < k → PP.symbol (i + 6) ≠ T) → Maps.has (opsD k) (.string T) = false
  | 0, _ => rfl
  | k + 1, h => by
    have hne : (Lit.string T) ≠ Lit.string (PP.symbol (k + 6)) := by intro e; injection e with e; exact h k (by omega) e.symm
    rw [opsD, Maps.has_put_other hne]
    exact opsD_none T k (fun i hi => h i (by omega))
theorem opsD_none2 (T : List UInt8) (z : DataW Unit) : ∀ k, (∀ i, i < k → PP.symbol (i + 6) ≠ T) → (opsD k).atKey (.string T) z = z
  | 0, _ => rfl
  | k + 1, h => by
    have hne : (Lit.string T) ≠ Lit.string (PP.symbol (k + 6)) := by intro e; injection e with e; exact h k (by omega) e.symm
    rw [opsD, Maps.atKey_put_other hne]
    exact opsD_none2 T z k (fun i hi => h i (by omega))
theorem opOf_none {T : List UInt8} (h : PP.opOf T = none) : ∀ i, i < 18 → PP.symbol (i + 6) ≠ T := by
  intro i hi e
  unfold PP.opOf at h
  rw [List.findSome?_eq_none_iff] at h
  have := h i (by simpa using hi)
  simp [e] at this
theorem opOf_some {T : List UInt8} {op : Nat} (h : PP.opOf T = some op) : 6 ≤ op ∧ op < 24 ∧ PP.symbol op = T := by
  unfold PP.opOf at h
  obtain ⟨i, hi, h2⟩ := List.exists_of_findSome?_eq_some h
  simp only [List.mem_range] at hi
  split at h2
  · rename_i h3
    injection h2 with h2
    subst h2
    exact ⟨by omega, by omega, by simpa using h3⟩
  · cases h2
theorem opsD_symbol : ∀ op, 6 ≤ op → op < 24 → Maps.has (opsD 18) (.string (PP.symbol op)) = true ∧ (opsD 18).atKey (.string (PP.symbol op)) (.lit (.int .u8 0)) = .lit (.int .u8 (op : Int)) := by
  intro op h1 h2
  match op, h1, h2 with
  | 6, _, _ => exact ⟨rfl, rfl⟩
  | 7, _, _ => exact ⟨rfl, rfl⟩
  | 8, _, _ => exact ⟨rfl, rfl⟩
  | 9, _, _ => exact ⟨rfl, rfl⟩
  | 10, _, _ => exact ⟨rfl, rfl⟩
  | 11, _, _ => exact ⟨rfl, rfl⟩
  | 12, _, _ => exact ⟨rfl, rfl⟩
  | 13, _, _ => exact ⟨rfl, rfl⟩
  | 14, _, _ => exact ⟨rfl, rfl⟩
  | 15, _, _ => exact ⟨rfl, rfl⟩
  | 16, _, _ => exact ⟨rfl, rfl⟩
  | 17, _, _ => exact ⟨rfl, rfl⟩
  | 18, _, _ => exact ⟨rfl, rfl⟩
  | 19, _, _ => exact ⟨rfl, rfl⟩
  | 20, _, _ => exact ⟨rfl, rfl⟩
  | 21, _, _ => exact ⟨rfl, rfl⟩
  | 22, _, _ => exact ⟨rfl, rfl⟩
  | 23, _, _ => exact ⟨rfl, rfl⟩
  | op + 24, _, h => omega
/-- The parser's map lies at block m. -/
def MapAt (w : World) (m : Nat) : Prop := w.ownsMap Tryz.prog 9 (plainElem Tryz.prog 5) m 18 (opsD 18)
theorem zeroByte (w : World) : (zeroValue 5).run Tryz.prog w = .ok (.int .u8 0) w := by kernel_rfl
/-- A look-up: the operator, or none. -/
theorem MapAt.look {w : World} {m : Nat} (h : MapAt w m) (T : List UInt8) (hT : T.length ≤ 65536) :
    (Instr.lookup 52 (.map (some m)) (.string ⟨T.toArray⟩) true).run Tryz.prog w = .ok (.tuple #[.int .u8 (((PP.opOf T).getD 0 : Nat) : Int), .bool (PP.opOf T).isSome]) w := by
  have hkey : keyOf Tryz.prog 9 (.string ⟨T.toArray⟩) = some (.string T) := keyOf_string_mk Tryz.underlying9 (by show T.toArray.size ≤ _; rw [List.size_toArray]; unfold maxLen; omega)
  obtain ⟨v, ps, hrun, hv⟩ := World.ownsMap.look_ok h (Maps.string_keyed Tryz.underlying9) Tryz.underlying52 (zeroByte w) (plainElem_int Tryz.underlying5 (by decide)) hkey
  obtain ⟨c, rfl, hc, hwc⟩ := plainElem_int_inv Tryz.underlying5 hv
  have hcc : (opsD 18).atKey (.string T) (.lit (.int .u8 0)) = .lit (.int .u8 c) := congrArg Prod.fst hc
  have inj : ∀ x y : Int, (DataW.lit (.int .u8 x) : DataW Unit) = .lit (.int .u8 y) → x = y := by intro x y h; cases h; rfl
  rw [hrun]
  cases ho : PP.opOf T with
  | none =>
    rw [opsD_none2 T _ 18 (opOf_none ho)] at hcc
    rw [opsD_none T 18 (opOf_none ho), ← inj _ _ hcc]; rfl
  | some op =>
    obtain ⟨h1, h2, rfl⟩ := opOf_some ho
    rw [(opsD_symbol op h1 h2).2] at hcc
    rw [(opsD_symbol op h1 h2).1, ← inj _ _ hcc]; rfl
end Go.Proofs.YtglaecalbamnkaaGreatDoor
/- The contracts of the parser's place and primary, from that of its expression. -/
namespace Go.Proofs.YtglaecalbamnkaaGreatDoor
open Go.RowKit Go.Maps
open PP (Tree)

/-- All that the parser reads beside its own block: the tables and its map. -/
structure Gx (w : World) (b : Nat) (X : Loc) : Prop where
  gl : Gl w b
  ops : OpsIs w
  one : 0 ≠ b
  map : MapAt w X.m
  mne : X.m ≠ b
theorem Gx.fr {w w' : World} {b : Nat} {X : Loc} (h : Gx w b X) (k : Fr b w w') : Gx w' b X := by
  obtain ⟨t, fr, hb⟩ := h.ops
  have hlt : 0 < w.heap.size := (Array.getElem?_eq_some_iff.1 hb).1
  exact ⟨h.gl.fr k, ⟨t, fr, (k.block _ hlt (by simpa using h.one)).trans hb⟩, h.one, World.ownsMap.kept h.map k (by simpa using h.mne), h.mne⟩
/-- A block that is known whole. -/
def Blk (w : World) (g : Nat) (t : TypeId) (cs : Array Value) : Prop := w.heap[g]? = some (.cells cs t (0, 0))
section
variable {w w' : World} {b g : Nat} {t : TypeId} {cs : Array Value}
theorem Blk.lt (h : Blk w g t cs) : g < w.heap.size := (Array.getElem?_eq_some_iff.1 h).1
theorem Blk.cell (h : Blk w g t cs) (i : Nat) : w.cell? ⟨g, i, none⟩ = cs[i]? := cell_of_row w g i cs t (0, 0) h
theorem Blk.frozen (h : Blk w g t cs) (i : Nat) : w.frozen? ⟨g, i, none⟩ = false := frozen_of_row w g i cs t h
theorem Blk.new (w : World) (t : TypeId) (cs : Array Value) : Blk (w.alloc (.cells cs t)) w.heap.size t cs := heap_alloc_new w _
theorem Blk.fr (h : Blk w g t cs) (k : Fr b w w') (hg : g ≠ b) : Blk w' g t cs := (k.block g h.lt (by simpa using hg)).trans h
theorem Blk.alloc (h : Blk w g t cs) (o : Obj) : Blk (w.alloc o) g t cs := (Below.heap_alloc w o g h.lt).trans h
theorem Blk.drewN (h : Blk w g t cs) (n : Nat) : Blk (w.drewN n) g t cs := h
theorem Blk.set_ (h : Blk w g t cs) (i : Nat) (u : Value) : Blk (w.setCell ⟨g, i, none⟩ u) g t (cs.setIfInBounds i u) := heap_setCell_same w g i cs t u h
theorem Blk.far (h : Blk w g t cs) {p : Addr} (hp : g ≠ p.block) (u : Value) : Blk (w.setCell p u) g t cs := (Below.heap_setCell w p u g hp).trans h
theorem Blk.four {a0 a1 a2 a3 : Value} (h : Blk w g t #[a0, a1, a2, a3]) : (w.cell? ⟨g, 0, none⟩ = some a0 ∧ w.cell? ⟨g, 1, none⟩ = some a1 ∧ w.cell? ⟨g, 2, none⟩ = some a2 ∧ w.cell? ⟨g, 3, none⟩ = some a3) ∧
    (w.frozen? ⟨g, 0, none⟩ = false ∧ w.frozen? ⟨g, 1, none⟩ = false ∧ w.frozen? ⟨g, 2, none⟩ = false ∧ w.frozen? ⟨g, 3, none⟩ = false) :=
  ⟨⟨h.cell 0, h.cell 1, h.cell 2, h.cell 3⟩, h.frozen 0, h.frozen 1, h.frozen 2, h.frozen 3⟩
end

theorem Fr.far {b : Nat} {w w' : World} (h : Fr b w w') {p : Addr} (hp : w.heap.size ≤ p.block) (v : Value) : Fr b w (w'.setCell p v) :=
  ⟨h.os, h.tape, h.output, by simpa [World.setCell] using h.size, fun i hi hn => (Below.heap_setCell w' p v i (by omega)).trans (h.block i hi hn)⟩
/-- A store into a block that the call itself made. -/
theorem PS.far {w w' : World} {b : Nat} {X : Loc} {E : PP.Env} {σ σ' : PP.St} (h : PS w b X E σ) (k : Fr b w w') (h' : PS w' b X E σ') {p : Addr} (hp : w.heap.size ≤ p.block) (v : Value) : PS (w'.setCell p v) b X E σ' :=
  h.fr (k.far hp v) ((Below.heap_setCell w' p v b (by have := h.lt; omega)).trans h'.blk) h'.next
theorem Blk.st4 {w' : World} {g : Nat} {t : TypeId} {a0 a1 a2 a3 : Value} (h : Blk w' g t #[a0, a1, a2, a3]) (v0 v1 v2 v3 : Value) : Blk ((((w'.setCell ⟨g, 0, none⟩ v0).setCell ⟨g, 1, none⟩ v1).setCell ⟨g, 2, none⟩ v2).setCell ⟨g, 3, none⟩ v3) g t #[v0, v1, v2, v3] := (((h.set_ 0 v0).set_ 1 v1).set_ 2 v2).set_ 3 v3
theorem Fr.st4 {b g : Nat} {w w' : World} (h : Fr b w w') (hp : w.heap.size ≤ g) (v0 v1 v2 v3 : Value) : Fr b w ((((w'.setCell ⟨g, 0, none⟩ v0).setCell ⟨g, 1, none⟩ v1).setCell ⟨g, 2, none⟩ v2).setCell ⟨g, 3, none⟩ v3) := (((h.far hp v0).far hp v1).far hp v2).far hp v3
theorem PS.st4 {w w' : World} {b g : Nat} {X : Loc} {E : PP.Env} {σ σ' : PP.St} (h : PS w b X E σ) (k : Fr b w w') (h' : PS w' b X E σ') (hp : w.heap.size ≤ g) (v0 v1 v2 v3 : Value) : PS ((((w'.setCell ⟨g, 0, none⟩ v0).setCell ⟨g, 1, none⟩ v1).setCell ⟨g, 2, none⟩ v2).setCell ⟨g, 3, none⟩ v3) b X E σ' :=
  h.far (((k.far hp v0).far hp v1).far hp v2) (h.far ((k.far hp v0).far hp v1) (h.far (k.far hp v0) (h.far k h' hp v0) hp v1) hp v2) hp v3
theorem Keep.st4 {Z : Nat → Prop} {w w' : World} {g : Nat} (h : Keep Z w w') (hp : ¬ Z g) (v0 v1 v2 v3 : Value) : Keep Z w ((((w'.setCell ⟨g, 0, none⟩ v0).setCell ⟨g, 1, none⟩ v1).setCell ⟨g, 2, none⟩ v2).setCell ⟨g, 3, none⟩ v3) := (((h.set (p := ⟨g, 0, none⟩) hp v0).set (p := ⟨g, 1, none⟩) hp v1).set (p := ⟨g, 2, none⟩) hp v2).set (p := ⟨g, 3, none⟩) hp v3
/-- The result of a call that hands a node back lies in a block of its own. -/
theorem node_result {fn : Func} {p : Tmp} (h : fn.results = #[.cell p 36]) {tmps : Array Value} {w : World} {g : Nat} {a0 a1 a2 a3 : Value} (hp : tmps.getD p undef = .pointer (some ⟨g, 0, none⟩)) (hb : Blk w g 36 #[a0, a1, a2, a3]) :
    (results fn tmps).run Tryz.prog w = .ok (.agg #[a0, a1, a2, a3]) w :=
  results_cell_row h tmps w g 36 _ (0, 0) _ hp hb Tryz.underlying36 rfl (by kernel_rfl)
/-- What a call that reads a tree leaves. -/
def TreeEnd (b : Nat) (X : Loc) (E : PP.Env) (σ : PP.St) (w : World) (R : PP.St → Tree → Prop) (r : Ending) (w' : World) : Prop :=
  ∃ v t σ', r = .returned v ∧ NodeV w' (w.heap.size ≤ ·) v t ∧ PS w' b X E σ' ∧ Fr b w w' ∧ R σ' t ∧ σ.next ≤ σ'.next
theorem next_reject (E : PP.Env) (σ : PP.St) : (PP.reject E σ).next = σ.next := by unfold PP.reject PP.fail; repeat' split
                                                                                   all_goals rfl
theorem next_nameP (E : PP.Env) (σ : PP.St) : σ.next ≤ (PP.nameP E σ).1.next := by
  unfold PP.nameP; split
  · simp [PP.adv]
  · rw [next_reject]; exact Nat.le_refl _
theorem next_require (E : PP.Env) (σ : PP.St) (t : List UInt8) : σ.next ≤ (PP.require E σ t).next := by
  unfold PP.require; split
  · simp [PP.adv]
  · rw [next_reject]; exact Nat.le_refl _

section
set_option maxHeartbeats 800000
set_option maxRecDepth 100000
variable {b : Nat} {X : Loc} {E : PP.Env} {σ : PP.St}
theorem place_any (w : World) (hg : Gx w b X) (h : PS w b X E σ)
    (IH : ∀ σ' w', Gx w' b X → PS w' b X E σ' → σ.next < σ'.next → Calls Tryz.prog 26 #[.pointer (some ⟨b, 0, none⟩)] w' (TreeEnd b X E σ' w' fun σ'' t => ∃ n, PP.binary E n 0 σ' = some (σ'', t))) :
    Calls Tryz.prog 88 #[.pointer (some ⟨b, 0, none⟩)] w (TreeEnd b X E σ w fun σ' t => ∃ n, PP.place E n σ = some (σ', t)) := by
  have hbl := h.lt
  have HI := Lib.hid IH
  clear IH
  have hz : Blk (w.alloc (.cells #[.int .u8 0, .int .i64 0, .string ⟨#[]⟩, .slice none 0 0] 36)) w.heap.size 36 #[.int .u8 0, .int .i64 0, .string ⟨#[]⟩, .slice none 0 0] := Blk.new _ _ _
  have h0 := h.alloc (.cells #[.int .u8 0, .int .i64 0, .string ⟨#[]⟩, .slice none 0 0] 36)
  have hf0 := (Fr.refl b w).alloc (.cells #[.int .u8 0, .int .i64 0, .string ⟨#[]⟩, .slice none 0 0] 36)
  have hg0 := hg.fr hf0
  have HN := Lib.hid (nameP_any _ hg0.gl h0)
  have hpl := next_nameP E σ
  generalize hnm : PP.nameP E σ = q at *
  obtain ⟨σ1, nm⟩ := q
  have HNM := Lib.hid hnm
  clear hnm
  simp only [] at HN hpl
  have HZ := Lib.hid hz
  have H0 := Lib.hid h
  have H00 := Lib.hid hg
  have HF0 := Lib.hid hf0
  have HG0 := Lib.hid hg0
  clear hz h0 hf0 hg0 h hg
  go_enter Tryz.func88, Tryz.ntmps88
  go_wp2_with fail
  refine HN.out.mono ?_
  rintro e w1 ⟨rfl, h1, hf1⟩
  have hz1 := HZ.out.fr hf1 (by omega)
  have hF1 := HF0.out.trans hf1
  have hg1 := HG0.out.fr hf1
  go_wp2_with fail
  generalize hW2 : w1.alloc (.cells #[.int .u8 2, .int .i64 0, .string ⟨nm.toArray⟩, .slice none 0 0] 36) = w2
  have h2 : PS w2 b X E σ1 := by rw [← hW2]; exact h1.alloc _
  have hF2 : Fr b w w2 := by rw [← hW2]; exact hF1.alloc _
  have hg2 : Gx w2 b X := by rw [← hW2]; exact hg1.fr ((Fr.refl b w1).alloc _)
  have hzR : Blk w2 w.heap.size 36 #[.int .u8 0, .int .i64 0, .string ⟨#[]⟩, .slice none 0 0] := by rw [← hW2]; exact hz1.alloc _
  have hzN : Blk w2 w1.heap.size 36 #[.int .u8 2, .int .i64 0, .string ⟨nm.toArray⟩, .slice none 0 0] := by rw [← hW2]; exact Blk.new _ _ _
  have hRN : w.heap.size < w1.heap.size := hz1.lt
  clear hW2 HN HZ HF0 HG0 h1 hz1 hF1 hg1 hf1
  generalize w1.heap.size = N at *
  have hs := sees_any ⟨#[91]⟩ w2 h2
  rw [show (⟨#[91]⟩ : ByteArray).data.toList = [91] from rfl] at hs
  cases hse : PP.sees E σ1 [91] with
  | false =>
    rw [hse] at hs
    have hfin : PP.place E 1 σ = some (σ1, .node 2 0 nm []) := by rw [PP.place, HNM.out]; simp only [hse]; rfl
    have HS := Lib.hid hs
    have HFIN := Lib.hid hfin
    clear hs hse hfin
    refine HS.out.mono ?_
    rintro e w3 ⟨rfl, n3, rfl⟩
    obtain ⟨⟨r0, r1, r2, r3⟩, q0, q1, q2, q3⟩ := hzR.four
    obtain ⟨⟨s0, s1, s2, s3⟩, _, _, _, _⟩ := hzN.four
    have hp3 := h2.drewN n3
    have hf3 := hF2.drewN n3
    have Q := Lib.hid (fun v0 v1 v2 v3 => H0.out.st4 hf3 hp3 (Nat.le_refl _) v0 v1 v2 v3)
    have QF := Lib.hid (fun v0 v1 v2 v3 => hf3.st4 (Nat.le_refl _) v0 v1 v2 v3)
    have QB := Lib.hid (fun v0 v1 v2 v3 => (hzR.drewN n3).st4 v0 v1 v2 v3)
    clear h2 hF2 hg2 hzR hzN HI hp3 hf3
    go_wp2_with fail
    refine bodyPost_ret (node_result rfl rfl (QB.out _ _ _ _)) rfl ?_
    exact ⟨_, _, σ1, rfl, NodeV.leaf _ _ 2 0 nm, Q.out _ _ _ _, QF.out _ _ _ _, ⟨1, HFIN.out⟩, hpl⟩
  | true =>
    rw [hse] at hs
    have hn1 : σ1.next < E.ts.length := by
      unfold PP.sees at hse
      rcases PP.more_cases E σ1 with ⟨_, _, h3⟩ | ⟨h1, _⟩ | ⟨h1, _, _⟩
      · exact h3
      · rw [h1] at hse; cases hse
      · rw [h1] at hse; cases hse
    have hlen := h2.len
    have hfin : ∀ n r, PP.binary E n 0 (PP.adv σ1) = some r → PP.place E (n + 1) σ = some (PP.require E r.1 [93], .node 3 0 nm [r.2]) := by
      intro n r hr
      rw [PP.place, HNM.out]; simp only [hse, hr]; rfl
    have HS := Lib.hid hs
    have HFIN := Lib.hid hfin
    clear hs hse hfin
    refine HS.out.mono ?_
    rintro e w3 ⟨rfl, n3, rfl⟩
    have h3 := (h2.drewN n3).setNext (σ1.next + 1) (by omega)
    have hF3 := (hF2.drewN n3).set 1 (.int .i64 ((σ1.next : Int) + 1))
    have hzN3 := ((hzN.drewN n3).far (p := ⟨b, 1, none⟩) (by show N ≠ b; omega) (.int .i64 ((σ1.next : Int) + 1))).set_ 0 (.int .u8 3)
    have hzR3 := ((hzR.drewN n3).far (p := ⟨b, 1, none⟩) (by show w.heap.size ≠ b; omega) (.int .i64 ((σ1.next : Int) + 1))).far (p := ⟨N, 0, none⟩) (by show w.heap.size ≠ N; omega) (.int .u8 3)
    have h4 := H0.out.far hF3 h3 (p := ⟨N, 0, none⟩) (by show w.heap.size ≤ N; omega) (.int .u8 3)
    have hF4 := hF3.far (p := ⟨N, 0, none⟩) (by show w.heap.size ≤ N; omega) (.int .u8 3)
    obtain ⟨_, c1, _, _, _, _⟩ := h2.cells
    have f1 := h2.frozen 1
    obtain ⟨⟨s0, s1, s2, s3⟩, p0, p1, p2, p3⟩ := hzN.four
    have hg4 := H00.out.fr hF4
    have HH4 := Lib.hid h4
    have HHF4 := Lib.hid hF4
    have HG4 := Lib.hid hg4
    have HZN := Lib.hid hzN3
    have HZR := Lib.hid hzR3
    have hNb : N ≠ b := by omega
    have hbN : b ≠ N := by omega
    clear h2 hF2 hg2 hzR hzN h3 hF3 hzN3 hzR3 h4 hF4 hg4
    go_wp2_with fail
    refine (HI.out _ _ HG4.out HH4.out (by show σ.next < σ1.next + 1; omega)).mono ?_
    rintro e w5 ⟨v5, t5, σ5, rfl, hN5, h5, hf5, ⟨n5, hr5⟩, hn5⟩
    obtain ⟨k5, num5, nm5, A5, c5, kids5, rfl, rfl, hk5⟩ := hN5
    have hF5 := HHF4.out.trans hf5
    have hzN5 := HZN.out.fr hf5 (by omega)
    have hzR5 := HZR.out.fr hf5 (by omega)
    have hsz5 : N < w5.heap.size := hzN5.lt
    have HR5 := Lib.hid hr5
    have hk5' : KidsC w5 (fun g => w.heap.size ≤ g ∧ g ≠ w.heap.size ∧ g ≠ N) A5 kids5 := hk5.weak (fun g hg _ => by
      have h1 : (((w2.drewN n3).setCell ⟨b, 1, none⟩ (.int .i64 ((σ1.next : Int) + 1))).setCell ⟨N, 0, none⟩ (.int .u8 3)).heap.size ≤ g := hg
      have h2 : N < (((w2.drewN n3).setCell ⟨b, 1, none⟩ (.int .i64 ((σ1.next : Int) + 1))).setCell ⟨N, 0, none⟩ (.int .u8 3)).heap.size := HZN.out.lt
      omega)
    have hkA := kids_one (Z := fun g => w.heap.size ≤ g ∧ g ≠ w.heap.size ∧ g ≠ N) (k := k5) (num := num5) (nm := nm5) (c := c5) ⟨by omega, by omega, by omega⟩ hk5' 36
    have HKA := Lib.hid hkA
    have h6 := h5.alloc (.cells #[.int .u8 (k5 : Int), .int .i64 num5, .string ⟨nm5.toArray⟩, .slice A5 kids5.length c5] 36)
    have hF6 := hF5.alloc (.cells #[.int .u8 (k5 : Int), .int .i64 num5, .string ⟨nm5.toArray⟩, .slice A5 kids5.length c5] 36)
    have hzN6 := hzN5.alloc (.cells #[.int .u8 (k5 : Int), .int .i64 num5, .string ⟨nm5.toArray⟩, .slice A5 kids5.length c5] 36)
    have hzR6 := hzR5.alloc (.cells #[.int .u8 (k5 : Int), .int .i64 num5, .string ⟨nm5.toArray⟩, .slice A5 kids5.length c5] 36)
    have x3 : w5.cell? ⟨N, 3, none⟩ = some (.slice none 0 0) := hzN5.cell 3
    have y3 : w5.frozen? ⟨N, 3, none⟩ = false := hzN5.frozen 3
    clear hk5 hk5' hkA hr5 HH4 HHF4 HG4 HZN HZR hzN5 hzR5 s0 s1 s2 s3 p0 p1 p2 p3 c1 f1
    go_wp2_with fail
    have h7 := H0.out.far hF6 h6 (p := ⟨N, 3, none⟩) (by show w.heap.size ≤ N; omega) (.slice (some ⟨w5.heap.size, 0, none⟩) 1 1)
    have hF7 := hF6.far (p := ⟨N, 3, none⟩) (by show w.heap.size ≤ N; omega) (.slice (some ⟨w5.heap.size, 0, none⟩) 1 1)
    have hzN7 := hzN6.set_ 3 (.slice (some ⟨w5.heap.size, 0, none⟩) 1 1)
    have hzR7 := hzR6.far (p := ⟨N, 3, none⟩) (by show w.heap.size ≠ N; omega) (.slice (some ⟨w5.heap.size, 0, none⟩) 1 1)
    have hk7 := HKA.out.keep ((Keep.refl _ _).set (p := ⟨N, 3, none⟩) (by intro h; exact h.2.2 rfl) (.slice (some ⟨w5.heap.size, 0, none⟩) 1 1))
    have hcomm := World.setCell_alloc_past (w := w5) (.cells #[.int .u8 (k5 : Int), .int .i64 num5, .string ⟨nm5.toArray⟩, .slice A5 kids5.length c5] 36) N 3 (.slice (some ⟨w5.heap.size, 0, none⟩) 1 1) hsz5
    rw [hcomm] at h7 hF7 hzN7 hzR7 hk7
    clear hcomm
    refine (require_any ⟨#[93]⟩ _ h7).mono ?_
    rintro e w8 ⟨rfl, h8, hf8⟩
    have hF8 := hF7.trans hf8
    have hzN8 := hzN7.fr hf8 (by omega)
    have hzR8 := hzR7.fr hf8 (by omega)
    have hk8 := hk7.keep ((Keep.refl _ _).fr hf8 (by intro h; omega))
    obtain ⟨⟨r0, r1, r2, r3⟩, q0, q1, q2, q3⟩ := hzR8.four
    have hzN8' : Blk w8 N 36 #[.int .u8 3, .int .i64 0, .string ⟨nm.toArray⟩, .slice (some ⟨w5.heap.size, 0, none⟩) 1 1] := hzN8
    obtain ⟨⟨s0, s1, s2, s3⟩, _, _, _, _⟩ := hzN8'.four
    have Q := Lib.hid (fun v0 v1 v2 v3 => H0.out.st4 hF8 h8 (Nat.le_refl _) v0 v1 v2 v3)
    have QF := Lib.hid (fun v0 v1 v2 v3 => hF8.st4 (Nat.le_refl _) v0 v1 v2 v3)
    have QB := Lib.hid (fun v0 v1 v2 v3 => hzR8.st4 v0 v1 v2 v3)
    have QK := Lib.hid (fun v0 v1 v2 v3 => (hk8.keep ((Keep.refl _ _).st4 (g := w.heap.size) (by intro h; exact h.2.1 rfl) v0 v1 v2 v3)).weak (Z' := (w.heap.size ≤ ·)) (fun g hg _ => hg.1))
    have hpl2 := Nat.le_trans hn5 (next_require E σ5 [93])
    have hpl3 : σ.next ≤ (PP.require E σ5 [93]).next := by
      have h9 : σ1.next + 1 ≤ (PP.require E σ5 [93]).next := hpl2
      omega
    clear h7 hF7 hzN7 hzR7 hk7 h8 hf8 hF8 hzN8 hzR8 hk8 hzN8' HKA h6 hF6 hzN6 hzR6 x3 y3 h5 hf5 hF5 hpl2
    go_wp2_with fail
    refine bodyPost_ret (node_result rfl rfl (QB.out _ _ _ _)) rfl ?_
    exact ⟨_, _, _, rfl, ⟨3, 0, nm, _, 1, [.node k5 num5 nm5 kids5], rfl, rfl, QK.out _ _ _ _⟩, Q.out _ _ _ _, QF.out _ _ _ _, ⟨n5 + 1, HFIN.out n5 _ HR5.out⟩, hpl3⟩
end
end Go.Proofs.YtglaecalbamnkaaGreatDoor
/- The contracts of the parser's primary and unary, from those of its expression. -/
namespace Go.Proofs.YtglaecalbamnkaaGreatDoor
open Go.RowKit Go.Maps
open PP (Tree)

section
set_option maxHeartbeats 800000
set_option maxRecDepth 100000
variable {b : Nat} {X : Loc} {E : PP.Env} {σ : PP.St}
theorem next_of_sees {E : PP.Env} {σ : PP.St} {t : List UInt8} (hs : PP.sees E σ t = true) : σ.next < E.ts.length := by
  unfold PP.sees at hs
  rcases PP.more_cases E σ with ⟨_, _, h3⟩ | ⟨h1, _⟩ | ⟨h1, _, _⟩
  · exact h3
  · rw [h1] at hs; cases hs
  · rw [h1] at hs; cases hs
/-- A quiet contract behind draws, in a region that has drawn. -/
theorem quiet_at {P : Program} {f : FuncId} {args : Array Value} {w : World} {v : Value} (k : Nat) {n : Nat}
    (h : Calls P f args (w.drewN (k + n)) fun e w' => e = .returned v ∧ ∃ m, w' = (w.drewN (k + n)).drewN m) : Calls P f args (w.drewN (k + n)) fun e w'' => e = .returned v ∧ ∃ m, w'' = w.drewN (k + m) :=
  h.mono fun _ _ ⟨he, m, hm⟩ => ⟨he, n + m, by rw [hm, World.drewN_drewN, Nat.add_assoc]⟩
theorem next_fail (σ : PP.St) (o e : Nat) : (PP.fail σ o e).next = σ.next := by unfold PP.fail; split <;> rfl
theorem next_numP (E : PP.Env) (σ : PP.St) (l h : Int) : σ.next ≤ (PP.numP E σ l h).1.next := by
  unfold PP.numP; split
  · simp only []; split
    · rw [next_fail]; exact Nat.le_refl _
    · simp [PP.adv]
  · rw [next_reject]; exact Nat.le_refl _
/-- The state's bound on numbers that are read. -/
theorem primary_any (w : World) (hg : Gx w b X) (h : PS w b X E σ)
    (IH : ∀ σ' w', Gx w' b X → PS w' b X E σ' → σ.next < σ'.next → Calls Tryz.prog 26 #[.pointer (some ⟨b, 0, none⟩)] w' (TreeEnd b X E σ' w' fun σ'' t => ∃ n, PP.binary E n 0 σ' = some (σ'', t))) :
    Calls Tryz.prog 98 #[.pointer (some ⟨b, 0, none⟩)] w (TreeEnd b X E σ w fun σ' t => ∃ n, PP.primary E n σ = some (σ', t)) := by
  have hbl := h.lt
  have hlen := h.len
  have HI := Lib.hid IH
  have HPL := Lib.hid (fun w' (hg' : Gx w' b X) (h' : PS w' b X E σ) => place_any w' hg' h' IH)
  clear IH
  obtain ⟨Z0, hZ0⟩ : ∃ o : Obj, o = .cells #[.int .u8 0, .int .i64 0, .string ⟨#[]⟩, .slice none 0 0] 36 := ⟨_, rfl⟩
  have hz : Blk (w.alloc Z0) w.heap.size 36 #[.int .u8 0, .int .i64 0, .string ⟨#[]⟩, .slice none 0 0] := by rw [hZ0]; exact Blk.new _ _ _
  have h0 := h.alloc Z0
  have hf0 := (Fr.refl b w).alloc Z0
  have hg0 := hg.fr hf0
  have hs := sees_any ⟨#[40]⟩ _ h0
  rw [show (⟨#[40]⟩ : ByteArray).data.toList = [40] from rfl] at hs
  have hmo := fun n => more_any _ (h0.drewN n)
  subst hZ0
  generalize hW : w.alloc (.cells #[.int .u8 0, .int .i64 0, .string ⟨#[]⟩, .slice none 0 0] 36) = w0 at *
  have HW := Lib.hid hW
  have H0 := Lib.hid h
  clear hW h hg
  cases hse : PP.sees E σ [40] with
  | true =>
    rw [hse] at hs
    have hn1 := next_of_sees hse
    have hfin : ∀ n r, PP.binary E n 0 (PP.adv σ) = some r → PP.primary E (n + 1) σ = some (PP.require E r.1 [41], r.2) := by
      intro n r hr
      rw [PP.primary]; simp only [hse, hr]; rfl
    have HS := Lib.hid hs
    have HFIN := Lib.hid hfin
    obtain ⟨_, c1, _, _, _, _⟩ := h0.cells
    have f1 := h0.frozen 1
    clear hs hse hfin hmo HPL
    go_enter Tryz.func98, Tryz.ntmps98
    go_wp2_with fail
    rw [HW.out]
    refine HS.out.mono ?_
    rintro e w1 ⟨rfl, n1, rfl⟩
    have h2 := (h0.drewN n1).setNext (σ.next + 1) (by omega)
    have hF2 := (hf0.drewN n1).set 1 (.int .i64 ((σ.next : Int) + 1))
    have hz2 := (hz.drewN n1).far (p := ⟨b, 1, none⟩) (by show w.heap.size ≠ b; omega) (.int .i64 ((σ.next : Int) + 1))
    have hg2 := hg0.fr ((Fr.refl b w0).drewN n1 |>.set 1 (.int .i64 ((σ.next : Int) + 1)))
    have HH2 := Lib.hid h2
    have HF2 := Lib.hid hF2
    have HZ2 := Lib.hid hz2
    have HG2 := Lib.hid hg2
    clear h2 hF2 hz2 hg2 h0 hf0 hz hg0
    go_wp2_with fail
    refine (HI.out _ _ HG2.out HH2.out (by show σ.next < σ.next + 1; omega)).mono ?_
    rintro e w5 ⟨v5, t5, σ5, rfl, hN5, h5, hf5, ⟨n5, hr5⟩, hn5⟩
    obtain ⟨k5, num5, nm5, A5, c5, kids5, rfl, rfl, hk5⟩ := hN5
    have hF5 := HF2.out.trans hf5
    have hz5 := HZ2.out.fr hf5 (by omega)
    have hs5 := hz5.lt
    have HR5 := Lib.hid hr5
    have hk5' : KidsC w5 (fun g => w.heap.size ≤ g ∧ g ≠ w.heap.size ∧ g ≠ w5.heap.size) A5 kids5 := hk5.weak (fun g hg hlt => by
      have h1 : ((w0.drewN n1).setCell ⟨b, 1, none⟩ (.int .i64 ((σ.next : Int) + 1))).heap.size ≤ g := hg
      have h2 := HZ2.out.lt
      omega)
    have h6 := h5.alloc (.cells #[.int .u8 (k5 : Int), .int .i64 num5, .string ⟨nm5.toArray⟩, .slice A5 kids5.length c5] 36)
    have hF6 := hF5.alloc (.cells #[.int .u8 (k5 : Int), .int .i64 num5, .string ⟨nm5.toArray⟩, .slice A5 kids5.length c5] 36)
    have hz6 := hz5.alloc (.cells #[.int .u8 (k5 : Int), .int .i64 num5, .string ⟨nm5.toArray⟩, .slice A5 kids5.length c5] 36)
    have hzN6 := Blk.new w5 36 #[.int .u8 (k5 : Int), .int .i64 num5, .string ⟨nm5.toArray⟩, .slice A5 kids5.length c5]
    have hk6 := hk5'.keep ((Keep.refl _ _).alloc (.cells #[.int .u8 (k5 : Int), .int .i64 num5, .string ⟨nm5.toArray⟩, .slice A5 kids5.length c5] 36))
    clear hk5 hk5' hr5 HH2 HF2 HG2 HZ2 hz5 c1 f1 h5 hf5 hF5
    go_wp2_with fail
    refine (require_any ⟨#[41]⟩ _ h6).mono ?_
    rintro e w8 ⟨rfl, h8, hf8⟩
    have hF8 := hF6.trans hf8
    have hzN8 := hzN6.fr hf8 (by omega)
    have hzR8 := hz6.fr hf8 (by omega)
    have hk8 := hk6.keep ((Keep.refl _ _).fr hf8 (by intro h; omega))
    obtain ⟨⟨r0, r1, r2, r3⟩, q0, q1, q2, q3⟩ := hzR8.four
    obtain ⟨⟨s0, s1, s2, s3⟩, _, _, _, _⟩ := hzN8.four
    have Q := Lib.hid (fun v0 v1 v2 v3 => H0.out.st4 hF8 h8 (Nat.le_refl _) v0 v1 v2 v3)
    have QF := Lib.hid (fun v0 v1 v2 v3 => hF8.st4 (Nat.le_refl _) v0 v1 v2 v3)
    have QB := Lib.hid (fun v0 v1 v2 v3 => hzR8.st4 v0 v1 v2 v3)
    have QK := Lib.hid (fun v0 v1 v2 v3 => (hk8.keep ((Keep.refl _ _).st4 (g := w.heap.size) (by intro h; exact h.2.1 rfl) v0 v1 v2 v3)).weak (Z' := (w.heap.size ≤ ·)) (fun g hg _ => hg.1))
    have hpl3 : σ.next ≤ (PP.require E σ5 [41]).next := by
      have h9 : σ.next + 1 ≤ (PP.require E σ5 [41]).next := Nat.le_trans hn5 (next_require E σ5 [41])
      omega
    clear h8 hf8 hF8 hzN8 hzR8 hk8 h6 hF6 hzN6 hz6 hk6
    go_wp2_with fail
    refine bodyPost_ret (node_result rfl rfl (QB.out _ _ _ _)) rfl ?_
    exact ⟨_, _, _, rfl, ⟨k5, num5, nm5, _, c5, kids5, rfl, rfl, QK.out _ _ _ _⟩, Q.out _ _ _ _, QF.out _ _ _ _, ⟨n5 + 1, HFIN.out n5 _ HR5.out⟩, hpl3⟩
  | false =>
    rw [hse] at hs
    have HS := Lib.hid hs
    clear hs
    have hplace : (PP.more E σ && decide ((PP.cur E σ).kind = 2)) = false → ∀ n r, PP.place E n σ = some r → PP.primary E (n + 1) σ = some r := by
      intro hc n r hr
      rw [PP.primary]; simp only [hse, hc, hr]; rfl
    have hnum : (PP.more E σ && decide ((PP.cur E σ).kind = 2)) = true → PP.primary E 1 σ = some ((PP.numP E σ 0 2147483647).1, .node 1 (PP.numP E σ 0 2147483647).2 [] []) := by
      intro hc
      rw [PP.primary]; simp only [hse, hc]; rfl
    have HPLACE := Lib.hid hplace
    have HNUM := Lib.hid hnum
    clear hplace hnum hse HI
    have tail : ∀ (n : Nat) (hc : (PP.more E σ && decide ((PP.cur E σ).kind = 2)) = false), Calls Tryz.prog 88 #[.pointer (some ⟨b, 0, none⟩)] (w0.drewN n) fun e w' =>
        ∃ k5 num5 nm5 A5 c5 kids5 σ5, e = .returned (.agg #[.int .u8 ((k5 : Nat) : Int), .int .i64 num5, .string ⟨(nm5 : List UInt8).toArray⟩, .slice A5 (kids5 : List Tree).length c5]) ∧
          Blk w' w.heap.size 36 #[.int .u8 0, .int .i64 0, .string ⟨#[]⟩, .slice none 0 0] ∧ (∀ v0 v1 v2 v3, TreeEnd b X E σ w (fun σ' t => ∃ n, PP.primary E n σ = some (σ', t)) (.returned (.agg #[.int .u8 ((k5 : Nat) : Int), .int .i64 num5, .string ⟨(nm5 : List UInt8).toArray⟩, .slice A5 (kids5 : List Tree).length c5])) ((((w'.setCell ⟨w.heap.size, 0, none⟩ v0).setCell ⟨w.heap.size, 1, none⟩ v1).setCell ⟨w.heap.size, 2, none⟩ v2).setCell ⟨w.heap.size, 3, none⟩ v3)) ∧ σ5 = σ := by
      intro n hc
      refine (HPL.out _ (hg0.fr ((Fr.refl b w0).drewN n)) (h0.drewN n)).mono ?_
      rintro e w5 ⟨v5, t5, σ5, rfl, hN5, h5, hf5, ⟨n5, hr5⟩, hn5⟩
      obtain ⟨k5, num5, nm5, A5, c5, kids5, rfl, rfl, hk5⟩ := hN5
      have hF5 := (hf0.drewN n).trans hf5
      have hz5 := (hz.drewN n).fr hf5 (by omega)
      have hk5' : KidsC w5 (fun g => w.heap.size ≤ g ∧ g ≠ w.heap.size) A5 kids5 := hk5.weak (fun g hg hlt => by
        have h1 : (w0.drewN n).heap.size ≤ g := hg
        have h2 := (hz.drewN n).lt
        omega)
      refine ⟨k5, num5, nm5, A5, c5, kids5, σ, rfl, hz5, fun v0 v1 v2 v3 => ⟨_, _, σ5, rfl, ⟨k5, num5, nm5, _, c5, kids5, rfl, rfl, (hk5'.keep ((Keep.refl _ _).st4 (g := w.heap.size) (by intro h; exact h.2 rfl) v0 v1 v2 v3)).weak (fun g hg _ => hg.1)⟩, H0.out.st4 hF5 h5 (Nat.le_refl _) v0 v1 v2 v3, hF5.st4 (Nat.le_refl _) v0 v1 v2 v3, ⟨n5 + 1, HPLACE.out hc n5 _ hr5⟩, hn5⟩, rfl⟩
    cases hm : PP.more E σ with
    | false =>
      rw [hm] at hmo
      have HM := Lib.hid hmo
      have HT := Lib.hid (fun n => tail n (by rw [hm]; rfl))
      clear hmo tail HPLACE HNUM HPL h0 hf0 hz hg0 hm
      go_enter Tryz.func98, Tryz.ntmps98
      go_wp2_with fail
      rw [HW.out]
      refine HS.out.mono ?_
      rintro e w1 ⟨rfl, n1, rfl⟩
      go_wp2_with fail
      go_quiet ((go_at_call 15; exact quiet_at _ (HM.out _)))
      go_wp2_with fail
      refine (HT.out _).mono ?_
      rintro e w5 ⟨k5, num5, nm5, A5, c5, kids5, σ5, rfl, hz5, hend, rfl⟩
      obtain ⟨⟨r0, r1, r2, r3⟩, q0, q1, q2, q3⟩ := hz5.four
      have QB := Lib.hid (fun v0 v1 v2 v3 => hz5.st4 v0 v1 v2 v3)
      have QE := Lib.hid hend
      clear hz5 hend
      go_wp2_with fail
      exact bodyPost_ret (node_result rfl rfl (QB.out _ _ _ _)) rfl (QE.out _ _ _ _)
    | true =>
      have hn1 : σ.next < E.ts.length := by
        rcases PP.more_cases E σ with ⟨_, _, h3⟩ | ⟨h1, _⟩ | ⟨h1, _, _⟩
        · exact h3
        · rw [hm] at h1; cases h1
        · rw [hm] at h1; cases h1
      obtain ⟨g, o, hA, t0, t1, t2⟩ := h0.cur hn1
      obtain ⟨c0, c1, _, _, _, _⟩ := h0.cells
      rw [hA] at c0
      have p1 : (0 : Int) ≤ (σ.next : Int) := by omega
      have p2 : (σ.next : Int) < (E.ts.length : Int) := by omega
      rw [hm] at hmo
      have HM := Lib.hid hmo
      by_cases hk : (PP.cur E σ).kind = 2
      · have hk2 : (((PP.cur E σ).kind : Int) == 2) = true := by simp [hk]
        have hfin := HNUM.out (by rw [hm, hk]; rfl)
        have hnp := fun n => numP_any (σ := σ) 0 2147483647 (w0.drewN n) (by omega) (by omega) (by omega) (h0.drewN n)
        have hpl := next_numP E σ 0 2147483647
        generalize hq : PP.numP E σ 0 2147483647 = q at *
        obtain ⟨σ4, v4⟩ := q
        have HF := Lib.hid hfin
        have HNP := Lib.hid hnp
        have hfz : ∀ n w', Fr b (w0.drewN n) w' → Fr b w w' ∧ Blk w' w.heap.size 36 #[.int .u8 0, .int .i64 0, .string ⟨#[]⟩, .slice none 0 0] := fun n w' hf => ⟨(hf0.drewN n).trans hf, (hz.drewN n).fr hf (by omega)⟩
        have HFZ := Lib.hid hfz
        generalize hKK : (PP.cur E σ).kind = KK at *
        clear hmo tail HPLACE HNUM HPL h0 hf0 hz hg0 hm hk hA t1 t2 hnp hfin hq hfz hKK
        go_enter Tryz.func98, Tryz.ntmps98
        go_wp2_with fail
        rw [HW.out]
        refine HS.out.mono ?_
        rintro e w1 ⟨rfl, n1, rfl⟩
        go_wp2_with fail
        go_quiet ((go_at_call 15; exact quiet_at _ (HM.out _)))
        go_wp2_with fail
        refine (HNP.out _).mono ?_
        rintro e w5 ⟨rfl, h5, hf5⟩
        obtain ⟨hF5, hz5⟩ := HFZ.out _ _ hf5
        obtain ⟨⟨r0, r1, r2, r3⟩, q0, q1, q2, q3⟩ := hz5.four
        have Q := Lib.hid (fun v0 v1 v2 v3 => H0.out.st4 hF5 h5 (Nat.le_refl _) v0 v1 v2 v3)
        have QF := Lib.hid (fun v0 v1 v2 v3 => hF5.st4 (Nat.le_refl _) v0 v1 v2 v3)
        have QB := Lib.hid (fun v0 v1 v2 v3 => hz5.st4 v0 v1 v2 v3)
        clear h5 hf5 hF5 hz5
        go_wp2_with fail
        refine bodyPost_ret (node_result rfl rfl (QB.out _ _ _ _)) rfl ?_
        exact ⟨_, _, _, rfl, NodeV.leaf _ _ 1 v4 [], Q.out _ _ _ _, QF.out _ _ _ _, ⟨1, HF.out⟩, hpl⟩
      · have hk2 : (((PP.cur E σ).kind : Int) == 2) = false := beq_eq_false_iff_ne.2 (by omega)
        have HT := Lib.hid (fun n => tail n (by rw [hm]; simp [hk]))
        generalize hKK : (PP.cur E σ).kind = KK at *
        clear hmo tail HPLACE HNUM HPL h0 hf0 hz hg0 hm hk hA t1 t2 hKK
        go_enter Tryz.func98, Tryz.ntmps98
        go_wp2_with fail
        rw [HW.out]
        refine HS.out.mono ?_
        rintro e w1 ⟨rfl, n1, rfl⟩
        go_wp2_with fail
        go_quiet ((go_at_call 15; exact quiet_at _ (HM.out _)))
        go_wp2_with fail
        refine (HT.out _).mono ?_
        rintro e w5 ⟨k5, num5, nm5, A5, c5, kids5, σ5, rfl, hz5, hend, rfl⟩
        obtain ⟨⟨r0, r1, r2, r3⟩, q0, q1, q2, q3⟩ := hz5.four
        have QB := Lib.hid (fun v0 v1 v2 v3 => hz5.st4 v0 v1 v2 v3)
        have QE := Lib.hid hend
        clear hz5 hend
        go_wp2_with fail
        exact bodyPost_ret (node_result rfl rfl (QB.out _ _ _ _)) rfl (QE.out _ _ _ _)
end
end Go.Proofs.YtglaecalbamnkaaGreatDoor
/- The contract of the parser's unary. -/
namespace Go.Proofs.YtglaecalbamnkaaGreatDoor
open Go.RowKit Go.Maps
open PP (Tree)

theorem idx_ops0 (W : World) : (Instr.index 116 (.agg #[.int .u8 4, .int .u8 5]) (.int .i64 0)).run Tryz.prog W = .ok (.int .u8 4) W := by kernel_rfl
theorem idx_ops1 (W : World) : (Instr.index 116 (.agg #[.int .u8 4, .int .u8 5]) (.int .i64 1)).run Tryz.prog W = .ok (.int .u8 5) W := by kernel_rfl
/-- What the loop over the unary operators has seen. -/
def UnRel (E : PP.Env) (σ : PP.St) (w0 : World) (i : Value) (wr : World) : Prop :=
  ∃ m : Nat, wr = w0.drewN m ∧ (i = .int .i64 0 ∨ (i = .int .i64 1 ∧ PP.sees E σ [45] = false) ∨ (i = .int .i64 2 ∧ PP.sees E σ [45] = false ∧ PP.sees E σ [33] = false))

/-- Four stores into an old block, and a new block. -/
theorem st4_alloc (w : World) (o : Obj) (g : Nat) (v0 v1 v2 v3 : Value) (hg : g < w.heap.size) :
    (((((w.alloc o).setCell ⟨g, 0, none⟩ v0).setCell ⟨g, 1, none⟩ v1).setCell ⟨g, 2, none⟩ v2).setCell ⟨g, 3, none⟩ v3) = (((((w.setCell ⟨g, 0, none⟩ v0).setCell ⟨g, 1, none⟩ v1).setCell ⟨g, 2, none⟩ v2).setCell ⟨g, 3, none⟩ v3).alloc o) := by
  have hs : ∀ (W : World) j v, (W.setCell ⟨g, j, none⟩ v).heap.size = W.heap.size := fun W j v => by simp [World.setCell]
  rw [World.setCell_alloc_past (w := w) o g 0 v0 hg, World.setCell_alloc_past o g 1 v1 (by rw [hs]; exact hg), World.setCell_alloc_past o g 2 v2 (by rw [hs, hs]; exact hg), World.setCell_alloc_past o g 3 v3 (by rw [hs, hs, hs]; exact hg)]

section
set_option maxHeartbeats 800000
set_option maxRecDepth 100000
variable {b : Nat} {X : Loc} {E : PP.Env} {σ : PP.St}
theorem unary_any (w : World) (hg : Gx w b X) (h : PS w b X E σ)
    (IH : ∀ σ' w', Gx w' b X → PS w' b X E σ' → σ.next < σ'.next → Calls Tryz.prog 26 #[.pointer (some ⟨b, 0, none⟩)] w' (TreeEnd b X E σ' w' fun σ'' t => ∃ n, PP.binary E n 0 σ' = some (σ'', t)))
    (IHU : ∀ σ' w', Gx w' b X → PS w' b X E σ' → σ.next < σ'.next → Calls Tryz.prog 71 #[.pointer (some ⟨b, 0, none⟩)] w' (TreeEnd b X E σ' w' fun σ'' t => ∃ n, PP.unary E n σ' = some (σ'', t))) :
    Calls Tryz.prog 71 #[.pointer (some ⟨b, 0, none⟩)] w (TreeEnd b X E σ w fun σ' t => ∃ n, PP.unary E n σ = some (σ', t)) := by
  have hbl := h.lt
  have hlen := h.len
  have HIU := Lib.hid IHU
  have HPR := Lib.hid (fun w' (hg' : Gx w' b X) (h' : PS w' b X E σ) => primary_any w' hg' h' IH)
  clear IH IHU
  have hz := Blk.new w 36 #[.int .u8 0, .int .i64 0, .string ⟨#[]⟩, .slice none 0 0]
  have h0 := h.alloc (.cells #[.int .u8 0, .int .i64 0, .string ⟨#[]⟩, .slice none 0 0] 36)
  have hf0 := (Fr.refl b w).alloc (.cells #[.int .u8 0, .int .i64 0, .string ⟨#[]⟩, .slice none 0 0] 36)
  have hg0 := hg.fr hf0
  generalize hW : w.alloc (.cells #[.int .u8 0, .int .i64 0, .string ⟨#[]⟩, .slice none 0 0] 36) = w0 at *
  have HW := Lib.hid hW
  have H0 := Lib.hid h
  have HH0 := Lib.hid h0
  have HF0 := Lib.hid hf0
  have HG0 := Lib.hid hg0
  have HZ := Lib.hid hz
  clear hW h hg h0 hf0 hg0 hz
  have ix0 := idx_ops0
  have ix1 := idx_ops1
  go_enter Tryz.func71, Tryz.ntmps71
  go_wp2_with fail
  rw [HW.out]
  go_loopw [6] (fun i wr => UnRel E σ w0 i wr) (fun i _ => 2 - (intOf i).toNat)
  case atStart => exact ⟨0, rfl, .inl rfl⟩
  case round =>
    obtain ⟨m, rfl, hrel⟩ := hrel
    rcases hrel with rfl | ⟨rfl, hs1⟩ | ⟨rfl, hs1, hs2⟩
    · have hsy := fun n => symbol_any 4 (w0.drewN n) (HG0.out.fr ((Fr.refl b w0).drewN n)).ops (by omega)
      have hse := fun n => sees_any ⟨#[45]⟩ (w0.drewN n) (HH0.out.drewN n)
      rw [show (⟨#[45]⟩ : ByteArray).data.toList = [45] from rfl] at hse
      cases hc : PP.sees E σ [45] with
      | false =>
        rw [hc] at hse
        have HSY := Lib.hid hsy
        have HSE := Lib.hid hse
        have HC := Lib.hid hc
        clear hsy hse hc
        go_wp2_with fail
        refine (HSY.out _).mono ?_
        rintro e w1 ⟨rfl, rfl⟩
        go_wp2_with fail
        refine (HSE.out _).mono ?_
        rintro e w2 ⟨rfl, n2, rfl⟩
        go_wp2_with fail
        go_roundw
        case rel => exact ⟨_, rfl, .inr (.inl ⟨rfl, HC.out⟩)⟩
        case measure => simp [intOf]
      | true =>
        rw [hc] at hse
        have hn1 := next_of_sees hc
        have hfin : ∀ n r, PP.unary E n (PP.adv σ) = some r → PP.unary E (n + 1) σ = some (r.1, .node 4 0 [] [r.2]) := by
          intro n r hr
          rw [PP.unary]; simp only [hc, hr]; rfl
        have HSY := Lib.hid hsy
        have HSE := Lib.hid hse
        have HFIN := Lib.hid hfin
        clear hsy hse hc hfin
        obtain ⟨_, c1, _, _, _, _⟩ := HH0.out.cells
        have f1 := HH0.out.frozen 1
        go_wp2_with fail
        refine (HSY.out _).mono ?_
        rintro e w1 ⟨rfl, rfl⟩
        go_wp2_with fail
        refine (HSE.out _).mono ?_
        rintro e w2 ⟨rfl, n2, rfl⟩
        have h2 := (HH0.out.drewN (m + n2)).setNext (σ.next + 1) (by omega)
        have hF2 := (HF0.out.drewN (m + n2)).set 1 (.int .i64 ((σ.next : Int) + 1))
        have hz2 := (HZ.out.drewN (m + n2)).far (p := ⟨b, 1, none⟩) (by show w.heap.size ≠ b; omega) (.int .i64 ((σ.next : Int) + 1))
        have hg2 := HG0.out.fr ((Fr.refl b w0).drewN (m + n2) |>.set 1 (.int .i64 ((σ.next : Int) + 1)))
        have HH2 := Lib.hid h2
        have HF2 := Lib.hid hF2
        have HZ2 := Lib.hid hz2
        have HG2 := Lib.hid hg2
        clear h2 hF2 hz2 hg2
        go_wp2_with fail
        refine (HIU.out _ _ HG2.out HH2.out (by show σ.next < σ.next + 1; omega)).mono ?_
        rintro e w5 ⟨v5, t5, σ5, rfl, hN5, h5, hf5, ⟨n5, hr5⟩, hn5⟩
        obtain ⟨k5, num5, nm5, A5, c5, kids5, rfl, rfl, hk5⟩ := hN5
        have hF5 := HF2.out.trans hf5
        have hz5 := HZ2.out.fr hf5 (by omega)
        have hs5 := hz5.lt
        have HR5 := Lib.hid hr5
        have hk5' : KidsC w5 (fun g => w.heap.size ≤ g ∧ g ≠ w.heap.size) A5 kids5 := hk5.weak (fun g hg hlt => by
          have h1 : ((w0.drewN (m + n2)).setCell ⟨b, 1, none⟩ (.int .i64 ((σ.next : Int) + 1))).heap.size ≤ g := hg
          have h2 := HZ2.out.lt
          omega)
        have hkA := kids_one (Z := fun g => w.heap.size ≤ g ∧ g ≠ w.heap.size) (k := k5) (num := num5) (nm := nm5) (c := c5) ⟨by omega, by omega⟩ hk5' 36
        have h6 := h5.alloc (.cells #[.int .u8 (k5 : Int), .int .i64 num5, .string ⟨nm5.toArray⟩, .slice A5 kids5.length c5] 36)
        have hF6 := hF5.alloc (.cells #[.int .u8 (k5 : Int), .int .i64 num5, .string ⟨nm5.toArray⟩, .slice A5 kids5.length c5] 36)
        have hz6 := hz5.alloc (.cells #[.int .u8 (k5 : Int), .int .i64 num5, .string ⟨nm5.toArray⟩, .slice A5 kids5.length c5] 36)
        obtain ⟨⟨r0, r1, r2, r3⟩, q0, q1, q2, q3⟩ := hz5.four
        have Q := Lib.hid (fun v0 v1 v2 v3 => H0.out.st4 hF6 h6 (Nat.le_refl _) v0 v1 v2 v3)
        have QF := Lib.hid (fun v0 v1 v2 v3 => hF6.st4 (Nat.le_refl _) v0 v1 v2 v3)
        have QB := Lib.hid (fun v0 v1 v2 v3 => hz6.st4 v0 v1 v2 v3)
        have QK := Lib.hid (fun v0 v1 v2 v3 => (hkA.keep ((Keep.refl _ _).st4 (g := w.heap.size) (by intro h; exact h.2 rfl) v0 v1 v2 v3)).weak (Z' := (w.heap.size ≤ ·)) (fun g hg _ => hg.1))
        have hpl3 : σ.next ≤ σ5.next := by
          have h9 : σ.next + 1 ≤ σ5.next := hn5
          omega
        have hcm := fun v0 v1 v2 v3 => st4_alloc w5 (.cells #[.int .u8 (k5 : Int), .int .i64 num5, .string ⟨nm5.toArray⟩, .slice A5 kids5.length c5] 36) w.heap.size v0 v1 v2 v3 hs5
        have HCM := Lib.hid hcm
        clear hk5 hk5' hr5 HH2 HF2 HG2 HZ2 hz5 c1 f1 h5 hf5 hF5 hkA h6 hF6 hz6 hcm
        go_wp2_with fail
        rw [← HCM.out]
        refine bodyPost_ret (node_result rfl rfl (QB.out _ _ _ _)) rfl ?_
        exact ⟨_, _, σ5, rfl, ⟨4, 0, [], _, 1, [.node k5 num5 nm5 kids5], rfl, rfl, QK.out _ _ _ _⟩, Q.out _ _ _ _, QF.out _ _ _ _, ⟨n5 + 1, HFIN.out n5 _ HR5.out⟩, hpl3⟩
    · have hsy := fun n => symbol_any 5 (w0.drewN n) (HG0.out.fr ((Fr.refl b w0).drewN n)).ops (by omega)
      have hse := fun n => sees_any ⟨#[33]⟩ (w0.drewN n) (HH0.out.drewN n)
      rw [show (⟨#[33]⟩ : ByteArray).data.toList = [33] from rfl] at hse
      cases hc : PP.sees E σ [33] with
      | false =>
        rw [hc] at hse
        have HSY := Lib.hid hsy
        have HSE := Lib.hid hse
        have HC := Lib.hid hc
        have HC1 := Lib.hid hs1
        clear hsy hse hc hs1
        go_wp2_with fail
        refine (HSY.out _).mono ?_
        rintro e w1 ⟨rfl, rfl⟩
        go_wp2_with fail
        refine (HSE.out _).mono ?_
        rintro e w2 ⟨rfl, n2, rfl⟩
        go_wp2_with fail
        go_roundw
        case rel => exact ⟨_, rfl, .inr (.inr ⟨rfl, HC1.out, HC.out⟩)⟩
        case measure => simp [intOf]
      | true =>
        rw [hc] at hse
        have hn1 := next_of_sees hc
        have hfin : ∀ n r, PP.unary E n (PP.adv σ) = some r → PP.unary E (n + 1) σ = some (r.1, .node 5 0 [] [r.2]) := by
          intro n r hr
          rw [PP.unary]; simp only [hs1, hc, hr]; rfl
        have HSY := Lib.hid hsy
        have HSE := Lib.hid hse
        have HFIN := Lib.hid hfin
        clear hsy hse hc hfin hs1
        obtain ⟨_, c1, _, _, _, _⟩ := HH0.out.cells
        have f1 := HH0.out.frozen 1
        go_wp2_with fail
        refine (HSY.out _).mono ?_
        rintro e w1 ⟨rfl, rfl⟩
        go_wp2_with fail
        refine (HSE.out _).mono ?_
        rintro e w2 ⟨rfl, n2, rfl⟩
        have h2 := (HH0.out.drewN (m + n2)).setNext (σ.next + 1) (by omega)
        have hF2 := (HF0.out.drewN (m + n2)).set 1 (.int .i64 ((σ.next : Int) + 1))
        have hz2 := (HZ.out.drewN (m + n2)).far (p := ⟨b, 1, none⟩) (by show w.heap.size ≠ b; omega) (.int .i64 ((σ.next : Int) + 1))
        have hg2 := HG0.out.fr ((Fr.refl b w0).drewN (m + n2) |>.set 1 (.int .i64 ((σ.next : Int) + 1)))
        have HH2 := Lib.hid h2
        have HF2 := Lib.hid hF2
        have HZ2 := Lib.hid hz2
        have HG2 := Lib.hid hg2
        clear h2 hF2 hz2 hg2
        go_wp2_with fail
        refine (HIU.out _ _ HG2.out HH2.out (by show σ.next < σ.next + 1; omega)).mono ?_
        rintro e w5 ⟨v5, t5, σ5, rfl, hN5, h5, hf5, ⟨n5, hr5⟩, hn5⟩
        obtain ⟨k5, num5, nm5, A5, c5, kids5, rfl, rfl, hk5⟩ := hN5
        have hF5 := HF2.out.trans hf5
        have hz5 := HZ2.out.fr hf5 (by omega)
        have hs5 := hz5.lt
        have HR5 := Lib.hid hr5
        have hk5' : KidsC w5 (fun g => w.heap.size ≤ g ∧ g ≠ w.heap.size) A5 kids5 := hk5.weak (fun g hg hlt => by
          have h1 : ((w0.drewN (m + n2)).setCell ⟨b, 1, none⟩ (.int .i64 ((σ.next : Int) + 1))).heap.size ≤ g := hg
          have h2 := HZ2.out.lt
          omega)
        have hkA := kids_one (Z := fun g => w.heap.size ≤ g ∧ g ≠ w.heap.size) (k := k5) (num := num5) (nm := nm5) (c := c5) ⟨by omega, by omega⟩ hk5' 36
        have h6 := h5.alloc (.cells #[.int .u8 (k5 : Int), .int .i64 num5, .string ⟨nm5.toArray⟩, .slice A5 kids5.length c5] 36)
        have hF6 := hF5.alloc (.cells #[.int .u8 (k5 : Int), .int .i64 num5, .string ⟨nm5.toArray⟩, .slice A5 kids5.length c5] 36)
        have hz6 := hz5.alloc (.cells #[.int .u8 (k5 : Int), .int .i64 num5, .string ⟨nm5.toArray⟩, .slice A5 kids5.length c5] 36)
        obtain ⟨⟨r0, r1, r2, r3⟩, q0, q1, q2, q3⟩ := hz5.four
        have Q := Lib.hid (fun v0 v1 v2 v3 => H0.out.st4 hF6 h6 (Nat.le_refl _) v0 v1 v2 v3)
        have QF := Lib.hid (fun v0 v1 v2 v3 => hF6.st4 (Nat.le_refl _) v0 v1 v2 v3)
        have QB := Lib.hid (fun v0 v1 v2 v3 => hz6.st4 v0 v1 v2 v3)
        have QK := Lib.hid (fun v0 v1 v2 v3 => (hkA.keep ((Keep.refl _ _).st4 (g := w.heap.size) (by intro h; exact h.2 rfl) v0 v1 v2 v3)).weak (Z' := (w.heap.size ≤ ·)) (fun g hg _ => hg.1))
        have hpl3 : σ.next ≤ σ5.next := by
          have h9 : σ.next + 1 ≤ σ5.next := hn5
          omega
        have hcm := fun v0 v1 v2 v3 => st4_alloc w5 (.cells #[.int .u8 (k5 : Int), .int .i64 num5, .string ⟨nm5.toArray⟩, .slice A5 kids5.length c5] 36) w.heap.size v0 v1 v2 v3 hs5
        have HCM := Lib.hid hcm
        clear hk5 hk5' hr5 HH2 HF2 HG2 HZ2 hz5 c1 f1 h5 hf5 hF5 hkA h6 hF6 hz6 hcm
        go_wp2_with fail
        rw [← HCM.out]
        refine bodyPost_ret (node_result rfl rfl (QB.out _ _ _ _)) rfl ?_
        exact ⟨_, _, σ5, rfl, ⟨5, 0, [], _, 1, [.node k5 num5 nm5 kids5], rfl, rfl, QK.out _ _ _ _⟩, Q.out _ _ _ _, QF.out _ _ _ _, ⟨n5 + 1, HFIN.out n5 _ HR5.out⟩, hpl3⟩
    · have hfin : ∀ n r, PP.primary E n σ = some r → PP.unary E (n + 1) σ = some r := by
        intro n r hr
        rw [PP.unary]; simp only [hs1, hs2, hr]; rfl
      have HFIN := Lib.hid hfin
      clear hfin hs1 hs2
      go_wp2_with fail
      refine (HPR.out _ (HG0.out.fr ((Fr.refl b w0).drewN m)) (HH0.out.drewN m)).mono ?_
      rintro e w5 ⟨v5, t5, σ5, rfl, hN5, h5, hf5, ⟨n5, hr5⟩, hn5⟩
      obtain ⟨k5, num5, nm5, A5, c5, kids5, rfl, rfl, hk5⟩ := hN5
      have hF5 := (HF0.out.drewN m).trans hf5
      have hz5 := (HZ.out.drewN m).fr hf5 (by omega)
      have hk5' : KidsC w5 (fun g => w.heap.size ≤ g ∧ g ≠ w.heap.size) A5 kids5 := hk5.weak (fun g hg hlt => by
        have h1 : (w0.drewN m).heap.size ≤ g := hg
        have h2 := (HZ.out.drewN m).lt
        omega)
      have HR5 := Lib.hid hr5
      obtain ⟨⟨r0, r1, r2, r3⟩, q0, q1, q2, q3⟩ := hz5.four
      have Q := Lib.hid (fun v0 v1 v2 v3 => H0.out.st4 hF5 h5 (Nat.le_refl _) v0 v1 v2 v3)
      have QF := Lib.hid (fun v0 v1 v2 v3 => hF5.st4 (Nat.le_refl _) v0 v1 v2 v3)
      have QB := Lib.hid (fun v0 v1 v2 v3 => hz5.st4 v0 v1 v2 v3)
      have QK := Lib.hid (fun v0 v1 v2 v3 => (hk5'.keep ((Keep.refl _ _).st4 (g := w.heap.size) (by intro h; exact h.2 rfl) v0 v1 v2 v3)).weak (Z' := (w.heap.size ≤ ·)) (fun g hg _ => hg.1))
      clear hk5 hk5' hr5 hz5 h5 hf5 hF5
      go_wp2_with fail
      refine bodyPost_ret (node_result rfl rfl (QB.out _ _ _ _)) rfl ?_
      exact ⟨_, _, σ5, rfl, ⟨k5, num5, nm5, _, c5, kids5, rfl, rfl, QK.out _ _ _ _⟩, Q.out _ _ _ _, QF.out _ _ _ _, ⟨n5 + 1, HFIN.out n5 _ HR5.out⟩, hn5⟩
end
end Go.Proofs.YtglaecalbamnkaaGreatDoor
/- The contract of the parser's binary, and of its expression. -/
namespace Go.Proofs.YtglaecalbamnkaaGreatDoor
open Go.RowKit Go.Maps
open PP (Tree)

def nextOf (w : World) (b : Nat) : Nat := match w.cell? ⟨b, 1, none⟩ with
  | some v => (intOf v).toNat
  | none => 0
theorem nextOf_ps {w : World} {b : Nat} {X : Loc} {E : PP.Env} {σ : PP.St} (h : PS w b X E σ) : nextOf w b = σ.next := by
  unfold nextOf
  rw [h.cells.2.1]
  simp [intOf]
theorem level_le (op : Nat) : PP.level op ≤ 11 := by
  by_cases h : op < 24
  · have : ∀ i, i < 24 → PP.level i ≤ 11 := by decide
    exact this op h
  · rw [level_big (by omega)]; omega
theorem Blk.fr2 {w w' w'' : World} {g b : Nat} {t : TypeId} {cs : Array Value} (h : Blk w g t cs) (k : Fr b w' w'') (e : w'.heap = w.heap) (hg : g ≠ b) : Blk w'' g t cs :=
  Blk.fr (w := w') (by unfold Blk; rw [e]; exact h) k hg
/-- Where the loop of binary stands: the state, the tree on the left in its block, and what is still to be read. -/
def BinRel (b : Nat) (X : Loc) (E : PP.Env) (σ : PP.St) (lvl : Nat) (w : World) (L : Nat) (wr : World) : Prop :=
  ∃ σ' k num nm A c kids, PS wr b X E σ' ∧ Fr b w wr ∧ σ.next ≤ σ'.next ∧ Blk wr w.heap.size 36 #[.int .u8 0, .int .i64 0, .string ⟨#[]⟩, .slice none 0 0] ∧
    Blk wr L 36 #[.int .u8 ((k : Nat) : Int), .int .i64 num, .string ⟨(nm : List UInt8).toArray⟩, .slice A (kids : List Tree).length c] ∧
    KidsC wr (fun g => w.heap.size ≤ g ∧ g ≠ w.heap.size ∧ g ≠ L) A kids ∧
    ∀ n r, PP.binLoop E n lvl σ' (.node k num nm kids) = some r → ∃ n', PP.binary E n' lvl σ = some r

theorem bin_step {b L k op k3 : Nat} {X : Loc} {E : PP.Env} {σ σ3 : PP.St} {lvl : Nat} {w wm wm' w3 : World} {num num3 : Int} {nm nm3 : List UInt8} {A A3 : Option Addr} {c c3 : Nat} {kids kids3 : List Tree}
    (hbl : b < w.heap.size) (hRL : w.heap.size < L) (h0 : PS w b X E σ) (hF : Fr b w wm') (e : wm'.heap = wm.heap)
    (hR : Blk wm w.heap.size 36 #[.int .u8 0, .int .i64 0, .string ⟨#[]⟩, .slice none 0 0])
    (hL : Blk wm L 36 #[.int .u8 (k : Int), .int .i64 num, .string ⟨nm.toArray⟩, .slice A kids.length c])
    (hk : KidsC wm (fun g => w.heap.size ≤ g ∧ g ≠ w.heap.size ∧ g ≠ L) A kids)
    (hf3 : Fr b wm' w3) (h3 : PS w3 b X E σ3) (hk3 : KidsC w3 (wm'.heap.size ≤ ·) A3 kids3) (hn : σ.next ≤ σ3.next)
    (hgo : ∀ n r, PP.binLoop E n lvl σ3 (.node op 0 [] [.node k num nm kids, .node k3 num3 nm3 kids3]) = some r → ∃ n', PP.binary E n' lvl σ = some r)
    {wf : World} (hwf : wf = (((((w3.setCell ⟨L, 0, none⟩ (.int .u8 (op : Int))).setCell ⟨L, 1, none⟩ (.int .i64 0)).setCell ⟨L, 2, none⟩ (.string ⟨#[]⟩)).setCell ⟨L, 3, none⟩ (.slice (some ⟨w3.heap.size, 0, none⟩) 2 2)).alloc
      (.cells #[.int .u8 (k : Int), .int .i64 num, .string ⟨nm.toArray⟩, .slice A kids.length c, .int .u8 (k3 : Int), .int .i64 num3, .string ⟨nm3.toArray⟩, .slice A3 kids3.length c3] 36))) :
    PS wf b X E σ3 ∧ BinRel b X E σ lvl w L wf := by
  have hLb : L ≠ b := by omega
  have hL3 := Blk.fr2 hL hf3 e hLb
  have hR3 := Blk.fr2 hR hf3 e (by omega : w.heap.size ≠ b)
  have hF3 := hF.trans hf3
  have hlt := hL3.lt
  have hlm := hL.lt
  have hkk : KidsC w3 (fun g => w.heap.size ≤ g ∧ g ≠ w.heap.size ∧ g ≠ L) A kids :=
    hk.keep (Keep.fr (w' := wm') ⟨by rw [e]; exact Nat.le_refl _, fun g _ _ => by rw [e]⟩ hf3 (by intro h; have := h.1; omega))
  have hkk3 : KidsC w3 (fun g => w.heap.size ≤ g ∧ g ≠ w.heap.size ∧ g ≠ L) A3 kids3 := hk3.weak (fun g hg _ => by
    have h1 : wm'.heap.size ≤ g := hg
    rw [e] at h1
    omega)
  have hK := kids_two (w := w3) (Z := fun g => w.heap.size ≤ g ∧ g ≠ w.heap.size ∧ g ≠ L) (by refine ⟨?_, ?_, ?_⟩ <;> omega) (k := k) (num := num) (nm := nm) (c := c) hkk (k' := k3) (num' := num3) (nm' := nm3) (c' := c3) hkk3 36
  rw [← st4_alloc w3 _ L _ _ _ _ hlt] at hwf
  have hFa := hF3.alloc (.cells #[.int .u8 (k : Int), .int .i64 num, .string ⟨nm.toArray⟩, .slice A kids.length c, .int .u8 (k3 : Int), .int .i64 num3, .string ⟨nm3.toArray⟩, .slice A3 kids3.length c3] 36)
  have hPa := h3.alloc (.cells #[.int .u8 (k : Int), .int .i64 num, .string ⟨nm.toArray⟩, .slice A kids.length c, .int .u8 (k3 : Int), .int .i64 num3, .string ⟨nm3.toArray⟩, .slice A3 kids3.length c3] 36)
  have hP := h0.st4 hFa hPa (by omega : w.heap.size ≤ L) (.int .u8 (op : Int)) (.int .i64 0) (.string ⟨#[]⟩) (.slice (some ⟨w3.heap.size, 0, none⟩) 2 2)
  have hR4 := ((((hR3.alloc (.cells #[.int .u8 (k : Int), .int .i64 num, .string ⟨nm.toArray⟩, .slice A kids.length c, .int .u8 (k3 : Int), .int .i64 num3, .string ⟨nm3.toArray⟩, .slice A3 kids3.length c3] 36)).far (p := ⟨L, 0, none⟩) (by show w.heap.size ≠ L; omega) (.int .u8 (op : Int))).far (p := ⟨L, 1, none⟩) (by show w.heap.size ≠ L; omega) (.int .i64 0)).far (p := ⟨L, 2, none⟩) (by show w.heap.size ≠ L; omega) (.string ⟨#[]⟩)).far (p := ⟨L, 3, none⟩) (by show w.heap.size ≠ L; omega) (.slice (some ⟨w3.heap.size, 0, none⟩) 2 2)
  subst hwf
  refine ⟨hP, σ3, op, 0, [], some ⟨w3.heap.size, 0, none⟩, 2, [.node k num nm kids, .node k3 num3 nm3 kids3], hP, hFa.st4 (by omega) _ _ _ _, hn, hR4, (hL3.alloc _).st4 _ _ _ _, ?_, hgo⟩
  exact hK.keep ((Keep.refl _ _).st4 (g := L) (by intro h; exact h.2.2 rfl) _ _ _ _)

section
set_option maxHeartbeats 1000000
attribute [local go_sem ↓] Go.wp_at_zero Go.wp_at_succ
set_option maxRecDepth 100000
variable {b : Nat} {X : Loc} {E : PP.Env} {σ : PP.St}
theorem binary_any (lvl : Nat) (w : World) (hg : Gx w b X) (h : PS w b X E σ)
    (HU : ∀ w', Gx w' b X → PS w' b X E σ → Calls Tryz.prog 71 #[.pointer (some ⟨b, 0, none⟩)] w' (TreeEnd b X E σ w' fun σ'' t => ∃ n, PP.unary E n σ = some (σ'', t)))
    (IHB : ∀ σ' w' (l : Nat), Gx w' b X → PS w' b X E σ' → σ.next < σ'.next → Calls Tryz.prog 54 #[.pointer (some ⟨b, 0, none⟩), .int .i64 (l : Int)] w' (TreeEnd b X E σ' w' fun σ'' t => ∃ n, PP.binary E n l σ' = some (σ'', t))) :
    Calls Tryz.prog 54 #[.pointer (some ⟨b, 0, none⟩), .int .i64 (lvl : Int)] w (TreeEnd b X E σ w fun σ' t => ∃ n, PP.binary E n lvl σ = some (σ', t)) := by
  have hbl := h.lt
  have hlen := h.len
  have HIB := Lib.hid IHB
  clear IHB
  have hz := Blk.new w 36 #[.int .u8 0, .int .i64 0, .string ⟨#[]⟩, .slice none 0 0]
  have h0 := h.alloc (.cells #[.int .u8 0, .int .i64 0, .string ⟨#[]⟩, .slice none 0 0] 36)
  have hf0 := (Fr.refl b w).alloc (.cells #[.int .u8 0, .int .i64 0, .string ⟨#[]⟩, .slice none 0 0] 36)
  have hg0 := hg.fr hf0
  generalize hW : w.alloc (.cells #[.int .u8 0, .int .i64 0, .string ⟨#[]⟩, .slice none 0 0] 36) = w0 at *
  have HU0 := Lib.hid (HU w0 hg0 h0)
  have HW := Lib.hid hW
  have H0 := Lib.hid h
  have HGX := Lib.hid hg
  have HF0 := Lib.hid hf0
  have HZ := Lib.hid hz
  clear hW h hg h0 hf0 hg0 hz HU
  go_enter Tryz.func54, Tryz.ntmps54
  go_wp2_with fail
  rw [HW.out]
  refine HU0.out.mono ?_
  rintro e w1 ⟨v1, t1, σ1, rfl, hN1, h1, hf1, ⟨n1, hr1⟩, hn1⟩
  obtain ⟨k1, num1, nm1, A1, c1, kids1, rfl, rfl, hk1⟩ := hN1
  have hF1 := HF0.out.trans hf1
  have hz1 := HZ.out.fr hf1 (by omega)
  have hk1' : KidsC w1 (fun g => w.heap.size ≤ g ∧ g ≠ w.heap.size ∧ g ≠ w1.heap.size) A1 kids1 := hk1.weak (fun g hg hlt => by
    have h1 : w0.heap.size ≤ g := hg
    have h2 := HZ.out.lt
    omega)
  have hstart : BinRel b X E σ lvl w w1.heap.size (w1.alloc (.cells #[.int .u8 (k1 : Int), .int .i64 num1, .string ⟨nm1.toArray⟩, .slice A1 kids1.length c1] 36)) :=
    ⟨σ1, k1, num1, nm1, A1, c1, kids1, h1.alloc _, hF1.alloc _, hn1, hz1.alloc _, Blk.new _ _ _, hk1'.keep ((Keep.refl _ _).alloc _), fun n r hr => ⟨max n1 n + 1, by
      rw [PP.binary, PP.unary_le E (Nat.le_max_left _ _) hr1]
      exact PP.binLoop_le E (Nat.le_max_right _ _) hr⟩⟩
  have hRL : w.heap.size < w1.heap.size := hz1.lt
  have HST := Lib.hid hstart
  clear hstart hk1 hk1' hz1 hF1 hr1 hf1 h1 hn1
  go_wp2_with fail
  generalize w1.alloc (.cells #[.int .u8 (k1 : Int), .int .i64 num1, .string ⟨nm1.toArray⟩, .slice A1 kids1.length c1] 36) = ws at *
  generalize w1.heap.size = L at *
  go_loopw [] (fun wr => BinRel b X E σ lvl w L wr) (fun wr => E.ts.length - nextOf wr b)
  case atStart => exact HST.out
  case round =>
    obtain ⟨σ', k, num, nm, A, c, kids, hp, hF, hn, hzR, hzL, hk, hgo⟩ := hrel
    have HGO := Lib.hid hgo
    clear hgo HST
    have hmo := more_any _ hp
    cases hm : PP.more E σ' with
    | false =>
      rw [hm] at hmo
      have hfin := HGO.out 1 (σ', .node k num nm kids) (by rw [PP.binLoop, hm]; rfl)
      have HM := Lib.hid hmo
      have HFIN := Lib.hid hfin
      obtain ⟨⟨r0, r1, r2, r3⟩, q0, q1, q2, q3⟩ := hzR.four
      obtain ⟨⟨s0, s1, s2, s3⟩, _, _, _, _⟩ := hzL.four
      have Q := Lib.hid (fun n v0 v1 v2 v3 => H0.out.st4 (hF.drewN n) (hp.drewN n) (Nat.le_refl _) v0 v1 v2 v3)
      have QF := Lib.hid (fun n v0 v1 v2 v3 => (hF.drewN n).st4 (Nat.le_refl _) v0 v1 v2 v3)
      have QB := Lib.hid (fun n v0 v1 v2 v3 => (hzR.drewN n).st4 v0 v1 v2 v3)
      have QK := Lib.hid (fun n v0 v1 v2 v3 => (hk.keep (((Keep.refl _ _).drewN n).st4 (g := w.heap.size) (by intro h; exact h.2.1 rfl) v0 v1 v2 v3)).weak (Z' := (w.heap.size ≤ ·)) (fun g hg _ => hg.1))
      clear hmo hfin hm hp hF hzR hzL hk HGO
      go_wp2_with fail
      refine HM.out.mono ?_
      rintro e w2 ⟨rfl, n2, rfl⟩
      go_wp2_with fail
      refine bodyPost_ret (node_result rfl rfl (QB.out _ _ _ _ _)) rfl ?_
      exact ⟨_, _, σ', rfl, ⟨k, num, nm, _, c, kids, rfl, rfl, QK.out _ _ _ _ _⟩, Q.out _ _ _ _ _, QF.out _ _ _ _ _, HFIN.out, hn⟩
    | true =>
      rw [hm] at hmo
      have HM := Lib.hid hmo
      have hnx : σ'.next < E.ts.length := by
        rcases PP.more_cases E σ' with ⟨_, _, h3⟩ | ⟨h1, _⟩ | ⟨h1, _, _⟩
        · exact h3
        · rw [hm] at h1; cases h1
        · rw [hm] at h1; cases h1
      obtain ⟨g, o, hA, t0, t1, t2⟩ := hp.cur hnx
      obtain ⟨c0, c1', _, c3', _, _⟩ := hp.cells
      have f1 := hp.frozen 1
      rw [hA] at c0
      have htl := hp.txt _ (List.mem_of_getElem? (PP.cur_at E hnx))
      have hgx := HGX.out.fr hF
      have hlook : ∀ n, (Instr.lookup 52 (.map (some X.m)) (.string ⟨(PP.cur E σ').text.toArray⟩) true).run Tryz.prog (wr.drewN n) = .ok (.tuple #[.int .u8 (((PP.opOf (PP.cur E σ').text).getD 0 : Nat) : Int), .bool (PP.opOf (PP.cur E σ').text).isSome]) (wr.drewN n) := fun n =>
        MapAt.look (w := wr.drewN n) (World.ownsMap.kept hgx.map ((Fr.refl b wr).drewN n) (by simpa using hgx.mne)) _ htl
      have hlvl : ∀ n op, op ≤ 255 → Calls Tryz.prog 72 #[.int .u8 ((op : Nat) : Int)] (wr.drewN n) fun e w' => e = .returned (.int .i64 (PP.level op : Int)) ∧ wr.drewN n = w' := fun n op ho => level_any op _ (hgx.fr ((Fr.refl b wr).drewN n)).ops ho
      have p1 : (0 : Int) ≤ (σ'.next : Int) := by omega
      have p2 : (σ'.next : Int) < (E.ts.length : Int) := by omega
      have HLV := Lib.hid hlvl
      generalize hT : (PP.cur E σ').text = T at *
      have hmeas := nextOf_ps hp
      cases ho : PP.opOf T with
      | none =>
        rw [ho] at hlook
        have hfin := HGO.out 1 (σ', .node k num nm kids) (by rw [PP.binLoop, hm, hT, ho]; rfl)
        have HFIN := Lib.hid hfin
        obtain ⟨⟨r0, r1, r2, r3⟩, q0, q1, q2, q3⟩ := hzR.four
        obtain ⟨⟨s0, s1, s2, s3⟩, _, _, _, _⟩ := hzL.four
        have Q := Lib.hid (fun n v0 v1 v2 v3 => H0.out.st4 (hF.drewN n) (hp.drewN n) (Nat.le_refl _) v0 v1 v2 v3)
        have QF := Lib.hid (fun n v0 v1 v2 v3 => (hF.drewN n).st4 (Nat.le_refl _) v0 v1 v2 v3)
        have QB := Lib.hid (fun n v0 v1 v2 v3 => (hzR.drewN n).st4 v0 v1 v2 v3)
        have QK := Lib.hid (fun n v0 v1 v2 v3 => (hk.keep (((Keep.refl _ _).drewN n).st4 (g := w.heap.size) (by intro h; exact h.2.1 rfl) v0 v1 v2 v3)).weak (Z' := (w.heap.size ≤ ·)) (fun g hg _ => hg.1))
        simp only [Option.getD_none, Option.isSome_none] at hlook
        clear hmo hfin hm hp hF hzR hzL hk HGO hT ho hgx hlvl hA t0 t2 htl hmeas
        go_wp2_with fail
        refine HM.out.mono ?_
        rintro e w2 ⟨rfl, n2, rfl⟩
        go_wp2_with fail
        go_quiet (fail)
        go_wp2_with fail
        refine bodyPost_ret (node_result rfl rfl (QB.out _ _ _ _ _)) rfl ?_
        exact ⟨_, _, σ', rfl, ⟨k, num, nm, _, c, kids, rfl, rfl, QK.out _ _ _ _ _⟩, Q.out _ _ _ _ _, QF.out _ _ _ _ _, HFIN.out, hn⟩
      | some op =>
        obtain ⟨ho1, ho2, hsy⟩ := opOf_some ho
        rw [ho] at hlook
        simp only [Option.getD_some, Option.isSome_some] at hlook
        have hlo : PP.level op ≤ 11 := level_le op
        by_cases hll : PP.level op < lvl
        · have hfin := HGO.out 1 (σ', .node k num nm kids) (by rw [PP.binLoop, hm, hT, ho]; simp [hll])
          have HFIN := Lib.hid hfin
          have e1 : decide (PP.level op < lvl) = true := by simpa using hll
          have e2 : decide ((PP.level op : Int) < (lvl : Int)) = true := by simpa using hll
          obtain ⟨⟨r0, r1, r2, r3⟩, q0, q1, q2, q3⟩ := hzR.four
          obtain ⟨⟨s0, s1, s2, s3⟩, _, _, _, _⟩ := hzL.four
          have Q := Lib.hid (fun n v0 v1 v2 v3 => H0.out.st4 (hF.drewN n) (hp.drewN n) (Nat.le_refl _) v0 v1 v2 v3)
          have QF := Lib.hid (fun n v0 v1 v2 v3 => (hF.drewN n).st4 (Nat.le_refl _) v0 v1 v2 v3)
          have QB := Lib.hid (fun n v0 v1 v2 v3 => (hzR.drewN n).st4 v0 v1 v2 v3)
          have QK := Lib.hid (fun n v0 v1 v2 v3 => (hk.keep (((Keep.refl _ _).drewN n).st4 (g := w.heap.size) (by intro h; exact h.2.1 rfl) v0 v1 v2 v3)).weak (Z' := (w.heap.size ≤ ·)) (fun g hg _ => hg.1))
          clear hmo hfin hm hp hF hzR hzL hk HGO hT ho hgx hlvl hA t0 t2 htl hmeas hsy
          go_wp2_with fail
          refine HM.out.mono ?_
          rintro e w2 ⟨rfl, n2, rfl⟩
          go_wp2_with fail
          go_quiet (fail)
          go_wp2_with fail
          refine (HLV.out _ op (by omega)).mono ?_
          rintro e w2 ⟨rfl, rfl⟩
          go_wp2_with fail
          refine bodyPost_ret (node_result rfl rfl (QB.out _ _ _ _ _)) rfl ?_
          exact ⟨_, _, σ', rfl, ⟨k, num, nm, _, c, kids, rfl, rfl, QK.out _ _ _ _ _⟩, Q.out _ _ _ _ _, QF.out _ _ _ _ _, HFIN.out, hn⟩
        · have e1 : decide (PP.level op < lvl) = false := by simpa using hll
          have e2 : decide ((PP.level op : Int) < (lvl : Int)) = false := by simpa using hll
          have hgo2 : ∀ n σ2 t2 r, PP.binary E n (PP.level op + 1) (PP.adv σ') = some (σ2, t2) → PP.binLoop E n lvl σ2 (.node op 0 [] [.node k num nm kids, t2]) = some r → ∃ n', PP.binary E n' lvl σ = some r := by
            intro n σ2 t2 r hb hl
            exact HGO.out (n + 1) r (by rw [PP.binLoop, hm, hT, ho]; simp [hll, hb, hl])
          have HGO2 := Lib.hid hgo2
          have h2 : ∀ n, PS ((wr.drewN n).setCell ⟨b, 1, none⟩ (.int .i64 ((σ'.next : Int) + 1))) b X E (PP.adv σ') := fun n => (hp.drewN n).setNext (σ'.next + 1) (by omega)
          have hF2 : ∀ n, Fr b w ((wr.drewN n).setCell ⟨b, 1, none⟩ (.int .i64 ((σ'.next : Int) + 1))) := fun n => (hF.drewN n).set 1 _
          have hzR2 : ∀ n, Blk ((wr.drewN n).setCell ⟨b, 1, none⟩ (.int .i64 ((σ'.next : Int) + 1))) w.heap.size 36 #[.int .u8 0, .int .i64 0, .string ⟨#[]⟩, .slice none 0 0] := fun n => (hzR.drewN n).far (p := ⟨b, 1, none⟩) (by show w.heap.size ≠ b; omega) _
          have hzL2 : ∀ n, Blk ((wr.drewN n).setCell ⟨b, 1, none⟩ (.int .i64 ((σ'.next : Int) + 1))) L 36 #[.int .u8 (k : Int), .int .i64 num, .string ⟨nm.toArray⟩, .slice A kids.length c] := fun n => (hzL.drewN n).far (p := ⟨b, 1, none⟩) (by show L ≠ b; omega) _
          have hk2 : ∀ n, KidsC ((wr.drewN n).setCell ⟨b, 1, none⟩ (.int .i64 ((σ'.next : Int) + 1))) (fun g => w.heap.size ≤ g ∧ g ≠ w.heap.size ∧ g ≠ L) A kids := fun n => hk.keep (((Keep.refl _ _).drewN n).set (p := ⟨b, 1, none⟩) (by intro h; have : w.heap.size ≤ b := h.1; omega) _)
          have H2 := Lib.hid h2
          have HF2 := Lib.hid hF2
          have HZR2 := Lib.hid hzR2
          have HZL2 := Lib.hid hzL2
          have HK2 := Lib.hid hk2
          clear hmo hgo2 hm hp hF hzR hzL hk HGO hT ho hgx hlvl hA t0 t2 htl h2 hF2 hzR2 hzL2 hk2 hsy
          go_wp2_with fail
          refine HM.out.mono ?_
          rintro e w2 ⟨rfl, n2, rfl⟩
          go_wp2_with fail
          go_quiet (fail)
          go_wp2_with fail
          refine (HLV.out _ op (by omega)).mono ?_
          rintro e w2 ⟨rfl, rfl⟩
          go_wp2_with fail
          have hlw : IntKind.i64.wrap ((PP.level op : Int) + 1) = ((PP.level op + 1 : Nat) : Int) := by
            rw [show ((PP.level op : Int) + 1) = ((PP.level op + 1 : Nat) : Int) from by omega]
            exact IntWalk.i64_in _ (by omega)
          have hlw' : IntKind.i64.wrap ((PP.level op : Int) + 1) = (PP.level op : Int) + 1 := IntWalk.i64_in _ (by omega)
          have HLVG := Lib.hid (fun (W : World) (hW : Fr b w W) => level_any op W (HGX.out.fr hW).ops (by omega))
          have HBG := Lib.hid (fun (W : World) (hW : Fr b w W) (hP : PS W b X E (PP.adv σ')) => show Calls Tryz.prog 54 #[.pointer (some ⟨b, 0, none⟩), .int .i64 ((PP.level op : Int) + 1)] W _ from HIB.out (PP.adv σ') W (PP.level op + 1) (HGX.out.fr hW) hP (by simp [PP.adv]; omega))
          have hLb : L ≠ b := by omega
          clear HLV hlook
          have P2 := Lib.hid (H2.out (n2 + nq))
          have PF2 := Lib.hid (HF2.out (n2 + nq))
          have PR2 := Lib.hid (HZR2.out (n2 + nq))
          have PL2 := Lib.hid (HZL2.out (n2 + nq))
          have PK2 := Lib.hid (HK2.out (n2 + nq))
          clear H2 HF2 HZR2 HZL2 HK2
          generalize (wr.drewN (n2 + nq)).setCell ⟨b, 1, none⟩ (.int .i64 ((σ'.next : Int) + 1)) = wm at *
          obtain ⟨⟨s0, s1, s2, s3⟩, d0, d1, d2, d3⟩ := PL2.out.four
          go_region_law (first | (go_simp; go_at_call 72; refine (HLVG.out _ ?_).mono ?_; (first | exact PF2.out | exact PF2.out.drew | exact PF2.out.drewN _); rintro e w2 ⟨rfl, rfl⟩) | (go_simp; go_at_call 54; refine (HBG.out _ ?_ ?_).mono ?_; (first | exact PF2.out | exact PF2.out.drew | exact PF2.out.drewN _); (first | exact P2.out | exact P2.out.drew | exact P2.out.drewN _); rintro e w3 ⟨v3, t3, σ3, rfl, ⟨k3, num3, nm3, A3, c3, kids3, rfl, rfl, hk3⟩, h3, hf3, hr3, hn3⟩; have hL3 := Blk.fr2 PL2.out hf3 rfl hLb; have hL3lt := hL3.lt; obtain ⟨⟨a0, a1, a2, a3⟩, b0, b1, b2, b3⟩ := hL3.four))
          all_goals
            have HBS := Lib.hid (bin_step (lvl := lvl) (c3 := c3) (num3 := num3) (nm3 := nm3) (k3 := k3) (op := op) hbl hRL H0.out (by first | exact PF2.out | exact PF2.out.drew | exact PF2.out.drewN _) (by rfl) PR2.out PL2.out PK2.out hf3 h3 hk3 (by simp [PP.adv] at hn3; omega) (by obtain ⟨m3, hr3⟩ := hr3; intro n r hr; exact HGO2.out (max m3 n) _ _ _ (PP.binary_le E (Nat.le_max_left _ _) hr3) (PP.binLoop_le E (Nat.le_max_right _ _) hr)) rfl)
            have hnn : σ'.next < σ3.next := by simp [PP.adv] at hn3; omega
            clear hk3 h3 hf3 hr3 P2 PF2 PR2 PL2 PK2
            go_wp2_with fail
            go_roundw
            case rel => exact HBS.out.2
            case measure =>
              have e3 := nextOf_ps HBS.out.1
              rw [e3, hmeas]
              omega
end
end Go.Proofs.YtglaecalbamnkaaGreatDoor
/- The contract of the parser's expression; the five readers of expressions tied. -/
namespace Go.Proofs.YtglaecalbamnkaaGreatDoor
open Go.RowKit Go.Maps
open PP (Tree)

section
set_option maxHeartbeats 1000000
set_option maxRecDepth 100000
variable {b : Nat} {X : Loc} {E : PP.Env} {σ : PP.St}
theorem expression_of (w : World) (hg : Gx w b X) (h : PS w b X E σ)
    (HB : ∀ w', Gx w' b X → PS w' b X E σ → Calls Tryz.prog 54 #[.pointer (some ⟨b, 0, none⟩), .int .i64 0] w' (TreeEnd b X E σ w' fun σ'' t => ∃ n, PP.binary E n 0 σ = some (σ'', t))) :
    Calls Tryz.prog 26 #[.pointer (some ⟨b, 0, none⟩)] w (TreeEnd b X E σ w fun σ' t => ∃ n, PP.binary E n 0 σ = some (σ', t)) := by
  have hbl := h.lt
  have hz := Blk.new w 36 #[.int .u8 0, .int .i64 0, .string ⟨#[]⟩, .slice none 0 0]
  have h0 := h.alloc (.cells #[.int .u8 0, .int .i64 0, .string ⟨#[]⟩, .slice none 0 0] 36)
  have hf0 := (Fr.refl b w).alloc (.cells #[.int .u8 0, .int .i64 0, .string ⟨#[]⟩, .slice none 0 0] 36)
  have hg0 := hg.fr hf0
  have hb0 := HB _ hg0 h0
  obtain ⟨w0, hW⟩ : ∃ w0, w.alloc (.cells #[.int .u8 0, .int .i64 0, .string ⟨#[]⟩, .slice none 0 0] 36) = w0 := ⟨_, rfl⟩
  rw [hW] at hz h0 hf0 hg0 hb0
  have HW := Lib.hid hW
  have H0 := Lib.hid h
  have HF0 := Lib.hid hf0
  have HZ := Lib.hid hz
  have HB0 := Lib.hid hb0
  clear hW h hg h0 hf0 hg0 hz HB hb0
  go_enter Tryz.func26, Tryz.ntmps26
  go_wp2_with fail
  rw [HW.out]
  refine HB0.out.mono ?_
  rintro e w1 ⟨v1, t1, σ1, rfl, hN1, h1, hf1, hr1, hn1⟩
  obtain ⟨k1, num1, nm1, A1, c1, kids1, rfl, rfl, hk1⟩ := hN1
  have hF1 := HF0.out.trans hf1
  have hz1 := HZ.out.fr hf1 (by omega)
  have hk1' : KidsC w1 (fun g => w.heap.size ≤ g ∧ g ≠ w.heap.size) A1 kids1 := hk1.weak (fun g hg hlt => by
    have h1 : w0.heap.size ≤ g := hg
    have h2 := HZ.out.lt
    omega)
  obtain ⟨⟨r0, r1, r2, r3⟩, q0, q1, q2, q3⟩ := hz1.four
  have Q := Lib.hid (fun v0 v1 v2 v3 => H0.out.st4 hF1 h1 (Nat.le_refl _) v0 v1 v2 v3)
  have QF := Lib.hid (fun v0 v1 v2 v3 => hF1.st4 (Nat.le_refl _) v0 v1 v2 v3)
  have QB := Lib.hid (fun v0 v1 v2 v3 => hz1.st4 v0 v1 v2 v3)
  have QK := Lib.hid (fun v0 v1 v2 v3 => (hk1'.keep ((Keep.refl _ _).st4 (g := w.heap.size) (by intro h; exact h.2 rfl) v0 v1 v2 v3)).weak (Z' := (w.heap.size ≤ ·)) (fun g hg _ => hg.1))
  have HR := Lib.hid hr1
  clear hk1 hk1' hz1 hF1 hf1 h1 hr1
  go_wp2_with fail
  refine bodyPost_ret (node_result rfl rfl (QB.out _ _ _ _)) rfl ?_
  exact ⟨_, _, σ1, rfl, ⟨k1, num1, nm1, _, c1, kids1, rfl, rfl, QK.out _ _ _ _⟩, Q.out _ _ _ _, QF.out _ _ _ _, HR.out, hn1⟩
end

section
variable {b : Nat} {X : Loc} {E : PP.Env}
theorem exprs_upto (d : Nat) : ∀ (σ : PP.St) (w : World), Gx w b X → PS w b X E σ → E.ts.length - σ.next ≤ d →
    (Calls Tryz.prog 71 #[.pointer (some ⟨b, 0, none⟩)] w (TreeEnd b X E σ w fun σ' t => ∃ n, PP.unary E n σ = some (σ', t))) ∧
    (∀ l : Nat, Calls Tryz.prog 54 #[.pointer (some ⟨b, 0, none⟩), .int .i64 (l : Int)] w (TreeEnd b X E σ w fun σ' t => ∃ n, PP.binary E n l σ = some (σ', t))) ∧
    Calls Tryz.prog 26 #[.pointer (some ⟨b, 0, none⟩)] w (TreeEnd b X E σ w fun σ' t => ∃ n, PP.binary E n 0 σ = some (σ', t)) := by
  induction d using Nat.strongRecOn with
  | ind d ih =>
    intro σ w hg h hd
    have lift : ∀ (σ' : PP.St) (w' : World), PS w' b X E σ' → σ.next < σ'.next → E.ts.length - σ'.next < d ∧ E.ts.length - σ'.next ≤ E.ts.length - σ'.next := by
      intro σ' w' h' hn
      have := h'.next
      exact ⟨by omega, Nat.le_refl _⟩
    have IH : ∀ σ' w', Gx w' b X → PS w' b X E σ' → σ.next < σ'.next → Calls Tryz.prog 26 #[.pointer (some ⟨b, 0, none⟩)] w' (TreeEnd b X E σ' w' fun σ'' t => ∃ n, PP.binary E n 0 σ' = some (σ'', t)) :=
      fun σ' w' g' h' hn => (ih _ (lift σ' w' h' hn).1 σ' w' g' h' (Nat.le_refl _)).2.2
    have HU : ∀ w', Gx w' b X → PS w' b X E σ → Calls Tryz.prog 71 #[.pointer (some ⟨b, 0, none⟩)] w' (TreeEnd b X E σ w' fun σ'' t => ∃ n, PP.unary E n σ = some (σ'', t)) :=
      fun w' g' h' => unary_any w' g' h' IH (fun σ' w' g' h' hn => (ih _ (lift σ' w' h' hn).1 σ' w' g' h' (Nat.le_refl _)).1)
    have HB : ∀ w' (l : Nat), Gx w' b X → PS w' b X E σ → Calls Tryz.prog 54 #[.pointer (some ⟨b, 0, none⟩), .int .i64 (l : Int)] w' (TreeEnd b X E σ w' fun σ'' t => ∃ n, PP.binary E n l σ = some (σ'', t)) :=
      fun w' l g' h' => binary_any l w' g' h' HU (fun σ' w' l' g' h' hn => (ih _ (lift σ' w' h' hn).1 σ' w' g' h' (Nat.le_refl _)).2.1 l')
    exact ⟨HU w hg h, fun l => HB w l hg h, expression_of w hg h (fun w' g' h' => HB w' 0 g' h')⟩
theorem expression_any (σ : PP.St) (w : World) (hg : Gx w b X) (h : PS w b X E σ) :
    Calls Tryz.prog 26 #[.pointer (some ⟨b, 0, none⟩)] w (TreeEnd b X E σ w fun σ' t => ∃ n, PP.binary E n 0 σ = some (σ', t)) := (exprs_upto _ σ w hg h (Nat.le_refl _)).2.2
theorem place_all (σ : PP.St) (w : World) (hg : Gx w b X) (h : PS w b X E σ) :
    Calls Tryz.prog 88 #[.pointer (some ⟨b, 0, none⟩)] w (TreeEnd b X E σ w fun σ' t => ∃ n, PP.place E n σ = some (σ', t)) := place_any w hg h (fun σ' w' g' h' _ => expression_any σ' w' g' h')
end
end Go.Proofs.YtglaecalbamnkaaGreatDoor
/- What a reader of the parser knows midway, in one bundle: the parser's state, its tables, its own blocks, the trees that it holds. -/
namespace Go.Proofs.YtglaecalbamnkaaGreatDoor
open Go.RowKit Go.Maps
open PP (Tree)

abbrev OwnB := Nat × TypeId × Array Value
def NoZ : Nat → Prop := fun _ => False
structure Inv (w0 : World) (Z : Nat → Prop) (b : Nat) (X : Loc) (E : PP.Env) (σ : PP.St) (bl : List OwnB) (ks : List (Option Addr × List Tree)) (W : World) : Prop where
  ps : PS W b X E σ
  gx0 : Gx w0 b X
  ps0 : ∃ σ0, PS w0 b X E σ0
  fr : Fr b w0 W
  zb : ¬ Z b
  own : ∀ x ∈ bl, Blk W x.1 x.2.1 x.2.2 ∧ w0.heap.size ≤ x.1
  nd : (bl.map (·.1)).Nodup
  ks : ∀ x ∈ ks, KidsC W (fun g => (Z g ∨ w0.heap.size ≤ g) ∧ g ∉ bl.map (·.1)) x.1 x.2
section
variable {w0 W W' : World} {Z : Nat → Prop} {b : Nat} {X : Loc} {E : PP.Env} {σ σ' : PP.St} {bl : List OwnB} {ks : List (Option Addr × List Tree)}
theorem Inv.start (hp : PS W b X E σ) (hg : Gx W b X) (hz : ¬ Z b) : Inv W Z b X E σ [] [] W := ⟨hp, hg, ⟨σ, hp⟩, Fr.refl b W, hz, fun _ h => by simp at h, by simp, fun _ h => by simp at h⟩
theorem Inv.lt (h : Inv w0 Z b X E σ bl ks W) : b < w0.heap.size := by obtain ⟨_, h0⟩ := h.ps0; exact h0.lt
theorem Inv.gx (h : Inv w0 Z b X E σ bl ks W) : Gx W b X := h.gx0.fr h.fr
/-- A frame around the parser's block keeps all. -/
theorem Inv.call (h : Inv w0 Z b X E σ bl ks W) (hp : PS W' b X E σ') (hf : Fr b W W') : Inv w0 Z b X E σ' bl ks W' := by
  have hlt := h.lt
  refine ⟨hp, h.gx0, h.ps0, h.fr.trans hf, h.zb, fun x hx => ?_, h.nd, fun x hx => ?_⟩
  · obtain ⟨h1, h2⟩ := h.own x hx
    exact ⟨h1.fr hf (by omega), h2⟩
  · exact (h.ks x hx).keep ((Keep.refl _ _).fr hf (by intro hz; rcases hz.1 with hz | hz; exact h.zb hz; omega))
/-- The same, where the call began in a world that differs in its draws alone. -/
theorem Inv.callA {W1 : World} (h : Inv w0 Z b X E σ bl ks W) (hp : PS W' b X E σ') (hf : Fr b W1 W') (h1 : W1.os = W.os) (h2 : W1.tape = W.tape) (h3 : W1.output = W.output) (h4 : W1.heap = W.heap) : Inv w0 Z b X E σ' bl ks W' :=
  h.call hp ((⟨h1, h2, h3, by rw [h4]; exact Nat.le_refl _, fun _ _ _ => by rw [h4]⟩ : Fr b W W1).trans hf)
theorem Inv.drewN (h : Inv w0 Z b X E σ bl ks W) (n : Nat) : Inv w0 Z b X E σ bl ks (W.drewN n) := h.call (h.ps.drewN n) ((Fr.refl b W).drewN n)
theorem Inv.drew (h : Inv w0 Z b X E σ bl ks W) : Inv w0 Z b X E σ bl ks W.drew := h.call h.ps.drew (Fr.refl b W).drew
/-- A call that hands a tree back. -/
theorem Inv.tree (h : Inv w0 Z b X E σ bl ks W) (hp : PS W' b X E σ') (hf : Fr b W W') {A : Option Addr} {kids : List Tree} (hk : KidsC W' (W.heap.size ≤ ·) A kids) : Inv w0 Z b X E σ' bl ((A, kids) :: ks) W' := by
  have hc := h.call hp hf
  refine ⟨hc.ps, hc.gx0, hc.ps0, hc.fr, hc.zb, hc.own, hc.nd, fun x hx => ?_⟩
  rcases List.mem_cons.1 hx with rfl | hx
  · refine hk.weak (fun g hg _ => ⟨.inr (Nat.le_trans h.fr.size hg), fun hm => ?_⟩)
    obtain ⟨y, hy, rfl⟩ := List.mem_map.1 hm
    have := (h.own y hy).1.lt
    omega
  · exact hc.ks x hx
/-- A new block of the reader's own. -/
theorem Inv.alloc (h : Inv w0 Z b X E σ bl ks W) (cs : Array Value) (t : TypeId) {n : Nat} (hn : W.heap.size = n) : Inv w0 Z b X E σ ((n, t, cs) :: bl) ks (W.alloc (.cells cs t)) := by
  subst hn
  have hc := h.call (h.ps.alloc (.cells cs t)) ((Fr.refl b W).alloc (.cells cs t))
  refine ⟨hc.ps, hc.gx0, hc.ps0, hc.fr, hc.zb, fun x hx => ?_, ?_, fun x hx => ?_⟩
  · rcases List.mem_cons.1 hx with rfl | hx
    · exact ⟨Blk.new W t cs, h.fr.size⟩
    · exact hc.own x hx
  · simp only [List.map_cons, List.nodup_cons]
    refine ⟨fun hm => ?_, h.nd⟩
    obtain ⟨y, hy, hyy⟩ := List.mem_map.1 hm
    have := (h.own y hy).1.lt
    omega
  · refine ((h.ks x hx).weak (Z' := fun g => (Z g ∨ w0.heap.size ≤ g) ∧ g ∉ List.map (·.1) ((W.heap.size, t, cs) :: bl)) (fun g hg hlt => ⟨hg.1, ?_⟩)).keep ((Keep.refl _ _).alloc _)
    simp only [List.map_cons, List.mem_cons, not_or]
    exact ⟨by omega, hg.2⟩
/-- A new block that is not the reader's own. -/
theorem Inv.more (h : Inv w0 Z b X E σ bl ks W) (o : Obj) : Inv w0 Z b X E σ bl ks (W.alloc o) := h.call (h.ps.alloc o) ((Fr.refl b W).alloc o)
/-- The next index is stored. -/
theorem Inv.next (h : Inv w0 Z b X E σ bl ks W) (k : Nat) (hk : k ≤ E.ts.length) : Inv w0 Z b X E ⟨k, σ.off, σ.err⟩ bl ks (W.setCell ⟨b, 1, none⟩ (.int .i64 (k : Int))) :=
  h.call (h.ps.setNext k hk) ((Fr.refl b W).set 1 _)
theorem Inv.adv (h : Inv w0 Z b X E σ bl ks W) (hn : σ.next < E.ts.length) : Inv w0 Z b X E (PP.adv σ) bl ks (W.setCell ⟨b, 1, none⟩ (.int .i64 ((σ.next : Int) + 1))) := h.next (σ.next + 1) (by omega)
/-- A store into a block of the reader's own. -/
theorem Inv.set {l1 l2 : List OwnB} {g : Nat} {t : TypeId} {cs : Array Value} (h : Inv w0 Z b X E σ (l1 ++ (g, t, cs) :: l2) ks W) (i : Nat) (v : Value) : Inv w0 Z b X E σ (l1 ++ (g, t, cs.setIfInBounds i v) :: l2) ks (W.setCell ⟨g, i, none⟩ v) := by
  have hg := h.own (g, t, cs) (by simp)
  have hlt := h.lt
  have hgl : w0.heap.size ≤ g := hg.2
  have hmap : (l1 ++ (g, t, cs.setIfInBounds i v) :: l2).map (·.1) = (l1 ++ (g, t, cs) :: l2).map (·.1) := by simp
  have hnd := h.nd
  obtain ⟨σ0, h0⟩ := h.ps0
  refine ⟨h0.far h.fr h.ps (p := ⟨g, i, none⟩) hgl v, h.gx0, h.ps0, h.fr.far (p := ⟨g, i, none⟩) hgl v, h.zb, fun x hx => ?_, by rw [hmap]; exact hnd, fun x hx => ?_⟩
  · rw [List.map_append, List.map_cons, List.nodup_append] at hnd
    obtain ⟨_, hn2, hn3⟩ := hnd
    rw [List.nodup_cons] at hn2
    rcases List.mem_append.1 hx with hx | hx
    · have hne : x.1 ≠ g := hn3 x.1 (List.mem_map_of_mem hx) g (by simp)
      obtain ⟨k1, k2⟩ := h.own x (by simp [hx])
      exact ⟨k1.far (p := ⟨g, i, none⟩) hne v, k2⟩
    · rcases List.mem_cons.1 hx with rfl | hy
      · exact ⟨hg.1.set_ i v, hgl⟩
      · have hne : x.1 ≠ g := fun e => hn2.1 (e ▸ List.mem_map.2 ⟨x, hy, rfl⟩)
        obtain ⟨k1, k2⟩ := h.own x (by simp [hy])
        exact ⟨k1.far (p := ⟨g, i, none⟩) hne v, k2⟩
  · rw [hmap]
    exact (h.ks x hx).keep ((Keep.refl _ _).set (p := ⟨g, i, none⟩) (by intro hz; exact hz.2 (by simp)) v)
variable {g g1 g2 : Nat} {t t1 t2 : TypeId} {cs c1 c2 : Array Value}
theorem Inv.set0 (h : Inv w0 Z b X E σ ((g, t, cs) :: bl) ks W) (i : Nat) (v : Value) : Inv w0 Z b X E σ ((g, t, cs.setIfInBounds i v) :: bl) ks (W.setCell ⟨g, i, none⟩ v) := Inv.set (l1 := []) h i v
theorem Inv.set1 (h : Inv w0 Z b X E σ ((g1, t1, c1) :: (g, t, cs) :: bl) ks W) (i : Nat) (v : Value) : Inv w0 Z b X E σ ((g1, t1, c1) :: (g, t, cs.setIfInBounds i v) :: bl) ks (W.setCell ⟨g, i, none⟩ v) := Inv.set (l1 := [(g1, t1, c1)]) h i v
theorem Inv.set2 (h : Inv w0 Z b X E σ ((g1, t1, c1) :: (g2, t2, c2) :: (g, t, cs) :: bl) ks W) (i : Nat) (v : Value) : Inv w0 Z b X E σ ((g1, t1, c1) :: (g2, t2, c2) :: (g, t, cs.setIfInBounds i v) :: bl) ks (W.setCell ⟨g, i, none⟩ v) := Inv.set (l1 := [(g1, t1, c1), (g2, t2, c2)]) h i v
variable {a0 a1 a2 a3 : Value}
theorem Inv.st0 (h : Inv w0 Z b X E σ ((g, t, #[a0, a1, a2, a3]) :: bl) ks W) (v0 v1 v2 v3 : Value) : Inv w0 Z b X E σ ((g, t, #[v0, v1, v2, v3]) :: bl) ks ((((W.setCell ⟨g, 0, none⟩ v0).setCell ⟨g, 1, none⟩ v1).setCell ⟨g, 2, none⟩ v2).setCell ⟨g, 3, none⟩ v3) :=
  (((h.set0 0 v0).set0 1 v1).set0 2 v2).set0 3 v3
theorem Inv.st1 (h : Inv w0 Z b X E σ ((g1, t1, c1) :: (g, t, #[a0, a1, a2, a3]) :: bl) ks W) (v0 v1 v2 v3 : Value) : Inv w0 Z b X E σ ((g1, t1, c1) :: (g, t, #[v0, v1, v2, v3]) :: bl) ks ((((W.setCell ⟨g, 0, none⟩ v0).setCell ⟨g, 1, none⟩ v1).setCell ⟨g, 2, none⟩ v2).setCell ⟨g, 3, none⟩ v3) :=
  (((h.set1 0 v0).set1 1 v1).set1 2 v2).set1 3 v3
theorem Inv.st2 (h : Inv w0 Z b X E σ ((g1, t1, c1) :: (g2, t2, c2) :: (g, t, #[a0, a1, a2, a3]) :: bl) ks W) (v0 v1 v2 v3 : Value) : Inv w0 Z b X E σ ((g1, t1, c1) :: (g2, t2, c2) :: (g, t, #[v0, v1, v2, v3]) :: bl) ks ((((W.setCell ⟨g, 0, none⟩ v0).setCell ⟨g, 1, none⟩ v1).setCell ⟨g, 2, none⟩ v2).setCell ⟨g, 3, none⟩ v3) :=
  (((h.set2 0 v0).set2 1 v1).set2 2 v2).set2 3 v3
theorem Inv.blk (h : Inv w0 Z b X E σ bl ks W) {x : OwnB} (hx : x ∈ bl) : Blk W x.1 x.2.1 x.2.2 := (h.own x hx).1
theorem Inv.b0 (h : Inv w0 Z b X E σ ((g, t, cs) :: bl) ks W) : Blk W g t cs := h.blk (x := (g, t, cs)) (by simp)
theorem Inv.b1 (h : Inv w0 Z b X E σ ((g1, t1, c1) :: (g, t, cs) :: bl) ks W) : Blk W g t cs := h.blk (x := (g, t, cs)) (by simp)
theorem Inv.b2 (h : Inv w0 Z b X E σ ((g1, t1, c1) :: (g2, t2, c2) :: (g, t, cs) :: bl) ks W) : Blk W g t cs := h.blk (x := (g, t, cs)) (by simp)
theorem Inv.ne (h : Inv w0 Z b X E σ bl ks W) {x : OwnB} (hx : x ∈ bl) : x.1 ≠ b ∧ b ≠ x.1 := by
  have h1 := (h.own x hx).2
  have h2 := h.lt
  exact ⟨by omega, by omega⟩
/-- A block is dropped from the list: it is not written any more. -/
theorem Inv.drop (h : Inv w0 Z b X E σ ((g, t, cs) :: bl) ks W) : Inv w0 Z b X E σ bl ks W := by
  refine ⟨h.ps, h.gx0, h.ps0, h.fr, h.zb, fun x hx => h.own x (by simp [hx]), ?_, fun x hx => (h.ks x hx).weak (fun g hg _ => ⟨hg.1, fun hm => hg.2 ?_⟩)⟩
  · have := h.nd
    rw [List.map_cons, List.nodup_cons] at this
    exact this.2
  · rw [List.map_cons]; exact List.mem_cons_of_mem _ hm
/-- More trees are known of the same world. -/
theorem Inv.addKs (h : Inv w0 Z b X E σ bl ks W) {A : Option Addr} {kids : List Tree} (hk : KidsC W (fun g => (Z g ∨ w0.heap.size ≤ g) ∧ g ∉ bl.map (·.1)) A kids) : Inv w0 Z b X E σ bl ((A, kids) :: ks) W :=
  ⟨h.ps, h.gx0, h.ps0, h.fr, h.zb, h.own, h.nd, fun x hx => by
    rcases List.mem_cons.1 hx with rfl | hx
    · exact hk
    · exact h.ks x hx⟩
theorem Inv.fresh (h : Inv w0 Z b X E σ bl ks W) : (Z W.heap.size ∨ w0.heap.size ≤ W.heap.size) ∧ W.heap.size ∉ bl.map (·.1) :=
  ⟨.inr h.fr.size, fun hm => by
    obtain ⟨y, hy, hyy⟩ := List.mem_map.1 hm
    have := (h.own y hy).1.lt
    omega⟩
/-- A new array of nodes out of trees that are held. -/
theorem Inv.kids1 (h : Inv w0 Z b X E σ bl ks W) {k : Nat} {num : Int} {nm : List UInt8} {A : Option Addr} {c : Nat} {kids : List Tree} (hm : (A, kids) ∈ ks) {n : Nat} (hn : W.heap.size = n) :
    Inv w0 Z b X E σ bl ((some ⟨n, 0, none⟩, [.node k num nm kids]) :: ks) (W.alloc (.cells #[.int .u8 (k : Int), .int .i64 num, .string ⟨nm.toArray⟩, .slice A kids.length c] 36)) := by
  subst hn
  exact (h.more _).addKs (kids_one h.fresh (h.ks _ hm) _)
theorem Inv.kids2 (h : Inv w0 Z b X E σ bl ks W) {k : Nat} {num : Int} {nm : List UInt8} {A : Option Addr} {c : Nat} {kids : List Tree} (hm : (A, kids) ∈ ks)
    {k' : Nat} {num' : Int} {nm' : List UInt8} {A' : Option Addr} {c' : Nat} {kids' : List Tree} (hm' : (A', kids') ∈ ks) {n : Nat} (hn : W.heap.size = n) :
    Inv w0 Z b X E σ bl ((some ⟨n, 0, none⟩, [.node k num nm kids, .node k' num' nm' kids']) :: ks) (W.alloc (.cells #[.int .u8 (k : Int), .int .i64 num, .string ⟨nm.toArray⟩, .slice A kids.length c, .int .u8 (k' : Int), .int .i64 num', .string ⟨nm'.toArray⟩, .slice A' kids'.length c'] 36)) := by
  subst hn
  exact (h.more _).addKs (kids_two h.fresh (h.ks _ hm) (h.ks _ hm') _)
/-- The end of a reader. -/
theorem Inv.done {w : World} (h : Inv w NoZ b X E σ' bl ks W) {A : Option Addr} {kids : List Tree} (hm : (A, kids) ∈ ks) {R : PP.St → Tree → Prop} {k : Nat} {num : Int} {nm : List UInt8} {c : Nat} (hR : R σ' (.node k num nm kids)) (hn : σ.next ≤ σ'.next) :
    TreeEnd b X E σ w R (.returned (.agg #[.int .u8 (k : Int), .int .i64 num, .string ⟨nm.toArray⟩, .slice A kids.length c])) W :=
  ⟨_, _, σ', rfl, ⟨k, num, nm, A, c, kids, rfl, rfl, (h.ks _ hm).weak (fun _ hg _ => hg.1.resolve_left (fun h => h))⟩, h.ps, h.fr, hR, hn⟩
end
-- The small contracts, over the bundle.
section
variable {w0 : World} {Z : Nat → Prop} {b : Nat} {X : Loc} {E : PP.Env} {σ : PP.St}
theorem require_inv (s : ByteArray) {bl : List OwnB} {ks : List (Option Addr × List Tree)} {W : World} (h : Inv w0 Z b X E σ bl ks W) :
    Calls Tryz.prog 39 #[.pointer (some ⟨b, 0, none⟩), .string s] W fun r w' => r = .returned (.tuple #[]) ∧ Inv w0 Z b X E (PP.require E σ s.data.toList) bl ks w' :=
  (require_any s W h.ps).mono fun _ _ ⟨h1, h2, h3⟩ => ⟨h1, h.call h2 h3⟩
theorem numP_inv (low high : Int) (hl0 : 0 ≤ low) (hh0 : 0 ≤ high) (hh : high ≤ 2147483647) {bl : List OwnB} {ks : List (Option Addr × List Tree)} {W : World} (h : Inv w0 Z b X E σ bl ks W) :
    Calls Tryz.prog 40 #[.pointer (some ⟨b, 0, none⟩), .int .i64 low, .int .i64 high] W fun r w' => r = .returned (.int .i64 (PP.numP E σ low high).2) ∧ Inv w0 Z b X E (PP.numP E σ low high).1 bl ks w' :=
  (numP_any low high W hl0 hh0 hh h.ps).mono fun _ _ ⟨h1, h2, h3⟩ => ⟨h1, h.call h2 h3⟩
theorem nameP_inv {bl : List OwnB} {ks : List (Option Addr × List Tree)} {W : World} (h : Inv w0 Z b X E σ bl ks W) :
    Calls Tryz.prog 38 #[.pointer (some ⟨b, 0, none⟩)] W fun r w' => r = .returned (.string ⟨(PP.nameP E σ).2.toArray⟩) ∧ Inv w0 Z b X E (PP.nameP E σ).1 bl ks w' :=
  (nameP_any W h.gx.gl h.ps).mono fun _ _ ⟨h1, h2, h3⟩ => ⟨h1, h.call h2 h3⟩
end
end Go.Proofs.YtglaecalbamnkaaGreatDoor
