/- The contract of ast.Same at two equal programs. -/
import Derived.Test.YtfakdbnfpdalhaaGreatDoorSame0
import Derived.Test.YtfakdbnfpdalhaaGreatDoorEq
namespace Go.Proofs.YtfakdbnfpdalhaaGreatDoor
open Go.RowKit Go.Maps
open PP (Tree ArrD TaskD ProgD)
/-- A slice value reads as a list of cells. -/
def Row (w : World) (A : Option Addr) (xs : List Value) : Prop := xs ≠ [] → ∃ b o, A = some ⟨b, o, none⟩ ∧ b < w.heap.size ∧ ∀ i v, xs[i]? = some v → w.cell? ⟨b, o + i, none⟩ = some v
theorem Row.below {w w' : World} {A : Option Addr} {xs : List Value} (h : Row w A xs) (hb : Below w.heap.size w w') : Row w' A xs := fun hn => by
  obtain ⟨b, o, rfl, hlt, hc⟩ := h hn
  exact ⟨b, o, rfl, Nat.lt_of_lt_of_le hlt hb.size, fun i v hi => (hb.cell (p := ⟨b, o + i, none⟩) hlt).trans (hc i v hi)⟩
theorem arr_at {ar : List ArrD} {i : Nat} {a : ArrD} (h : ar[i]? = some a) : (arrCells ar)[i * 2]? = some (.string ⟨a.name.toArray⟩) ∧ (arrCells ar)[i * 2 + 1]? = some (.int .i64 a.len) := by
  induction ar generalizing i with
  | nil => simp at h
  | cons b ar ih =>
    cases i with
    | zero => simp at h; subst h; simp [arrCells]
    | succ i =>
      obtain ⟨h0, h1⟩ := ih (i := i) (by simpa using h)
      have e : arrCells (b :: ar) = [Value.string ⟨b.name.toArray⟩, Value.int .i64 b.len] ++ arrCells ar := by simp [arrCells]
      rw [e]
      refine ⟨?_, ?_⟩
      · rw [List.getElem?_append_right (by simp; omega), show (i + 1) * 2 - [Value.string ⟨b.name.toArray⟩, Value.int .i64 b.len].length = i * 2 from by simp; omega]; exact h0
      · rw [List.getElem?_append_right (by simp; omega), show (i + 1) * 2 + 1 - [Value.string ⟨b.name.toArray⟩, Value.int .i64 b.len].length = i * 2 + 1 from by simp; omega]; exact h1
theorem Row.arr {w : World} {A : Option Addr} {ar : List ArrD} (h : Row w A (arrCells ar)) (hn : ar ≠ []) : ∃ b o, A = some ⟨b, o, none⟩ ∧ b < w.heap.size ∧ ∀ i a, ar[i]? = some a → w.cell? ⟨b, o + i * 2, none⟩ = some (.string ⟨a.name.toArray⟩) ∧ w.cell? ⟨b, o + i * 2 + 1, none⟩ = some (.int .i64 a.len) := by
  obtain ⟨b, o, h1, h2, h3⟩ := h (by cases ar with | nil => exact absurd rfl hn | cons a ar => simp [arrCells])
  exact ⟨b, o, h1, h2, fun i a hi => ⟨h3 _ _ (arr_at hi).1, h3 _ _ (arr_at hi).2⟩⟩
theorem Row.str {w : World} {A : Option Addr} {vs : List (List UInt8)} (h : Row w A (strCells vs)) (hn : vs ≠ []) : ∃ b o, A = some ⟨b, o, none⟩ ∧ b < w.heap.size ∧ ∀ i a, vs[i]? = some a → w.cell? ⟨b, o + i, none⟩ = some (.string ⟨a.toArray⟩) := by
  obtain ⟨b, o, h1, h2, h3⟩ := h (by cases vs with | nil => exact absurd rfl hn | cons a ar => simp [strCells])
  exact ⟨b, o, h1, h2, fun i a hi => h3 _ _ (by simp [strCells, hi])⟩
section
set_option maxHeartbeats 2000000
set_option maxRecDepth 100000
theorem equal_arrays {ar : List ArrD} {A A' : Option Addr} {c c' : Nat} {w : World} {n : Nat} (hN : ar.length = n) (h : Row w A (arrCells ar)) (h' : Row w A' (arrCells ar)) (hl : n ≤ 100000) :
    Calls Tryz.prog 66 #[.slice A n c, .slice A' n c'] w fun e w' => e = .returned (.bool true) ∧ Below w.heap.size w w' := by
  have HN := Lib.hid hN
  have HR := Lib.hid h
  have HR' := Lib.hid h'
  clear hN h h'
  go_enter Tryz.func66, Tryz.ntmps66
  go_wp2_with fail
  go_loopw [13] (fun i wr => ∃ j : Nat, j ≤ n ∧ i = .int .i64 (j : Int) ∧ Below w.heap.size w wr) (fun i _ => n - (intOf i).toNat)
  case atStart => exact ⟨0, Nat.zero_le _, rfl, Below.refl _ _⟩
  case round =>
    obtain ⟨j, hj, rfl, hbr⟩ := hrel
    by_cases hlt : j < n
    · have hne : ar ≠ [] := by intro e; have := HN.out; rw [e] at this; simp at this; omega
      obtain ⟨b, o, rfl, hb, hc⟩ := HR.out.arr hne
      obtain ⟨b', o', rfl, hb', hc'⟩ := HR'.out.arr hne
      obtain ⟨a, ha⟩ : ∃ a, ar[j]? = some a := ⟨_, List.getElem?_eq_getElem (by rw [HN.out]; exact hlt)⟩
      have x0 := (hbr.cell (p := ⟨b, o + j * 2, none⟩) hb).trans (hc j a ha).1
      have x1 := (hbr.cell (p := ⟨b, o + j * 2 + 1, none⟩) hb).trans (hc j a ha).2
      have y0 := (hbr.cell (p := ⟨b', o' + j * 2, none⟩) hb').trans (hc' j a ha).1
      have y1 := (hbr.cell (p := ⟨b', o' + j * 2 + 1, none⟩) hb').trans (hc' j a ha).2
      have p1 : (0 : Int) ≤ (j : Int) := by omega
      have p2 : (j : Int) < (n : Int) := by omega
      clear hc hc' ha hne
      go_wp2_with fail
      go_quiet (fail)
      go_wp2_with fail
      go_roundw
      case rel => exact ⟨j + 1, by omega, by go_num, below_drewN hbr _⟩
      case measure => simp [intOf]; omega
    · go_wp2_with fail
      go_ret
      exact ⟨rfl, hbr⟩
theorem equal_strings {ar : List (List UInt8)} {A A' : Option Addr} {c c' : Nat} {w : World} {n : Nat} (hN : ar.length = n) (h : Row w A (strCells ar)) (h' : Row w A' (strCells ar)) (hl : n ≤ 100000) :
    Calls Tryz.prog 118 #[.slice A n c, .slice A' n c'] w fun e w' => e = .returned (.bool true) ∧ Below w.heap.size w w' := by
  have HN := Lib.hid hN
  have HR := Lib.hid h
  have HR' := Lib.hid h'
  clear hN h h'
  go_enter Tryz.func118, Tryz.ntmps118
  go_wp2_with fail
  go_loopw [13] (fun i wr => ∃ j : Nat, j ≤ n ∧ i = .int .i64 (j : Int) ∧ Below w.heap.size w wr) (fun i _ => n - (intOf i).toNat)
  case atStart => exact ⟨0, Nat.zero_le _, rfl, Below.refl _ _⟩
  case round =>
    obtain ⟨j, hj, rfl, hbr⟩ := hrel
    by_cases hlt : j < n
    · have hne : ar ≠ [] := by intro e; have := HN.out; rw [e] at this; simp at this; omega
      obtain ⟨b, o, rfl, hb, hc⟩ := HR.out.str hne
      obtain ⟨b', o', rfl, hb', hc'⟩ := HR'.out.str hne
      obtain ⟨a, ha⟩ : ∃ a, ar[j]? = some a := ⟨_, List.getElem?_eq_getElem (by rw [HN.out]; exact hlt)⟩
      have x0 := (hbr.cell (p := ⟨b, o + j, none⟩) hb).trans (hc j a ha)
      have y0 := (hbr.cell (p := ⟨b', o' + j, none⟩) hb').trans (hc' j a ha)
      have p1 : (0 : Int) ≤ (j : Int) := by omega
      have p2 : (j : Int) < (n : Int) := by omega
      clear hc hc' ha hne
      go_wp2_with fail
      go_quiet (fail)
      go_wp2_with fail
      go_roundw
      case rel => exact ⟨j + 1, by omega, by go_num, below_drewN hbr _⟩
      case measure => simp [intOf]; omega
    · go_wp2_with fail
      go_ret
      exact ⟨rfl, hbr⟩
end
end Go.Proofs.YtfakdbnfpdalhaaGreatDoor
