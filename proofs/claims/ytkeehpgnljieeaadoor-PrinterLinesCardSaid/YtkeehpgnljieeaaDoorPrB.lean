/- The contracts of the printer's lines, operands and expressions. -/
import Derived.Test.YtkeehpgnljieeaaDoorPrA
import Derived.Deep.RegionHeld3
import Derived.BigRegion
namespace Go.Proofs.YtkeehpgnljieeaaDoor
open Go.RowKit
open PP (Tree)
def strVals (l : List (List UInt8)) : Array Value := (l.map fun s => Value.string ⟨s.toArray⟩).toArray
theorem strVals_at {l : List (List UInt8)} {k : Nat} {s : List UInt8} (h : l[k]? = some s) : (strVals l)[k]? = some (.string ⟨s.toArray⟩) := by simp [strVals, h]
section
variable {w0 W : World} {B b : Nat} {bs : List UInt8} {bl : List OwnB}
set_option maxHeartbeats 1000000
set_option maxRecDepth 100000
theorem flatten_take {l : List (List UInt8)} {k : Nat} {s : List UInt8} (h : l[k]? = some s) : (l.take (k + 1)).flatten = (l.take k).flatten ++ s := by
  obtain ⟨hk, rfl⟩ := List.getElem?_eq_some_iff.1 h
  rw [List.take_succ_eq_append_getElem hk, List.flatten_append, List.flatten_cons, List.flatten_nil, List.append_nil]
theorem flatten_le (l : List (List UInt8)) (k : Nat) : (l.take k).flatten.length ≤ l.flatten.length := by
  have h : l.flatten = (l.take k).flatten ++ (l.drop k).flatten := by rw [← List.flatten_append, List.take_append_drop]
  rw [h]; simp
theorem line_any (parts : List (List UInt8)) (ind : Nat) {g n c : Nat} (hN : parts.length = n) (h : PInv w0 B b bs (ind : Int) ((g, 9, strVals parts) :: bl) W) (hi : ind ≤ 1000000) (hn : n ≤ 100) (hl : bs.length + (PP.lineP ind parts).length ≤ 140737488355328) :
    Calls Tryd.prog 29 #[.pointer (some ⟨b, 0, none⟩), .slice (some ⟨g, 0, none⟩) n c] W fun e w' => e = .returned (.tuple #[]) ∧ PInv w0 B b (bs ++ PP.lineP ind parts) (ind : Int) ((g, 9, strVals parts) :: bl) w' := by
  have HN := Lib.hid hN
  have hll : bs.length + ind + parts.flatten.length + 1 ≤ 140737488355328 := by rw [PP.lineP_len] at hl; omega
  have HI := Lib.hid h
  obtain ⟨c2, _⟩ := h.pg.cell2
  clear hN h hl
  go_enter Tryd.func29, Tryd.ntmps29
  go_wp2_with fail
  go_loopw [10] (fun t wr => ∃ k : Nat, k ≤ ind ∧ t = .int .i64 (k : Int) ∧ PInv w0 B b (bs ++ PP.tabs k) (ind : Int) ((g, 9, strVals parts) :: bl) wr) (fun t _ => ind - (intOf t).toNat)
  case atStart => exact ⟨0, Nat.zero_le _, rfl, by simpa [PP.tabs] using HI.out⟩
  case round =>
    obtain ⟨k, hk, rfl, hr⟩ := hrel
    have HR := Lib.hid hr
    by_cases hlt : k < ind
    · have HC := Lib.hid (wByte 9 9 rfl hr (by simp [PP.tabs]; omega))
      clear hr
      go_wp2_with fail
      refine HC.out.mono ?_
      rintro e w1 ⟨rfl, hp⟩
      have HP := Lib.hid hp
      clear hp
      go_wp2_with fail
      go_roundw
      case rel => exact ⟨k + 1, by omega, by go_num, by have := HP.out; rwa [List.append_assoc, show PP.tabs k ++ [9] = PP.tabs (k + 1) from by simp [PP.tabs, List.replicate_succ']] at this⟩
      case measure => simp [intOf]; omega
    · obtain rfl : k = ind := by omega
      clear hr
      go_wp2_with fail
      go_loopw [19] (fun t wr => ∃ j : Nat, j ≤ n ∧ t = .int .i64 (j : Int) ∧ PInv w0 B b (bs ++ PP.tabs k ++ (parts.take j).flatten) (k : Int) ((g, 9, strVals parts) :: bl) wr) (fun t _ => n - (intOf t).toNat)
      case atStart => exact ⟨0, Nat.zero_le _, rfl, by simpa using HR.out⟩
      case round =>
        obtain ⟨j, hj, rfl, hr⟩ := hrel
        have HQ := Lib.hid hr
        by_cases hlj : j < n
        · obtain ⟨s, hs⟩ : ∃ s, parts[j]? = some s := ⟨_, List.getElem?_eq_getElem (by rw [HN.out]; exact hlj)⟩
          have hc := (hr.b0.cell j).trans (strVals_at hs)
          have h0 := flatten_le parts (j + 1)
          rw [flatten_take hs, List.length_append] at h0
          have HF := Lib.hid (flatten_take hs)
          have HC := Lib.hid (wStr s hr (by simp only [List.length_append, PP.tabs, List.length_replicate]; omega))
          have p1 : (0 : Int) ≤ (j : Int) := by omega
          have p2 : (j : Int) < (n : Int) := by omega
          clear hr hs
          go_wp2_with fail
          refine HC.out.mono ?_
          rintro e w1 ⟨⟨v, rfl⟩, hp⟩
          have HP := Lib.hid hp
          clear hp
          go_wp2_with fail
          go_roundw
          case rel => exact ⟨j + 1, by omega, by go_num, by rw [HF.out, ← List.append_assoc]; exact HP.out⟩
          case measure => simp [intOf]; omega
        · have hall : parts.take j = parts := List.take_of_length_le (by rw [HN.out]; omega)
          have HT := Lib.hid hall
          have HC := Lib.hid (wByte 10 10 rfl hr (by rw [hall]; simp only [List.length_append, PP.tabs, List.length_replicate]; omega))
          clear hr hall
          go_wp2_with fail
          refine HC.out.mono ?_
          rintro e w1 ⟨rfl, hp⟩
          have HP := Lib.hid hp
          clear hp
          go_wp2_with fail
          go_end0
          exact ⟨rfl, by have := HP.out; rw [HT.out] at this; simpa [PP.lineP] using this⟩
end
section
variable {B b : Nat}
/-- The contract of expression at a tree. -/
def ExprOk (B b : Nat) (t : Tree) : Prop := ∀ (w0 W : World) (bs : List UInt8) (i : Int) (bl : List OwnB) (k : Nat) (num : Int) (nm : List UInt8) (A : Option Addr) (c : Nat) (kids : List Tree), t = .node k num nm kids → KidsC w0 (· < B) A kids → PInv w0 B b bs i bl W → bs.length + (PP.prE t).length ≤ 140737488355328 →
  Calls Tryd.prog 22 #[.pointer (some ⟨b, 0, none⟩), .agg #[.int .u8 (k : Int), .int .i64 num, .string ⟨nm.toArray⟩, .slice A kids.length c]] W fun e w' => e = .returned (.tuple #[]) ∧ PInv w0 B b (bs ++ PP.prE t) i bl w'
variable {w0 W : World} {bs : List UInt8} {i : Int} {bl : List OwnB} {k : Nat} {num : Int} {nm : List UInt8} {A : Option Addr} {c : Nat} {kids : List Tree}
set_option maxHeartbeats 1000000
set_option maxRecDepth 100000
theorem operand_of {t : Tree} (hE : ExprOk B b t) (p : Bool) (ht : t = .node k num nm kids) (hk : KidsC w0 (· < B) A kids) (h : PInv w0 B b bs i bl W) (hl : bs.length + (PP.wrapP p (PP.prE t)).length ≤ 140737488355328) :
    Calls Tryd.prog 36 #[.pointer (some ⟨b, 0, none⟩), .agg #[.int .u8 (k : Int), .int .i64 num, .string ⟨nm.toArray⟩, .slice A kids.length c], .bool p] W fun e w' => e = .returned (.tuple #[]) ∧ PInv w0 B b (bs ++ PP.wrapP p (PP.prE t)) i bl w' := by
  have h1 := h.alloc #[.int .u8 (k : Int), .int .i64 num, .string ⟨nm.toArray⟩, .slice A kids.length c] 24 (by decide) rfl
  have HE := Lib.hid hE
  have HK := Lib.hid hk
  have HT := Lib.hid ht
  clear hE hk ht h
  cases p with
  | false =>
    simp only [PP.wrapP, Bool.false_eq_true, if_false] at hl
    have HC := Lib.hid (HE.out _ _ _ _ _ _ _ _ _ c _ HT.out HK.out h1 (by omega))
    clear h1
    go_enter Tryd.func36, Tryd.ntmps36
    go_wp2_with fail
    refine HC.out.mono ?_
    rintro e w1 ⟨rfl, hp⟩
    have HP := Lib.hid hp
    clear hp
    go_wp2_with fail
    go_end0
    exact ⟨rfl, HP.out.drop⟩
  | true =>
    simp only [PP.wrapP, if_true, List.length_append, List.length_cons, List.length_nil] at hl
    have HC := Lib.hid (wByte 40 40 rfl h1 (by omega))
    clear h1
    go_enter Tryd.func36, Tryd.ntmps36
    go_wp2_with fail
    refine HC.out.mono ?_
    rintro e w1 ⟨rfl, hp⟩
    obtain ⟨x0, x1, x2, x3⟩ := hp.b0.four.1
    have HC2 := Lib.hid (HE.out _ _ _ _ _ _ _ _ _ c _ HT.out HK.out hp (by simp; omega))
    clear hp
    go_wp2_with fail
    refine HC2.out.mono ?_
    rintro e w2 ⟨rfl, hp⟩
    have HC3 := Lib.hid (wByte 41 41 rfl hp (by simp; omega))
    clear hp x0 x1 x2 x3
    go_wp2_with fail
    refine HC3.out.mono ?_
    rintro e w3 ⟨rfl, hp⟩
    have HP := Lib.hid hp
    clear hp
    go_wp2_with fail
    go_end0
    exact ⟨rfl, by have := HP.out.drop; simpa [PP.wrapP] using this⟩
end
end Go.Proofs.YtkeehpgnljieeaaDoor
