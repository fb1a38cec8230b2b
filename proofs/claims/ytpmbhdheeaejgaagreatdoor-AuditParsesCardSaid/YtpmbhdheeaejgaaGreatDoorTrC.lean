/- The kind of events with a word; a line of a trace, read. -/
import Derived.Test.YtpmbhdheeaejgaaGreatDoorTrB
namespace Go.Proofs.YtpmbhdheeaejgaaGreatDoor
open Go.RowKit Go.Maps Go.Sort Go.Lib
open AU (Ev)
def wordsB : List ByteArray := [⟨#[114, 101, 108, 101, 97, 115, 101]⟩, ⟨#[100, 105, 115, 112, 97, 116, 99, 104]⟩, ⟨#[102, 105, 110, 105, 115, 104]⟩, ⟨#[116, 114, 97, 112]⟩, ⟨#[99, 117, 116, 111, 102, 102]⟩, ⟨#[108, 97, 116, 101]⟩, ⟨#[115, 101, 110, 100]⟩]
def kindV (s : List UInt8) : Value := match TR.kindP s with
  | some k => .tuple #[.int .u8 (k : Int), .bool true]
  | none => .tuple #[.int .u8 0, .bool false]
theorem idx_word {k : Nat} (h : TR.known k) {s : ByteArray} (hs : s.data.toList = TR.word k) : Lib.idxOfS (wordsB.take 7) s = (k : Int) - 1 := by
  have e : s = ⟨(TR.word k).toArray⟩ := (ba_eq.2 hs.symm).symm
  rw [e]
  rcases TR.known_cases h with rfl | rfl | rfl | rfl | rfl | rfl | rfl <;> rfl
theorem idx_none {s : ByteArray} (h : TR.kindP s.data.toList = none) : Lib.idxOfS (wordsB.take 7) s = -1 := by
  refine Lib.idxOfS_miss _ _ _ fun j hj he => ?_
  have hk : TR.kindP s.data.toList ≠ none := by
    rw [← he]
    rcases (show j = 0 ∨ j = 1 ∨ j = 2 ∨ j = 3 ∨ j = 4 ∨ j = 5 ∨ j = 6 by omega) with rfl | rfl | rfl | rfl | rfl | rfl | rfl <;> decide
  exact hk h
section
set_option maxHeartbeats 2000000
set_option maxRecDepth 100000
theorem kind_any (s : ByteArray) (w : World) :
    Calls Tryz.prog 26 #[.string s] w fun e w' => e = .returned (kindV s.data.toList) ∧ Below w.heap.size w w' := by
  have hb1 := (Below.refl w.heap.size w).alloc (Nat.le_refl _) (.cells (wordsB.map Value.string).toArray 9)
  have hk1 := Blk.new w 9 (wordsB.map Value.string).toArray
  have hb2 := hb1.alloc (by simp) (.cells #[.int .u8 1, .int .u8 2, .int .u8 3, .int .u8 4, .int .u8 5, .int .u8 6, .int .u8 7] 5)
  have hk1b := hk1.alloc (.cells #[.int .u8 1, .int .u8 2, .int .u8 3, .int .u8 4, .int .u8 5, .int .u8 6, .int .u8 7] 5)
  have hk2 := blk_second w 9 5 (wordsB.map Value.string).toArray #[.int .u8 1, .int .u8 2, .int .u8 3, .int .u8 4, .int .u8 5, .int .u8 6, .int .u8 7]
  have HIX := Lib.hid (Tryz.slices_Index_string w.heap.size 0 7 7 wordsB s _ (Nat.le_refl _) (by decide) (fun j hj => by
    rw [Nat.zero_add, hk1b.cell]
    rcases (show j = 0 ∨ j = 1 ∨ j = 2 ∨ j = 3 ∨ j = 4 ∨ j = 5 ∨ j = 6 by simp [wordsB] at hj; omega) with rfl | rfl | rfl | rfl | rfl | rfl | rfl <;> rfl))
  have HB2 := Lib.hid hb2
  have HK2 := Lib.hid hk2
  clear hb1 hk1 hb2 hk1b hk2
  have hwb : (wordsB.map Value.string).toArray = #[.string ⟨#[114, 101, 108, 101, 97, 115, 101]⟩, .string ⟨#[100, 105, 115, 112, 97, 116, 99, 104]⟩, .string ⟨#[102, 105, 110, 105, 115, 104]⟩, .string ⟨#[116, 114, 97, 112]⟩, .string ⟨#[99, 117, 116, 111, 102, 102]⟩, .string ⟨#[108, 97, 116, 101]⟩, .string ⟨#[115, 101, 110, 100]⟩] := rfl
  rw [hwb] at HIX HB2 HK2
  clear hwb
  unfold kindV
  cases hk : TR.kindP s.data.toList with
  | none =>
    rw [idx_none hk] at HIX
    simp only
    clear hk
    go_enter Tryz.func26, Tryz.ntmps26
    go_wp2_with fail
    refine HIX.out.mono ?_
    rintro e w3 ⟨rfl, rfl⟩
    go_wp2_with fail
    go_ret2
    exact ⟨rfl, HB2.out⟩
  | some k =>
    obtain ⟨h1, h2⟩ := TR.kindP_some hk
    rw [idx_word h2 h1] at HIX
    simp only
    clear hk h1
    obtain ⟨j, rfl⟩ : ∃ j, k = j + 1 := ⟨k - 1, by have := h2.1; omega⟩
    have hj7 : j < 7 := by have := h2.2; omega
    rw [show (((j + 1 : Nat) : Int) - 1) = (j : Int) from by omega] at HIX
    have HC := Lib.hid (show ∀ W : World, Blk W (w.heap.size + 1) 5 #[.int .u8 1, .int .u8 2, .int .u8 3, .int .u8 4, .int .u8 5, .int .u8 6, .int .u8 7] → W.cell? ⟨w.heap.size + 1, j, none⟩ = some (.int .u8 ((j + 1 : Nat) : Int)) from fun W hW => by
      rw [hW.cell j]
      rcases (show j = 0 ∨ j = 1 ∨ j = 2 ∨ j = 3 ∨ j = 4 ∨ j = 5 ∨ j = 6 by omega) with rfl | rfl | rfl | rfl | rfl | rfl | rfl <;> rfl)
    have q0 : (j : Int) < 7 := by omega
    have d0 : decide ((j : Int) < 0) = false := decide_eq_false (by omega)
    clear h2
    go_enter Tryz.func26, Tryz.ntmps26
    go_wp2_with fail
    refine HIX.out.mono ?_
    rintro e w3 ⟨rfl, rfl⟩
    have c0 := HC.out _ HK2.out
    go_wp2_with fail
    go_ret2
    exact ⟨rfl, HB2.out⟩
end
end Go.Proofs.YtpmbhdheeaejgaaGreatDoor
