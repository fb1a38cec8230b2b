/- The assembler as plain functions: the library's splitting, cutting and fields are those of the assembler's plain text. -/
import Derived.Test.YtgeagpplihecmaaDoorPlainAsm6
import Derived.Test.YtgeagpplihecmaaDoorPlainAsm3
import Derived.Lib.Split
import Derived.Lib.FieldsP
import Derived.Lib.SpaceUEq
namespace Go.Proofs.YtgeagpplihecmaaDoor.AS
open Go.Lib
def bts (ws : List ByteArray) : List Bytes := ws.map (·.data.toList)
theorem index_one (c : UInt8) : ∀ l : Bytes, (index l [c] = -1 ∧ ∀ b ∈ l, b ≠ c) ∨ ∃ a r, l = a ++ c :: r ∧ (∀ b ∈ a, b ≠ c) ∧ index l [c] = (a.length : Int)
  | [] => .inl ⟨by simp [index], fun b h => by simp at h⟩
  | b :: l => by
    by_cases h : b = c
    · refine .inr ⟨[], l, by rw [h]; rfl, fun b h => by simp at h, ?_⟩
      unfold index
      rw [if_pos (by simp [List.isPrefixOf, h])]
      rfl
    · have hf : ¬ ([c].isPrefixOf (b :: l) = true) := by simp [List.isPrefixOf]; exact Ne.symm h
      rcases index_one c l with ⟨h1, h2⟩ | ⟨a, r, h1, h2, h3⟩
      · left
        constructor
        · unfold index; rw [if_neg hf, h1]; rfl
        · intro x hx
          rcases List.mem_cons.1 hx with rfl | hx
          · exact h
          · exact h2 x hx
      · right
        refine ⟨b :: a, r, by rw [h1]; rfl, fun x hx => ?_, ?_⟩
        · rcases List.mem_cons.1 hx with rfl | hx
          · exact h
          · exact h2 x hx
        · unfold index; rw [if_neg hf, h3, if_neg (by simp)]; simp
theorem lines_none : ∀ (l cur : Bytes), (∀ b ∈ l, b ≠ 10) → lines cur l = [cur ++ l]
  | [], cur, _ => by simp [lines]
  | b :: l, cur, h => by
    have hb : (b == 10) = false := by simp; exact h b (by simp)
    rw [lines, hb]
    simp only [Bool.false_eq_true, if_false]
    rw [lines_none l (cur ++ [b]) (fun x hx => h x (by simp [hx]))]
    simp
theorem split_lines : ∀ (n : Nat) (l : Bytes), l.length < n → splitK [10] 0 (count l [10]) l = lines [] l
  | 0, _, h => by omega
  | n + 1, l, h => by
    rcases index_one 10 l with ⟨h1, h2⟩ | ⟨a, r, h1, h2, h3⟩
    · rw [count_miss h1, lines_none l [] h2]; rfl
    · have hd : l.drop (a.length + 1) = r := by rw [h1]; simp
      have ht : l.take a.length = a := by rw [h1]; simp
      rw [count_hit (by simp) h3, show 1 + count (l.drop (a.length + [(10 : UInt8)].length)) [10] = count (l.drop (a.length + 1)) [10] + 1 from by simp; omega, splitK, h3]
      rw [if_neg (by simp)]
      simp only [Int.toNat_natCast, Nat.add_zero, List.length_singleton]
      rw [hd, ht, split_lines n r (by rw [h1] at h; simp at h; omega)]
      rw [h1, lines_body a (10 :: r) [] h2]
      rfl
theorem lines_split (s : ByteArray) : bts (splitB ⟨#[10]⟩ 0 (countB s ⟨#[10]⟩) s) = lines [] s.data.toList := by
  unfold bts
  rw [splitB_data]
  exact split_lines _ _ (Nat.lt_succ_self _)
theorem split_count : ∀ (n : Nat) (l : Bytes), l.length < n → (splitK [10] 0 (count l [10]) l).length = count l [10] + 1
  | 0, _, h => by omega
  | n + 1, l, h => by
    rcases index_one 10 l with ⟨h1, h2⟩ | ⟨a, r, h1, h2, h3⟩
    · rw [count_miss h1]; rfl
    · have hd : l.drop (a.length + 1) = r := by rw [h1]; simp
      rw [count_hit (by simp) h3, show 1 + count (l.drop (a.length + [(10 : UInt8)].length)) [10] = count (l.drop (a.length + 1)) [10] + 1 from by simp; omega, splitK, h3]
      rw [if_neg (by simp)]
      simp only [Int.toNat_natCast, Nat.add_zero, List.length_singleton]
      rw [hd, List.length_cons, split_count n r (by rw [h1] at h; simp at h; omega)]
theorem splitB_count (s : ByteArray) : (splitB ⟨#[10]⟩ 0 (countB s ⟨#[10]⟩) s).length = countB s ⟨#[10]⟩ + 1 := by
  have h := split_count _ s.data.toList (Nat.lt_succ_self _)
  rw [← show (splitB ⟨#[10]⟩ 0 (countB s ⟨#[10]⟩) s).map (·.data.toList) = splitK [10] 0 (count s.data.toList [10]) s.data.toList from splitB_data _ _ _ _, List.length_map] at h
  exact h
theorem cut_eq (l : Bytes) : (cut l [59]).1 = cutC l := by
  unfold cut
  rcases index_one 59 l with ⟨h1, h2⟩ | ⟨a, r, h1, h2, h3⟩
  · rw [h1]
    simp only [show ¬ ((0 : Int) ≤ -1) from by decide, if_false]
    exact (cutC_no l h2).symm
  · rw [h3, if_pos (by omega)]
    simp only [Int.toNat_natCast]
    rw [h1]
    have : cutC (a ++ 59 :: r) = a := by
      rw [cutC_app, if_pos (by rw [List.all_eq_true]; intro x hx; simpa using h2 x hx)]
      simp [cutC]
    rw [this]; simp
/-- A blank rune. -/
def isB (r : Nat) : Bool := r == 32 || r == 9
theorem flds_run : ∀ (w cur r : Bytes), (∀ b ∈ w, isBl b = false) → flds cur (w ++ r) = flds (cur ++ w) r
  | [], cur, r, _ => by simp
  | b :: w, cur, r, h => by
    rw [List.cons_append, flds, h b (by simp)]
    simp only [Bool.false_eq_true, if_false]
    rw [flds_run w (cur ++ [b]) r (fun x hx => h x (by simp [hx]))]
    simp
theorem bl_high {b : UInt8} (h : 128 ≤ b.toNat) : isBl b = false := by
  unfold isBl
  simp only [Bool.or_eq_false_iff, beq_eq_false_iff_ne, ne_eq]
  constructor <;> (rintro rfl; simp at h)
/-- One rune at a place: a byte, or bytes beyond ASCII. -/
theorem rune_at (s : ByteArray) (pos : Nat) (h : pos < s.size) :
    (∃ b, s.data.toList[pos]? = some b ∧ b.toNat < 128 ∧ Utf8.decode s pos = (b.toNat, 1)) ∨
    (128 ≤ (Utf8.decode s pos).1 ∧ pos + (Utf8.decode s pos).2 ≤ s.size ∧ 1 ≤ (Utf8.decode s pos).2 ∧ ∀ b ∈ (s.data.toList.drop pos).take (Utf8.decode s pos).2, isBl b = false) := by
  have hl : s.data.toList.length = s.size := Array.length_toList
  have hlt : pos < s.data.toList.length := by omega
  rw [decode_N, hl]
  have hget : ∀ k, pos + k < s.size → s.data.toList[pos + k]? = some (s.data.toList.getD (pos + k) 0) := by
    intro k hk
    rw [List.getD_eq_getElem?_getD, List.getElem?_eq_getElem (by omega)]; rfl
  have h0 := hget 0 h
  rw [Nat.add_zero] at h0
  have hc := decodeN_conts (s.size - pos) (s.data.toList.getD pos 0).toNat (s.data.toList.getD (pos + 1) 0).toNat (s.data.toList.getD (pos + 2) 0).toNat (s.data.toList.getD (pos + 3) 0).toNat
  have hx := decodeN_cases (s.size - pos) (s.data.toList.getD pos 0).toNat (s.data.toList.getD (pos + 1) 0).toNat (s.data.toList.getD (pos + 2) 0).toNat (s.data.toList.getD (pos + 3) 0).toNat
  have hg := decodeN_ge1 (s.size - pos) (s.data.toList.getD pos 0).toNat (s.data.toList.getD (pos + 1) 0).toNat (s.data.toList.getD (pos + 2) 0).toNat (s.data.toList.getD (pos + 3) 0).toNat
  by_cases ha : (s.data.toList.getD pos 0).toNat < 128
  · left
    exact ⟨_, h0, ha, by rw [decodeN_ascii _ _ _ _ _ ha]⟩
  · right
    generalize hd : decodeN (s.size - pos) (s.data.toList.getD pos 0).toNat (s.data.toList.getD (pos + 1) 0).toNat (s.data.toList.getD (pos + 2) 0).toNat (s.data.toList.getD (pos + 3) 0).toNat = d at *
    obtain ⟨c2, c3, c4, c5⟩ := hc
    refine ⟨?_, by omega, hg, fun b hb => ?_⟩
    · rcases hx with ⟨k, _⟩ | ⟨_, _, _, k, e⟩ | ⟨_, _, _, _, k, e⟩ | ⟨k, _⟩ | e
      · omega
      · rw [e]; exact k
      · rw [e]; show 128 ≤ _; omega
      · omega
      · rw [e]; decide
    · obtain ⟨j, hj, rfl⟩ := List.mem_iff_getElem.1 hb
      rw [List.length_take, List.length_drop] at hj
      have e : ((s.data.toList.drop pos).take d.2)[j]'(by rw [List.length_take, List.length_drop]; exact hj) = s.data.toList.getD (pos + j) 0 := by
        rw [List.getElem_take, List.getElem_drop, List.getD_eq_getElem?_getD, List.getElem?_eq_getElem (by omega)]; rfl
      rw [e]
      apply bl_high
      have : j = 0 ∨ j = 1 ∨ j = 2 ∨ j = 3 := by omega
      rcases this with rfl | rfl | rfl | rfl
      · rw [Nat.add_zero]; omega
      · have := c2 (by omega); omega
      · have := c3 (by omega); omega
      · have := c4 (by omega); omega
theorem flds_nil (cur : Bytes) : flds cur [] = if cur = [] then [] else [cur] := by
  rw [flds]
  cases cur <;> simp
theorem spans_flds (s : ByteArray) : ∀ (f pos : Nat) (st : Option Nat) (acc : List (Nat × Nat)), s.size ≤ pos + f → pos ≤ s.size → (∀ a, st = some a → a < pos) →
    acc.map (fun p => pieceU s.data.toList p.1 p.2) ++ flds (openPiece s.data.toList st pos) (s.data.toList.drop pos) = (closeSpans s (spansFromP isB s f pos st acc)).map (fun p => pieceU s.data.toList p.1 p.2)
  | f, pos, st, acc, h, hp, hst => by
    have hl : s.data.toList.length = s.size := Array.length_toList
    by_cases hlt : pos < s.size
    · match f, h with
      | 0, h => omega
      | f + 1, h =>
        simp only [spansFromP, if_pos hlt]
        rcases rune_at s pos hlt with ⟨b, hb, hb8, hdec⟩ | ⟨hr, hwn, hw, hall⟩
        · have hcons : s.data.toList.drop pos = b :: s.data.toList.drop (pos + 1) := by
            obtain ⟨h1, h2⟩ := List.getElem?_eq_some_iff.1 hb
            rw [← h2]; exact List.drop_eq_getElem_cons h1
          have hbl : isB (Utf8.decode s pos).1 = isBl b := by
            rw [hdec]
            unfold isB isBl
            congr 1
            · by_cases e : b = 32
              · subst e; rfl
              · rw [beq_eq_false_iff_ne.2 e, beq_eq_false_iff_ne]; intro h2; exact e (UInt8.toNat.inj h2)
            · by_cases e : b = 9
              · subst e; rfl
              · rw [beq_eq_false_iff_ne.2 e, beq_eq_false_iff_ne]; intro h2; exact e (UInt8.toNat.inj h2)
          rw [hbl, hcons, flds]
          have hd2 : (Utf8.decode s pos).2 = 1 := by rw [hdec]
          rw [hd2]
          cases hx : isBl b with
          | true =>
            simp only [if_true]
            cases st with
            | none =>
              have ih := spans_flds s f (pos + 1) none acc (by omega) (by omega) (fun a h => by cases h)
              simpa [openPiece] using ih
            | some a =>
              have hpn := pieceU_ne s.data.toList a pos (hst a rfl) (by omega)
              have ih := spans_flds s f (pos + 1) none (acc ++ [(a, pos)]) (by omega) (by omega) (fun a h => by cases h)
              have hie : (pieceU s.data.toList a pos).isEmpty = false := by cases hq : pieceU s.data.toList a pos with | nil => exact absurd hq hpn | cons => rfl
              simp only [openPiece, hie, Bool.false_eq_true, if_false]
              simpa [openPiece] using ih
          | false =>
            simp only [Bool.false_eq_true, if_false]
            have htk : (s.data.toList.drop pos).take 1 = [b] := by rw [hcons]; rfl
            cases st with
            | none =>
              have ih := spans_flds s f (pos + 1) (some pos) acc (by omega) (by omega) (fun a h => by cases h; omega)
              have e : [b] = pieceU s.data.toList pos (pos + 1) := by unfold pieceU; rw [Nat.add_sub_cancel_left, htk]
              simp only [openPiece, List.nil_append] at ih ⊢
              rw [e]; exact ih
            | some a =>
              have ih := spans_flds s f (pos + 1) (some a) acc (by omega) (by omega) (fun b h => by cases h; have := hst a rfl; omega)
              simp only [openPiece] at ih ⊢
              rw [← htk, pieceU_grow _ _ _ _ (Nat.le_of_lt (hst a rfl))]
              exact ih
        · have hnb : isB (Utf8.decode s pos).1 = false := by
            unfold isB
            simp only [Bool.or_eq_false_iff, beq_eq_false_iff_ne, ne_eq]
            omega
          have hsp : s.data.toList.drop pos = (s.data.toList.drop pos).take (Utf8.decode s pos).2 ++ s.data.toList.drop (pos + (Utf8.decode s pos).2) := by
            rw [← List.drop_drop, List.take_append_drop]
          rw [hnb, hsp, flds_run _ _ _ hall]
          simp only [Bool.false_eq_true, if_false]
          cases st with
          | none =>
            have ih := spans_flds s f (pos + (Utf8.decode s pos).2) (some pos) acc (by omega) hwn (fun a h => by cases h; omega)
            have e : ([] : Bytes) ++ (s.data.toList.drop pos).take (Utf8.decode s pos).2 = pieceU s.data.toList pos (pos + (Utf8.decode s pos).2) := by
              unfold pieceU
              rw [List.nil_append, Nat.add_sub_cancel_left]
            simp only [openPiece] at ih ⊢
            rw [e]; exact ih
          | some a =>
            have ih := spans_flds s f (pos + (Utf8.decode s pos).2) (some a) acc (by omega) hwn (fun b h => by cases h; have := hst a rfl; omega)
            simp only [openPiece] at ih ⊢
            rw [pieceU_grow _ _ _ _ (Nat.le_of_lt (hst a rfl))]
            exact ih
    · obtain rfl : pos = s.size := by omega
      have hd : s.data.toList.drop s.size = [] := List.drop_eq_nil_of_le (by omega)
      rw [hd, flds_nil, spansFromP_end isB s _ _ _ _ hlt]
      cases st with
      | none => simp [closeSpans, openPiece]
      | some a =>
        have := pieceU_ne s.data.toList a s.size (hst a rfl) (by omega)
        simp [closeSpans, openPiece, this]
theorem fields_eq (s : ByteArray) : bts (goFieldsP isB s) = flds [] s.data.toList := by
  have h := spans_flds s s.size 0 none [] (by omega) (by omega) (fun a h => by cases h)
  simp only [List.map_nil, List.nil_append, openPiece, List.drop_zero] at h
  rw [h]
  unfold bts goFieldsP spansOfP
  rw [List.map_map]
  apply List.map_congr_left
  intro p _
  show (s.extract p.1 p.2).data.toList = _
  unfold pieceU
  simp
end Go.Proofs.YtgeagpplihecmaaDoor.AS
