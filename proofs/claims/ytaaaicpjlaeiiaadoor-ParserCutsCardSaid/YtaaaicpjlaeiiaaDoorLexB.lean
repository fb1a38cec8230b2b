/- The contracts of strings.HasPrefix and of the lexer's first. -/
import Derived.Test.YtaaaicpjlaeiiaaDoorLexA
import Derived.Lib.Strings
import Derived.Lib.Slices
import Derived.Lib.Walk
namespace Go.Proofs.YtaaaicpjlaeiiaaDoor
open Go.RowKit

theorem lite_prefix (s p : ByteArray) (w : World) :
    Calls Tryd.prog 130 #[.string s, .string p] w fun e w' => e = .returned (.bool (Lib.hasPrefix s.data.toList p.data.toList)) ∧ w = w' := by
  rw [← Lib.hasPrefix_of_take, ← Lib.size_eq, ← Lib.size_eq]
  go_enter Tryd.func130, Tryd.ntmps130
  go_wp2
  · rename_i h
    go_ret
    refine ⟨?_, rfl⟩
    show Ending.returned (Value.bool ((s.extract 0 p.size).toList == p.toList)) = _
    rw [Lib.extract_toList, Lib.toList_data]
    simp [h]
  · rename_i h
    go_ret
    refine ⟨?_, rfl⟩
    show Ending.returned (Value.bool false) = _
    simp [h]
theorem has_prefix (s p : ByteArray) (w : World) :
    Calls Tryd.prog 115 #[.string s, .string p] w fun e w' => e = .returned (.bool (Lib.hasPrefix s.data.toList p.data.toList)) ∧ w = w' := by
  go_enter Tryd.func115, Tryd.ntmps115
  go_wp2_with (go_at_call 130; refine (lite_prefix _ _ _).mono ?_; rintro e w' ⟨rfl, rfl⟩)
  go_ret
  exact ⟨rfl, rfl⟩

def signCells : Array Value := (PL.signs.map fun g => Value.string ⟨g.toArray⟩).toArray
def SignsIs (w : World) : Prop := ∃ (t : TypeId) (fr : Nat × Nat), w.heap[1]? = some (.cells signCells t fr)
theorem SignsIs.pos {w : World} (h : SignsIs w) : 1 < w.heap.size := by
  obtain ⟨t, fr, h⟩ := h
  exact (Array.getElem?_eq_some_iff.1 h).1
theorem SignsIs.below {w w' : World} {B : Nat} (h : SignsIs w) (hb : Below B w w') (hB : 1 < B) : SignsIs w' := by
  obtain ⟨t, fr, h⟩ := h
  exact ⟨t, fr, (hb.block 1 hB).trans h⟩

theorem idx_signs (k : Nat) (hk : k < 28) (w : World) :
    (Instr.index 145 (.agg signCells) (.int .i64 (k : Int))).run Tryd.prog w = .ok (.string ⟨(PL.signs.getD k []).toArray⟩) w := 
  match k, hk with
  | 0, _ => by kernel_rfl
  | 1, _ => by kernel_rfl
  | 2, _ => by kernel_rfl
  | 3, _ => by kernel_rfl
  | 4, _ => by kernel_rfl
  | 5, _ => by kernel_rfl
  | 6, _ => by kernel_rfl
  | 7, _ => by kernel_rfl
  | 8, _ => by kernel_rfl
  | 9, _ => by kernel_rfl
  | 10, _ => by kernel_rfl
  | 11, _ => by kernel_rfl
  | 12, _ => by kernel_rfl
  | 13, _ => by kernel_rfl
  | 14, _ => by kernel_rfl
  | 15, _ => by kernel_rfl
  | 16, _ => by kernel_rfl
  | 17, _ => by kernel_rfl
  | 18, _ => by kernel_rfl
  | 19, _ => by kernel_rfl
  | 20, _ => by kernel_rfl
  | 21, _ => by kernel_rfl
  | 22, _ => by kernel_rfl
  | 23, _ => by kernel_rfl
  | 24, _ => by kernel_rfl
  | 25, _ => by kernel_rfl
  | 26, _ => by kernel_rfl
  | 27, _ => by kernel_rfl
  | k + 28, h => by omega

/-- What the loop over the signs has seen after k rounds. -/
def NoSign (s : ByteArray) (k : Nat) : Prop := k ≤ 28 ∧ ∀ i, i < k → Lib.hasPrefix s.data.toList (PL.signs.getD i []) = false
theorem NoSign.next {s : ByteArray} {k : Nat} (h : NoSign s k) (hk : k < 28) (hp : Lib.hasPrefix s.data.toList (PL.signs.getD k []) = false) : NoSign s (k + 1) :=
  ⟨by omega, fun i hi => by
    rcases Nat.lt_or_ge i k with h3 | h3
    · exact h.2 i h3
    · obtain rfl : i = k := by omega
      exact hp⟩
theorem find_at {α : Type} (p : α → Bool) (d : α) : ∀ (l : List α) (k : Nat), k < l.length → (∀ i, i < k → p (l.getD i d) = false) → p (l.getD k d) = true → l.find? p = some (l.getD k d)
  | [], k, h, _, _ => by simp at h
  | a :: l, 0, _, _, h => by simp at h; simp [h]
  | a :: l, k + 1, h1, h2, h3 => by
    have h0 := h2 0 (by omega)
    simp only [List.getD_cons_zero] at h0
    rw [List.find?_cons_of_neg (by simp [h0])]
    exact find_at p d l k (by simpa using h1) (fun i hi => by simpa using h2 (i + 1) (by omega)) (by simpa using h3)
theorem find_none {α : Type} (p : α → Bool) (d : α) (l : List α) (h : ∀ i, i < l.length → p (l.getD i d) = false) : l.find? p = none := by
  rw [List.find?_eq_none]
  intro x hx
  obtain ⟨i, hi, rfl⟩ := List.mem_iff_getElem.1 hx
  have := h i hi
  rw [List.getD_eq_getElem?_getD, List.getElem?_eq_getElem hi] at this
  simpa using this

section
set_option maxHeartbeats 400000
theorem first_word (s : ByteArray) (w : World) (hs : s.size ≤ maxLen) (h1 : 1 ≤ s.size) (hb : PL.isLetter s[0] = true) :
    Calls Tryd.prog 71 #[.string s] w fun e w' => e = .returned (.tuple #[.int .u8 1, .int .i64 (PL.count PL.isInner s.data.toList)]) ∧ Below w.heap.size w w' := by
  go_enter Tryd.func71, Tryd.ntmps71
  go_wp2_with (first | (go_at_call 110; refine (isLetter_any _ _).mono ?_; rintro e w' ⟨rfl, rfl⟩) | (go_at_call 109; refine (count_any _ _ isInner_any cf_inner s _ _ hs h1 (by simp)).mono ?_; rintro e w' ⟨rfl, rfl⟩))
  go_ret2
  exact ⟨rfl, (Below.refl _ _).alloc (Nat.le_refl _) _⟩
theorem first_number (s : ByteArray) (w : World) (hs : s.size ≤ maxLen) (h1 : 1 ≤ s.size) (hb : PL.isLetter s[0] = false) (hb2 : PL.isDigit s[0] = true) :
    Calls Tryd.prog 71 #[.string s] w fun e w' => e = .returned (.tuple #[.int .u8 2, .int .i64 (PL.count PL.isDigit s.data.toList)]) ∧ Below w.heap.size w w' := by
  go_enter Tryd.func71, Tryd.ntmps71
  go_wp2_with (first | (go_at_call 110; refine (isLetter_any _ _).mono ?_; rintro e w' ⟨rfl, rfl⟩) | (go_at_call 112; refine (isDigit_any _ _).mono ?_; rintro e w' ⟨rfl, rfl⟩) | (go_at_call 109; refine (count_any _ _ isDigit_any cf_digit s _ _ hs h1 (by simp)).mono ?_; rintro e w' ⟨rfl, rfl⟩))
  go_ret2
  exact ⟨rfl, (Below.refl _ _).alloc (Nat.le_refl _) _⟩
theorem first_space (s : ByteArray) (w : World) (hs : s.size ≤ maxLen) (h1 : 1 ≤ s.size) (hb : PL.isLetter s[0] = false) (hb2 : PL.isDigit s[0] = false) (hb3 : PL.isSpace s[0] = true) :
    Calls Tryd.prog 71 #[.string s] w fun e w' => e = .returned (.tuple #[.int .u8 4, .int .i64 (PL.count PL.isSpace s.data.toList)]) ∧ Below w.heap.size w w' := by
  go_enter Tryd.func71, Tryd.ntmps71
  go_wp2_with (first | (go_at_call 110; refine (isLetter_any _ _).mono ?_; rintro e w' ⟨rfl, rfl⟩) | (go_at_call 112; refine (isDigit_any _ _).mono ?_; rintro e w' ⟨rfl, rfl⟩) | (go_at_call 113; refine (isSpace_any _ _).mono ?_; rintro e w' ⟨rfl, rfl⟩) | (go_at_call 109; refine (count_any _ _ isSpace_any cf_space s _ _ hs h1 (by simp)).mono ?_; rintro e w' ⟨rfl, rfl⟩))
  go_ret2
  exact ⟨rfl, (Below.refl _ _).alloc (Nat.le_refl _) _⟩
theorem first_comment (s : ByteArray) (w : World) (hs : s.size ≤ maxLen) (h1 : 1 ≤ s.size) (hb : PL.isLetter s[0] = false) (hb2 : PL.isDigit s[0] = false) (hb3 : PL.isSpace s[0] = false) (hb4 : ((s[0].toNat : Int) == 35) = true) :
    Calls Tryd.prog 71 #[.string s] w fun e w' => e = .returned (.tuple #[.int .u8 5, .int .i64 (PL.count PL.isText s.data.toList)]) ∧ Below w.heap.size w w' := by
  go_enter Tryd.func71, Tryd.ntmps71
  go_wp2_with (first | (go_at_call 110; refine (isLetter_any _ _).mono ?_; rintro e w' ⟨rfl, rfl⟩) | (go_at_call 112; refine (isDigit_any _ _).mono ?_; rintro e w' ⟨rfl, rfl⟩) | (go_at_call 113; refine (isSpace_any _ _).mono ?_; rintro e w' ⟨rfl, rfl⟩) | (go_at_call 109; refine (count_any _ _ isText_any cf_text s _ _ hs h1 (by simp)).mono ?_; rintro e w' ⟨rfl, rfl⟩))
  go_ret2
  exact ⟨rfl, (Below.refl _ _).alloc (Nat.le_refl _) _⟩

def SignEnd (s : ByteArray) (w : World) (e : Ending) (w' : World) : Prop :=
  Below w.heap.size w w' ∧ ((∃ g, PL.signs.find? (fun g => g.isPrefixOf s.data.toList) = some g ∧ e = .returned (.tuple #[.int .u8 3, .int .i64 (g.length : Int)])) ∨
    (PL.signs.find? (fun g => g.isPrefixOf s.data.toList) = none ∧ e = .returned (.tuple #[.int .u8 0, .int .i64 0])))
theorem first_sign (s : ByteArray) (w : World) (hg : SignsIs w) (_hs : s.size ≤ maxLen) (h1 : 1 ≤ s.size) (hb : PL.isLetter s[0] = false) (hb2 : PL.isDigit s[0] = false) (hb3 : PL.isSpace s[0] = false) (hb4 : ((s[0].toNat : Int) == 35) = false) :
    Calls Tryd.prog 71 #[.string s] w (SignEnd s w) := by
  obtain ⟨tt, fr, h0⟩ := hg
  have h0' : (w.alloc (.cells #[.string s] 9)).heap[1]? = some (.cells signCells tt fr) := by
    exact (Below.heap_alloc _ _ _ (Array.getElem?_eq_some_iff.1 h0).1).trans h0
  have H0 := Lib.hid h0'
  clear h0 h0'
  go_enter Tryd.func71, Tryd.ntmps71
  go_wp2_with (first | (go_at_call 110; refine (isLetter_any _ _).mono ?_; rintro e w' ⟨rfl, rfl⟩) | (go_at_call 112; refine (isDigit_any _ _).mono ?_; rintro e w' ⟨rfl, rfl⟩) | (go_at_call 113; refine (isSpace_any _ _).mono ?_; rintro e w' ⟨rfl, rfl⟩) | (refine wpList_load_row rfl 145 _ rfl 1 rfl tt _ fr _ H0.out Tryd.underlying145 rfl (by kernel_rfl) ?_))
  go_loop [32] (fun i => ∃ k : Nat, NoSign s k ∧ i = .int .i64 k) (fun i => 28 - (intOf i).toNat)
  case atStart => exact ⟨0, ⟨by omega, fun i hi => by omega⟩, rfl⟩
  case round =>
    obtain ⟨k, hk, rfl⟩ := hrel
    have hk1 := hk.1
    by_cases hlt : k < 28
    · have hix := idx_signs k hlt
      generalize hgg : PL.signs.getD k [] = gg at hix
      have Hgg := Lib.hid hgg
      clear hgg
      cases hp : Lib.hasPrefix s.data.toList gg
      · go_wp2_with ((go_at_call 115; refine (has_prefix _ _ _).mono ?_; rintro e w' ⟨rfl, rfl⟩))
        go_round
        case rel => exact ⟨k + 1, hk.next hlt (by rw [Hgg.out]; exact hp), by go_num⟩
        case measure => simp [intOf]; omega
      · go_wp2_with ((go_at_call 115; refine (has_prefix _ _ _).mono ?_; rintro e w' ⟨rfl, rfl⟩))
        go_ret2
        refine ⟨(Below.refl _ _).alloc (Nat.le_refl _) _, .inl ⟨gg, ?_, ?_⟩⟩
        · rw [← Hgg.out]
          exact find_at _ [] PL.signs k (by simpa [PL.signs] using hlt) hk.2 (by rw [Hgg.out]; exact hp)
        · rfl
    · go_wp2_with fail
      go_ret2
      exact ⟨(Below.refl _ _).alloc (Nat.le_refl _) _, .inr ⟨find_none _ [] PL.signs (fun i hi => hk.2 i (by simp [PL.signs] at hi; omega)), rfl⟩⟩
end
/-- The first token of a text that is not empty. -/
theorem first_any (s : ByteArray) (w : World) (hg : SignsIs w) (hs : s.size ≤ maxLen) (h1 : 1 ≤ s.size) :
    Calls Tryd.prog 71 #[.string s] w fun e w' => e = .returned (.tuple #[.int .u8 ((PL.first s.data.toList).1 : Int), .int .i64 ((PL.first s.data.toList).2 : Int)]) ∧ Below w.heap.size w w' := by
  have hl : s.data.toList = s[0] :: s.data.toList.tail := by
    have hlen : 0 < s.data.toList.length := by rw [Array.length_toList]; exact h1
    cases hc : s.data.toList with
    | nil => rw [hc] at hlen; simp at hlen
    | cons a t =>
      have : s.data.toList[0] = a := by simp [hc]
      rw [← this]; rfl
  have hf : PL.first s.data.toList = (if PL.isLetter s[0] then (1, PL.count PL.isInner s.data.toList)
    else if PL.isDigit s[0] then (2, PL.count PL.isDigit s.data.toList)
    else if PL.isSpace s[0] then (4, PL.count PL.isSpace s.data.toList)
    else if s[0] == 35 then (5, PL.count PL.isText s.data.toList)
    else match PL.signs.find? (fun g => g.isPrefixOf s.data.toList) with
      | some g => (3, g.length)
      | none => (0, 0)) := by
    unfold PL.first
    rw [hl]; rfl
  rw [hf]
  clear hf hl
  cases hb : PL.isLetter s[0] with
  | true => exact first_word s w hs h1 hb
  | false =>
    cases hb2 : PL.isDigit s[0] with
    | true => exact first_number s w hs h1 hb hb2
    | false =>
      cases hb3 : PL.isSpace s[0] with
      | true => exact first_space s w hs h1 hb hb2 hb3
      | false =>
        cases hb4 : s[0] == 35 with
        | true => exact first_comment s w hs h1 hb hb2 hb3 (by rw [PL.byte_beq] at hb4; exact hb4)
        | false =>
          refine (first_sign s w hg hs h1 hb hb2 hb3 (by rw [PL.byte_beq] at hb4; exact hb4)).mono ?_
          rintro e w' ⟨hw, ⟨g, h, rfl⟩ | ⟨h, rfl⟩⟩
          · exact ⟨by simp [h], hw⟩
          · exact ⟨by simp [h], hw⟩
end Go.Proofs.YtaaaicpjlaeiiaaDoor
