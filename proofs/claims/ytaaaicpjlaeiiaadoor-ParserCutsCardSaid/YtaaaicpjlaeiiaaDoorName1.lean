/- The contracts of lexer.Keyword and lexer.Name. -/
import Derived.Test.YtaaaicpjlaeiiaaDoorLexC
import Derived.Test.YtaaaicpjlaeiiaaDoorPlainRef
namespace Go.Proofs.YtaaaicpjlaeiiaaDoor
open Go.RowKit

def hasB (ss : List (List UInt8)) (x : List UInt8) : Bool := ss.contains x
section
set_option maxHeartbeats 400000
set_option maxRecDepth 100000
theorem keyword_no (s : ByteArray) (w : World) (h : hasB PL.keywords s.data.toList = false) :
    Calls Tryd.prog 119 #[.string s] w fun e w' => e = .returned (.bool false) ∧ w = w' := by
  have key : ∀ l ∈ PL.keywords, (s.toList == l) = false := by
    intro l hl
    rw [Lib.toList_data]
    cases hc : (s.data.toList == l) with
    | false => rfl
    | true =>
      have : s.data.toList = l := by simpa using hc
      unfold hasB at h
      rw [this] at h
      have h2 : PL.keywords.contains l = true := by simpa using hl
      rw [h2] at h; cases h
  have k0 : (s.toList == [97, 114, 114, 97, 121]) = false := key _ (by decide)
  have k1 : (s.toList == [98, 111, 117, 110, 100]) = false := key _ (by decide)
  have k2 : (s.toList == [101, 108, 115, 101]) = false := key _ (by decide)
  have k3 : (s.toList == [102, 111, 114]) = false := key _ (by decide)
  have k4 : (s.toList == [105, 102]) = false := key _ (by decide)
  have k5 : (s.toList == [105, 110]) = false := key _ (by decide)
  have k6 : (s.toList == [108, 111, 99, 107]) = false := key _ (by decide)
  have k7 : (s.toList == [111, 117, 116]) = false := key _ (by decide)
  have k8 : (s.toList == [112, 101, 114, 105, 111, 100]) = false := key _ (by decide)
  have k9 : (s.toList == [115, 104, 97, 114, 101, 100]) = false := key _ (by decide)
  have k10 : (s.toList == [116, 97, 115, 107]) = false := key _ (by decide)
  have k11 : (s.toList == [118, 97, 114]) = false := key _ (by decide)
  have k12 : (s.toList == [119, 104, 105, 108, 101]) = false := key _ (by decide)
  clear key h
  go_enter Tryd.func119, Tryd.ntmps119
  go_wp2_with fail
  go_ret
  exact ⟨rfl, rfl⟩
theorem keyword_yes (w : World) (l : List UInt8) (hl : l ∈ PL.keywords) :
    Calls Tryd.prog 119 #[.string ⟨l.toArray⟩] w fun e w' => e = .returned (.bool true) ∧ w = w' := by
  have h : l = [97, 114, 114, 97, 121] ∨ l = [98, 111, 117, 110, 100] ∨ l = [101, 108, 115, 101] ∨ l = [102, 111, 114] ∨ l = [105, 102] ∨ l = [105, 110] ∨ l = [108, 111, 99, 107] ∨ l = [111, 117, 116] ∨ l = [112, 101, 114, 105, 111, 100] ∨ l = [115, 104, 97, 114, 101, 100] ∨ l = [116, 97, 115, 107] ∨ l = [118, 97, 114] ∨ l = [119, 104, 105, 108, 101] := by simpa [PL.keywords] using hl
  rcases h with rfl | rfl | rfl | rfl | rfl | rfl | rfl | rfl | rfl | rfl | rfl | rfl | rfl
  all_goals
    go_enter Tryd.func119, Tryd.ntmps119
    go_wp2_with fail
    go_ret
    exact ⟨rfl, rfl⟩
theorem keyword_any (s : ByteArray) (w : World) :
    Calls Tryd.prog 119 #[.string s] w fun e w' => e = .returned (.bool (hasB PL.keywords s.data.toList)) ∧ w = w' := by
  cases h : hasB PL.keywords s.data.toList with
  | false => exact keyword_no s w h
  | true =>
    have hm : s.data.toList ∈ PL.keywords := by unfold hasB at h; simpa using h
    exact keyword_yes w s.data.toList hm

def nameTail (l : List UInt8) : Bool := decide ((PL.first l).1 = 1) && decide ((PL.first l).2 = l.length)
theorem isName_eq (l : List UInt8) : PL.isName l = (!l.isEmpty && decide (l.length ≤ 12) && !hasB PL.keywords l && nameTail l) := rfl
theorem name_any (s : ByteArray) (w : World) (hg : SignsIs w) (hs : s.size ≤ maxLen) :
    Calls Tryd.prog 84 #[.string s] w fun e w' => e = .returned (.bool (PL.isName s.data.toList)) ∧ Below w.heap.size w w' := by
  have hsl : s.data.toList.length = s.size := Array.length_toList
  have hn := isName_eq s.data.toList
  rw [hsl] at hn
  generalize hN : PL.isName s.data.toList = nm at *
  by_cases h0 : s.size = 0
  · have he : s.toList = [] := by rw [Lib.toList_data]; exact List.eq_nil_of_length_eq_zero (by rw [hsl]; exact h0)
    have hl : s.data.toList = [] := by rw [← Lib.toList_data]; exact he
    rw [hl] at hn
    simp at hn
    subst hn
    clear hN hl hsl
    have hie : s.toList.isEmpty = true := by rw [he]; rfl
    go_enter Tryd.func84, Tryd.ntmps84
    go_wp2_with fail
    go_ret
    exact ⟨rfl, Below.refl _ _⟩
  · have hne : s.data.toList.isEmpty = false := by
      cases hl : s.data.toList with
      | nil => rw [hl] at hsl; simp at hsl; omega
      | cons a t => rfl
    have hie : s.toList.isEmpty = false := by rw [Lib.toList_data]; exact hne
    rw [hne] at hn
    by_cases h12 : s.size ≤ 12
    · simp only [h12, decide_true, Bool.not_false, Bool.true_and] at hn
      cases hk : hasB PL.keywords s.data.toList with
      | true =>
        rw [hk] at hn
        simp at hn
        subst hn
        clear hN hsl hne
        go_enter Tryd.func84, Tryd.ntmps84
        go_wp2_with (go_at_call 119; refine (keyword_any _ _).mono ?_; rintro e w' ⟨rfl, rfl⟩)
        go_ret
        exact ⟨rfl, Below.refl _ _⟩
      | false =>
        rw [hk] at hn
        simp only [Bool.not_false, Bool.true_and] at hn
        unfold nameTail at hn
        rw [hsl] at hn
        have hf := first_any s w hg hs (by omega)
        generalize hk1 : (PL.first s.data.toList).1 = kk at *
        generalize hk2 : (PL.first s.data.toList).2 = mm at *
        have HF := Lib.hid hf
        clear hN hsl hne hk1 hk2 hf
        by_cases e1 : kk = 1
        · have b1 : ((kk : Int) == 1) = true := by simp [e1]
          by_cases e2 : mm = s.size
          · have b2 : ((mm : Int) == (s.size : Int)) = true := by simp [e2]
            simp [e1, e2] at hn
            subst hn
            clear e1 e2
            go_enter Tryd.func84, Tryd.ntmps84
            go_wp2_with (first | (go_at_call 119; refine (keyword_any _ _).mono ?_; rintro e w' ⟨rfl, rfl⟩) | (go_at_call 71; refine HF.out.mono ?_; rintro e w' ⟨rfl, hb⟩))
            go_ret
            exact ⟨rfl, hb⟩
          · have b2 : ((mm : Int) == (s.size : Int)) = false := beq_eq_false_iff_ne.2 (by omega)
            simp [e2] at hn
            subst hn
            clear e1 e2
            go_enter Tryd.func84, Tryd.ntmps84
            go_wp2_with (first | (go_at_call 119; refine (keyword_any _ _).mono ?_; rintro e w' ⟨rfl, rfl⟩) | (go_at_call 71; refine HF.out.mono ?_; rintro e w' ⟨rfl, hb⟩))
            go_ret
            exact ⟨rfl, hb⟩
        · have b1 : ((kk : Int) == 1) = false := beq_eq_false_iff_ne.2 (by omega)
          simp [e1] at hn
          subst hn
          clear e1
          go_enter Tryd.func84, Tryd.ntmps84
          go_wp2_with (first | (go_at_call 119; refine (keyword_any _ _).mono ?_; rintro e w' ⟨rfl, rfl⟩) | (go_at_call 71; refine HF.out.mono ?_; rintro e w' ⟨rfl, hb⟩))
          go_ret
          exact ⟨rfl, hb⟩
    · simp [h12] at hn
      subst hn
      clear hN hsl hne
      go_enter Tryd.func84, Tryd.ntmps84
      go_wp2_with fail
      go_ret
      exact ⟨rfl, Below.refl _ _⟩
end
end Go.Proofs.YtaaaicpjlaeiiaaDoor
