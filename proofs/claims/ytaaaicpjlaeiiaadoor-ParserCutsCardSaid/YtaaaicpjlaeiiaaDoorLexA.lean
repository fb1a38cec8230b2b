/- The contracts of the lexer's small predicates on bytes, and of the count. -/
import Derived.Test.YtaaaicpjlaeiiaaDoorRows
import Derived.Test.YtaaaicpjlaeiiaaDoorPlainLex
import Derived.WalkKit
import Derived.WalkSpells
import Derived.WalkLawsBesides
import Derived.Deep.QuietTactic
import Derived.BigQuiet
import Derived.Lib.Hide
namespace Go.Proofs.YtaaaicpjlaeiiaaDoor
open Go.RowKit

theorem isLetter_any (c : UInt8) (w : World) :
    Calls Tryd.prog 110 #[.int .u8 (c.toNat : Int)] w fun e w' => e = .returned (.bool (PL.isLetter c)) ∧ w = w' := by
  by_cases h1 : (97 : Int) ≤ (c.toNat : Int) <;> by_cases h2 : (c.toNat : Int) ≤ 122
  all_goals
    go_enter Tryd.func110, Tryd.ntmps110
    go_wp2
    go_ret
    exact ⟨by rw [PL.isLetter_eq]; simp [h1, h2], rfl⟩
theorem isDigit_any (c : UInt8) (w : World) :
    Calls Tryd.prog 112 #[.int .u8 (c.toNat : Int)] w fun e w' => e = .returned (.bool (PL.isDigit c)) ∧ w = w' := by
  by_cases h1 : (48 : Int) ≤ (c.toNat : Int) <;> by_cases h2 : (c.toNat : Int) ≤ 57
  all_goals
    go_enter Tryd.func112, Tryd.ntmps112
    go_wp2
    go_ret
    exact ⟨by rw [PL.isDigit_eq]; simp [h1, h2], rfl⟩
theorem isInner_any (c : UInt8) (w : World) :
    Calls Tryd.prog 111 #[.int .u8 (c.toNat : Int)] w fun e w' => e = .returned (.bool (PL.isInner c)) ∧ w = w' := by
  cases h1 : PL.isLetter c
  all_goals
    go_enter Tryd.func111, Tryd.ntmps111
    go_wp2_with (first | (go_at_call 110; refine (isLetter_any _ _).mono ?_; rintro e w' ⟨rfl, rfl⟩) | (go_at_call 112; refine (isDigit_any _ _).mono ?_; rintro e w' ⟨rfl, rfl⟩))
    go_ret
    exact ⟨by simp [PL.isInner, h1], rfl⟩
theorem isSpace_any (c : UInt8) (w : World) :
    Calls Tryd.prog 113 #[.int .u8 (c.toNat : Int)] w fun e w' => e = .returned (.bool (PL.isSpace c)) ∧ w = w' := by
  cases h1 : ((c.toNat : Int) == 32) <;> cases h2 : ((c.toNat : Int) == 9) <;> cases h3 : ((c.toNat : Int) == 13) <;> cases h4 : ((c.toNat : Int) == 10)
  all_goals
    go_enter Tryd.func113, Tryd.ntmps113
    go_wp2
    go_ret
    exact ⟨by rw [PL.isSpace_eq]; simp [h1, h2, h3, h4], rfl⟩
theorem isText_any (c : UInt8) (w : World) :
    Calls Tryd.prog 114 #[.int .u8 (c.toNat : Int)] w fun e w' => e = .returned (.bool (PL.isText c)) ∧ w = w' := by
  go_enter Tryd.func114, Tryd.ntmps114
  go_wp2
  go_ret
  exact ⟨by rw [PL.isText_eq]; rfl, rfl⟩

/-- The count over any of the four predicates. -/
theorem count_any (f : FuncId) (p : UInt8 → Bool) (hf : ∀ (c : UInt8) (w : World), Calls Tryd.prog f #[.int .u8 (c.toNat : Int)] w fun e w' => e = .returned (.bool (p c)) ∧ w = w')
    (hcf : ∀ (v : Value) (w : World), Sem.run Tryd.prog (callFunc f #[v]) w = .ok (Next.enter f #[v]) w) (s : ByteArray) (b : Nat) (w : World) (hs : s.size ≤ maxLen) (h1 : 1 ≤ s.size) (hc : w.cell? ⟨b, 0, none⟩ = some (.string s)) :
    Calls Tryd.prog 109 #[.func (.func f) #[] #[], .pointer (some ⟨b, 0, none⟩)] w fun e w' => e = .returned (.int .i64 (PL.count p s.data.toList)) ∧ w = w' := by
  unfold maxLen at hs
  have HF := Lib.hid hf
  clear hf
  go_enter Tryd.func109, Tryd.ntmps109
  go_wp2_with fail
  go_loop [4] (fun i => ∃ k : Nat, PL.Ran p s k ∧ i = .int .i64 k) (fun i => s.size - (intOf i).toNat)
  case atStart => exact ⟨1, PL.Ran.start p s h1, rfl⟩
  case round =>
    obtain ⟨k, hk, rfl⟩ := hrel
    have hk1 := hk.1
    have hk2 := hk.2.1
    by_cases hlt : k < s.size
    · cases hp : p s[k]
      · go_wp2_with (refine (HF.out _ _).mono ?_; rintro e w' ⟨rfl, rfl⟩)
        go_ret
        exact ⟨by rw [hk.done (.inr ⟨hlt, hp⟩)]; rfl, rfl⟩
      · go_wp2_with (refine (HF.out _ _).mono ?_; rintro e w' ⟨rfl, rfl⟩)
        go_round
        case rel => exact ⟨k + 1, hk.next hlt hp, by go_num⟩
        case measure => simp [intOf]; omega
    · go_wp2_with fail
      go_ret
      exact ⟨by rw [hk.done (.inl (by omega))]; rfl, rfl⟩

theorem cf_inner (v : Value) (w : World) : Sem.run Tryd.prog (callFunc 111 #[v]) w = .ok (Next.enter 111 #[v]) w := by kernel_rfl
theorem cf_digit (v : Value) (w : World) : Sem.run Tryd.prog (callFunc 112 #[v]) w = .ok (Next.enter 112 #[v]) w := by kernel_rfl
theorem cf_space (v : Value) (w : World) : Sem.run Tryd.prog (callFunc 113 #[v]) w = .ok (Next.enter 113 #[v]) w := by kernel_rfl
theorem cf_text (v : Value) (w : World) : Sem.run Tryd.prog (callFunc 114 #[v]) w = .ok (Next.enter 114 #[v]) w := by kernel_rfl

end Go.Proofs.YtaaaicpjlaeiiaaDoor
