/- Merged from Mem, LexA, LexB, LexC, Name1, Sol (wip/pack.py). -/
import Derived.WalkKit
import Derived.Deep.Draws
import Derived.Deep.QuietTactic
import Derived.BigQuiet
import Derived.Lib.Hide
import Derived.Test.YtkeehpgnljieeaaDoorRows
import Derived.Test.YtkeehpgnljieeaaDoorKA
import Derived.WalkSpells
import Derived.WalkLawsBesides
import Derived.Lib.Strings
import Derived.Lib.Slices
import Derived.Lib.Walk
import Derived.Lib.IndexBytes
/- Small facts on memory that many walks use. -/
namespace Go.Proofs.YtkeehpgnljieeaaDoor
open Go.RowKit

theorem grown_of_below {a w : World} (h : Below a.heap.size a w) (row : Option Nat) : a.grownBy w row := ⟨h.os, h.tape, h.output, h.size, fun i hi _ => h.block i hi⟩
theorem own_below {w w' : World} {base : Nat} {e : TypeId} {size : Nat} {v : Value} {n : Nat} {xs : List Value} (h : w.ownsRow base e size v n xs) (hb : Below w.heap.size w w') : w'.ownsRow base e size v n xs :=
  h.kept (grown_of_below hb none) (by cases hv : v.ownBlock <;> simp)
theorem below_grow {B : Nat} {a w w' : World} {row : Option Nat} (h : Below B a w) (hg : w.grownBy w' row) (hB : B ≤ w.heap.size) (hr : ∀ k, row = some k → B ≤ k) : Below B a w' :=
  h.grown hg hB hr

/-- An owned row that is not empty: its value, and its cells one by one. -/
theorem own_cells {w : World} {base : Nat} {e : TypeId} {size : Nat} {v : Value} {n : Nat} {xs : List Value} (h : w.ownsRow base e size v n xs) (hn : 0 < n) :
    ∃ g cap, v = .slice (some ⟨g, 0, none⟩) n cap ∧ base ≤ g ∧ g < w.heap.size ∧ n ≤ cap ∧ ∀ j u, xs[j]? = some u → w.cell? ⟨g, j, none⟩ = some u := by
  rcases h.2 with ⟨_, rfl⟩ | ⟨g, cap, cur, rfl, hb, hg, hc, _, _, _⟩
  · omega
  · refine ⟨g, cap, rfl, hb, (Array.getElem?_eq_some_iff.1 hg).1, hc, fun j u hu => ?_⟩
    have := h.cells (g := g) rfl j u hu
    rwa [show (⟨g, 0, none⟩ : Addr).add j = ⟨g, j, none⟩ from by unfold Addr.add; split <;> simp_all] at this
theorem below_drewN {B : Nat} {a w : World} (h : Below B a w) (n : Nat) : Below B a (w.drewN n) := ⟨h.os, h.tape, h.output, h.size, h.block⟩
/-- The value of an owned row is a slice of its length. -/
theorem own_form {w : World} {base : Nat} {e : TypeId} {size : Nat} {v : Value} {n : Nat} {xs : List Value} (h : w.ownsRow base e size v n xs) : ∃ A cap, v = .slice A n cap := by
  rcases h.2 with ⟨rfl, rfl⟩ | ⟨g, cap, _, rfl, _⟩
  · exact ⟨_, _, rfl⟩
  · exact ⟨_, _, rfl⟩

/-- A contract that leaves the world alone, behind draws: for a quiet region. -/
theorem quiet_left {P : Program} {f : FuncId} {args : Array Value} {w : World} {n : Nat} {v : Value}
    (h : Calls P f args (w.drewN n) fun e w' => e = .returned v ∧ w.drewN n = w') : Calls P f args (w.drewN n) fun e w'' => e = .returned v ∧ ∃ m, w'' = w.drewN m :=
  h.mono fun _ _ ⟨he, hm⟩ => ⟨he, n, hm.symm⟩
theorem quiet_add_left {P : Program} {f : FuncId} {args : Array Value} {w : World} {a n : Nat} {v : Value}
    (h : Calls P f args (w.drewN (a + n)) fun e w' => e = .returned v ∧ w.drewN (a + n) = w') :
    Calls P f args (w.drewN (a + n)) fun e w'' => e = .returned v ∧ ∃ m, w'' = w.drewN (a + m) :=
  h.mono fun _ _ ⟨he, hm⟩ => ⟨he, n, hm.symm⟩

theorem below_step {a b c : World} (h : Below a.heap.size a b) (k : Below b.heap.size b c) : Below a.heap.size a c := h.trans (k.mono h.size)
theorem below_new {a b : World} (h : Below a.heap.size a b) (o : Obj) : Below a.heap.size a (b.alloc o) := h.alloc h.size o

end Go.Proofs.YtkeehpgnljieeaaDoor
/- The contracts of the lexer's small predicates on bytes, and of the count. -/
namespace Go.Proofs.YtkeehpgnljieeaaDoor
open Go.RowKit

theorem isLetter_any (c : UInt8) (w : World) :
    Calls Tryd.prog 45 #[.int .u8 (c.toNat : Int)] w fun e w' => e = .returned (.bool (PL.isLetter c)) ∧ w = w' := by
  by_cases h1 : (97 : Int) ≤ (c.toNat : Int) <;> by_cases h2 : (c.toNat : Int) ≤ 122
  all_goals
    go_enter Tryd.func45, Tryd.ntmps45
    go_wp2
    go_ret
    exact ⟨by rw [PL.isLetter_eq]; simp [h1, h2], rfl⟩
theorem isDigit_any (c : UInt8) (w : World) :
    Calls Tryd.prog 47 #[.int .u8 (c.toNat : Int)] w fun e w' => e = .returned (.bool (PL.isDigit c)) ∧ w = w' := by
  by_cases h1 : (48 : Int) ≤ (c.toNat : Int) <;> by_cases h2 : (c.toNat : Int) ≤ 57
  all_goals
    go_enter Tryd.func47, Tryd.ntmps47
    go_wp2
    go_ret
    exact ⟨by rw [PL.isDigit_eq]; simp [h1, h2], rfl⟩
theorem isInner_any (c : UInt8) (w : World) :
    Calls Tryd.prog 46 #[.int .u8 (c.toNat : Int)] w fun e w' => e = .returned (.bool (PL.isInner c)) ∧ w = w' := by
  cases h1 : PL.isLetter c
  all_goals
    go_enter Tryd.func46, Tryd.ntmps46
    go_wp2_with (first | (go_at_call 45; refine (isLetter_any _ _).mono ?_; rintro e w' ⟨rfl, rfl⟩) | (go_at_call 47; refine (isDigit_any _ _).mono ?_; rintro e w' ⟨rfl, rfl⟩))
    go_ret
    exact ⟨by simp [PL.isInner, h1], rfl⟩
theorem isSpace_any (c : UInt8) (w : World) :
    Calls Tryd.prog 48 #[.int .u8 (c.toNat : Int)] w fun e w' => e = .returned (.bool (PL.isSpace c)) ∧ w = w' := by
  cases h1 : ((c.toNat : Int) == 32) <;> cases h2 : ((c.toNat : Int) == 9) <;> cases h3 : ((c.toNat : Int) == 13) <;> cases h4 : ((c.toNat : Int) == 10)
  all_goals
    go_enter Tryd.func48, Tryd.ntmps48
    go_wp2
    go_ret
    exact ⟨by rw [PL.isSpace_eq]; simp [h1, h2, h3, h4], rfl⟩
theorem isText_any (c : UInt8) (w : World) :
    Calls Tryd.prog 49 #[.int .u8 (c.toNat : Int)] w fun e w' => e = .returned (.bool (PL.isText c)) ∧ w = w' := by
  go_enter Tryd.func49, Tryd.ntmps49
  go_wp2
  go_ret
  exact ⟨by rw [PL.isText_eq]; rfl, rfl⟩

/-- The count over any of the four predicates. -/
theorem count_any (f : FuncId) (p : UInt8 → Bool) (hf : ∀ (c : UInt8) (w : World), Calls Tryd.prog f #[.int .u8 (c.toNat : Int)] w fun e w' => e = .returned (.bool (p c)) ∧ w = w')
    (hcf : ∀ (v : Value) (w : World), Sem.run Tryd.prog (callFunc f #[v]) w = .ok (Next.enter f #[v]) w) (s : ByteArray) (b : Nat) (w : World) (hs : s.size ≤ maxLen) (h1 : 1 ≤ s.size) (hc : w.cell? ⟨b, 0, none⟩ = some (.string s)) :
    Calls Tryd.prog 44 #[.func (.func f) #[] #[], .pointer (some ⟨b, 0, none⟩)] w fun e w' => e = .returned (.int .i64 (PL.count p s.data.toList)) ∧ w = w' := by
  unfold maxLen at hs
  have HF := Lib.hid hf
  clear hf
  go_enter Tryd.func44, Tryd.ntmps44
  go_wp2_with fail
  go_loop [4] (fun i => ∃ k : Nat, PL.Ran p s k ∧ i = .int .i64 k) (fun i => s.size - (intOf i).toNat)
  case atStart => exact ⟨1, PL.Ran.start p s h1, rfl⟩
  case round =>
    obtain ⟨k, hk, rfl⟩ := hrel
    have hk1 := hk.1
    have hk2 := hk.2.1
    by_cases hlt : k < s.size
    · cases hp : p s[k]
      · go_wp2_with (refine (HF.out _ _).mono ?_; rintro e w' ⟨rfl, rfl⟩)
        go_ret
        exact ⟨by rw [hk.done (.inr ⟨hlt, hp⟩)]; rfl, rfl⟩
      · go_wp2_with (refine (HF.out _ _).mono ?_; rintro e w' ⟨rfl, rfl⟩)
        go_round
        case rel => exact ⟨k + 1, hk.next hlt hp, by go_num⟩
        case measure => simp [intOf]; omega
    · go_wp2_with fail
      go_ret
      exact ⟨by rw [hk.done (.inl (by omega))]; rfl, rfl⟩

theorem cf_inner (v : Value) (w : World) : Sem.run Tryd.prog (callFunc 46 #[v]) w = .ok (Next.enter 46 #[v]) w := by kernel_rfl
theorem cf_digit (v : Value) (w : World) : Sem.run Tryd.prog (callFunc 47 #[v]) w = .ok (Next.enter 47 #[v]) w := by kernel_rfl
theorem cf_space (v : Value) (w : World) : Sem.run Tryd.prog (callFunc 48 #[v]) w = .ok (Next.enter 48 #[v]) w := by kernel_rfl
theorem cf_text (v : Value) (w : World) : Sem.run Tryd.prog (callFunc 49 #[v]) w = .ok (Next.enter 49 #[v]) w := by kernel_rfl

end Go.Proofs.YtkeehpgnljieeaaDoor
/- The contracts of strings.HasPrefix and of the lexer's first. -/
namespace Go.Proofs.YtkeehpgnljieeaaDoor
open Go.RowKit

theorem lite_prefix (s p : ByteArray) (w : World) :
    Calls Tryd.prog 53 #[.string s, .string p] w fun e w' => e = .returned (.bool (Lib.hasPrefix s.data.toList p.data.toList)) ∧ w = w' := by
  rw [← Lib.hasPrefix_of_take, ← Lib.size_eq, ← Lib.size_eq]
  go_enter Tryd.func53, Tryd.ntmps53
  go_wp2
  · rename_i h
    go_ret
    refine ⟨?_, rfl⟩
    show Ending.returned (Value.bool ((s.extract 0 p.size).toList == p.toList)) = _
    rw [Lib.extract_toList, Lib.toList_data]
    simp [h]
  · rename_i h
    go_ret
    refine ⟨?_, rfl⟩
    show Ending.returned (Value.bool false) = _
    simp [h]
theorem has_prefix (s p : ByteArray) (w : World) :
    Calls Tryd.prog 50 #[.string s, .string p] w fun e w' => e = .returned (.bool (Lib.hasPrefix s.data.toList p.data.toList)) ∧ w = w' := by
  go_enter Tryd.func50, Tryd.ntmps50
  go_wp2_with (go_at_call 53; refine (lite_prefix _ _ _).mono ?_; rintro e w' ⟨rfl, rfl⟩)
  go_ret
  exact ⟨rfl, rfl⟩

def signCells : Array Value := (PL.signs.map fun g => Value.string ⟨g.toArray⟩).toArray
def SignsIs (w : World) : Prop := ∃ (t : TypeId) (fr : Nat × Nat), w.heap[1]? = some (.cells signCells t fr)
theorem SignsIs.pos {w : World} (h : SignsIs w) : 1 < w.heap.size := by
  obtain ⟨t, fr, h⟩ := h
  exact (Array.getElem?_eq_some_iff.1 h).1
theorem SignsIs.below {w w' : World} {B : Nat} (h : SignsIs w) (hb : Below B w w') (hB : 1 < B) : SignsIs w' := by
  obtain ⟨t, fr, h⟩ := h
  exact ⟨t, fr, (hb.block 1 hB).trans h⟩

theorem idx_signs (k : Nat) (hk : k < 28) (w : World) :
    (Instr.index 78 (.agg signCells) (.int .i64 (k : Int))).run Tryd.prog w = .ok (.string ⟨(PL.signs.getD k []).toArray⟩) w := 
  match k, hk with
  | 0, _ => by kernel_rfl
  | 1, _ => by kernel_rfl
  | 2, _ => by kernel_rfl
  | 3, _ => by kernel_rfl
  | 4, _ => by kernel_rfl
  | 5, _ => by kernel_rfl
  | 6, _ => by kernel_rfl
  | 7, _ => by kernel_rfl
  | 8, _ => by kernel_rfl
  | 9, _ => by kernel_rfl
  | 10, _ => by kernel_rfl
  | 11, _ => by kernel_rfl
  | 12, _ => by kernel_rfl
  | 13, _ => by kernel_rfl
  | 14, _ => by kernel_rfl
  | 15, _ => by kernel_rfl
  | 16, _ => by kernel_rfl
  | 17, _ => by kernel_rfl
  | 18, _ => by kernel_rfl
  | 19, _ => by kernel_rfl
  | 20, _ => by kernel_rfl
  | 21, _ => by kernel_rfl
  | 22, _ => by kernel_rfl
  | 23, _ => by kernel_rfl
  | 24, _ => by kernel_rfl
  | 25, _ => by kernel_rfl
  | 26, _ => by kernel_rfl
  | 27, _ => by kernel_rfl
  | k + 28, h => by omega

/-- What the loop over the signs has seen after k rounds. -/
def NoSign (s : ByteArray) (k : Nat) : Prop := k ≤ 28 ∧ ∀ i, i < k → Lib.hasPrefix s.data.toList (PL.signs.getD i []) = false
theorem NoSign.next {s : ByteArray} {k : Nat} (h : NoSign s k) (hk : k < 28) (hp : Lib.hasPrefix s.data.toList (PL.signs.getD k []) = false) : NoSign s (k + 1) :=
  ⟨by omega, fun i hi => by
    rcases Nat.lt_or_ge i k with h3 | h3
    · exact h.2 i h3
    · obtain rfl : i = k := by omega
      exact hp⟩
theorem find_at {α : Type} (p : α → Bool) (d : α) : ∀ (l : List α) (k : Nat), k < l.length → (∀ i, i < k → p (l.getD i d) = false) → p (l.getD k d) = true → l.find? p = some (l.getD k d)
  | [], k, h, _, _ => by simp at h
  | a :: l, 0, _, _, h => by simp at h; simp [h]
  | a :: l, k + 1, h1, h2, h3 => by
    have h0 := h2 0 (by omega)
    simp only [List.getD_cons_zero] at h0
    rw [List.find?_cons_of_neg (by simp [h0])]
    exact find_at p d l k (by simpa using h1) (fun i hi => by simpa using h2 (i + 1) (by omega)) (by simpa using h3)
theorem find_none {α : Type} (p : α → Bool) (d : α) (l : List α) (h : ∀ i, i < l.length → p (l.getD i d) = false) : l.find? p = none := by
  rw [List.find?_eq_none]
  intro x hx
  obtain ⟨i, hi, rfl⟩ := List.mem_iff_getElem.1 hx
  have := h i hi
  rw [List.getD_eq_getElem?_getD, List.getElem?_eq_getElem hi] at this
  simpa using this

section
set_option maxHeartbeats 400000
theorem first_word (s : ByteArray) (w : World) (hs : s.size ≤ maxLen) (h1 : 1 ≤ s.size) (hb : PL.isLetter s[0] = true) :
    Calls Tryd.prog 41 #[.string s] w fun e w' => e = .returned (.tuple #[.int .u8 1, .int .i64 (PL.count PL.isInner s.data.toList)]) ∧ Below w.heap.size w w' := by
  go_enter Tryd.func41, Tryd.ntmps41
  go_wp2_with (first | (go_at_call 45; refine (isLetter_any _ _).mono ?_; rintro e w' ⟨rfl, rfl⟩) | (go_at_call 44; refine (count_any _ _ isInner_any cf_inner s _ _ hs h1 (by simp)).mono ?_; rintro e w' ⟨rfl, rfl⟩))
  go_ret2
  exact ⟨rfl, (Below.refl _ _).alloc (Nat.le_refl _) _⟩
theorem first_number (s : ByteArray) (w : World) (hs : s.size ≤ maxLen) (h1 : 1 ≤ s.size) (hb : PL.isLetter s[0] = false) (hb2 : PL.isDigit s[0] = true) :
    Calls Tryd.prog 41 #[.string s] w fun e w' => e = .returned (.tuple #[.int .u8 2, .int .i64 (PL.count PL.isDigit s.data.toList)]) ∧ Below w.heap.size w w' := by
  go_enter Tryd.func41, Tryd.ntmps41
  go_wp2_with (first | (go_at_call 45; refine (isLetter_any _ _).mono ?_; rintro e w' ⟨rfl, rfl⟩) | (go_at_call 47; refine (isDigit_any _ _).mono ?_; rintro e w' ⟨rfl, rfl⟩) | (go_at_call 44; refine (count_any _ _ isDigit_any cf_digit s _ _ hs h1 (by simp)).mono ?_; rintro e w' ⟨rfl, rfl⟩))
  go_ret2
  exact ⟨rfl, (Below.refl _ _).alloc (Nat.le_refl _) _⟩
theorem first_space (s : ByteArray) (w : World) (hs : s.size ≤ maxLen) (h1 : 1 ≤ s.size) (hb : PL.isLetter s[0] = false) (hb2 : PL.isDigit s[0] = false) (hb3 : PL.isSpace s[0] = true) :
    Calls Tryd.prog 41 #[.string s] w fun e w' => e = .returned (.tuple #[.int .u8 4, .int .i64 (PL.count PL.isSpace s.data.toList)]) ∧ Below w.heap.size w w' := by
  go_enter Tryd.func41, Tryd.ntmps41
  go_wp2_with (first | (go_at_call 45; refine (isLetter_any _ _).mono ?_; rintro e w' ⟨rfl, rfl⟩) | (go_at_call 47; refine (isDigit_any _ _).mono ?_; rintro e w' ⟨rfl, rfl⟩) | (go_at_call 48; refine (isSpace_any _ _).mono ?_; rintro e w' ⟨rfl, rfl⟩) | (go_at_call 44; refine (count_any _ _ isSpace_any cf_space s _ _ hs h1 (by simp)).mono ?_; rintro e w' ⟨rfl, rfl⟩))
  go_ret2
  exact ⟨rfl, (Below.refl _ _).alloc (Nat.le_refl _) _⟩
theorem first_comment (s : ByteArray) (w : World) (hs : s.size ≤ maxLen) (h1 : 1 ≤ s.size) (hb : PL.isLetter s[0] = false) (hb2 : PL.isDigit s[0] = false) (hb3 : PL.isSpace s[0] = false) (hb4 : ((s[0].toNat : Int) == 35) = true) :
    Calls Tryd.prog 41 #[.string s] w fun e w' => e = .returned (.tuple #[.int .u8 5, .int .i64 (PL.count PL.isText s.data.toList)]) ∧ Below w.heap.size w w' := by
  go_enter Tryd.func41, Tryd.ntmps41
  go_wp2_with (first | (go_at_call 45; refine (isLetter_any _ _).mono ?_; rintro e w' ⟨rfl, rfl⟩) | (go_at_call 47; refine (isDigit_any _ _).mono ?_; rintro e w' ⟨rfl, rfl⟩) | (go_at_call 48; refine (isSpace_any _ _).mono ?_; rintro e w' ⟨rfl, rfl⟩) | (go_at_call 44; refine (count_any _ _ isText_any cf_text s _ _ hs h1 (by simp)).mono ?_; rintro e w' ⟨rfl, rfl⟩))
  go_ret2
  exact ⟨rfl, (Below.refl _ _).alloc (Nat.le_refl _) _⟩

def SignEnd (s : ByteArray) (w : World) (e : Ending) (w' : World) : Prop :=
  Below w.heap.size w w' ∧ ((∃ g, PL.signs.find? (fun g => g.isPrefixOf s.data.toList) = some g ∧ e = .returned (.tuple #[.int .u8 3, .int .i64 (g.length : Int)])) ∨
    (PL.signs.find? (fun g => g.isPrefixOf s.data.toList) = none ∧ e = .returned (.tuple #[.int .u8 0, .int .i64 0])))
theorem first_sign (s : ByteArray) (w : World) (hg : SignsIs w) (_hs : s.size ≤ maxLen) (h1 : 1 ≤ s.size) (hb : PL.isLetter s[0] = false) (hb2 : PL.isDigit s[0] = false) (hb3 : PL.isSpace s[0] = false) (hb4 : ((s[0].toNat : Int) == 35) = false) :
    Calls Tryd.prog 41 #[.string s] w (SignEnd s w) := by
  obtain ⟨tt, fr, h0⟩ := hg
  have h0' : (w.alloc (.cells #[.string s] 9)).heap[1]? = some (.cells signCells tt fr) := by
    exact (Below.heap_alloc _ _ _ (Array.getElem?_eq_some_iff.1 h0).1).trans h0
  have H0 := Lib.hid h0'
  clear h0 h0'
  go_enter Tryd.func41, Tryd.ntmps41
  go_wp2_with (first | (go_at_call 45; refine (isLetter_any _ _).mono ?_; rintro e w' ⟨rfl, rfl⟩) | (go_at_call 47; refine (isDigit_any _ _).mono ?_; rintro e w' ⟨rfl, rfl⟩) | (go_at_call 48; refine (isSpace_any _ _).mono ?_; rintro e w' ⟨rfl, rfl⟩) | (refine wpList_load_row rfl 78 _ rfl 1 rfl tt _ fr _ H0.out Tryd.underlying78 rfl (by kernel_rfl) ?_))
  go_loop [32] (fun i => ∃ k : Nat, NoSign s k ∧ i = .int .i64 k) (fun i => 28 - (intOf i).toNat)
  case atStart => exact ⟨0, ⟨by omega, fun i hi => by omega⟩, rfl⟩
  case round =>
    obtain ⟨k, hk, rfl⟩ := hrel
    have hk1 := hk.1
    by_cases hlt : k < 28
    · have hix := idx_signs k hlt
      generalize hgg : PL.signs.getD k [] = gg at hix
      have Hgg := Lib.hid hgg
      clear hgg
      cases hp : Lib.hasPrefix s.data.toList gg
      · go_wp2_with ((go_at_call 50; refine (has_prefix _ _ _).mono ?_; rintro e w' ⟨rfl, rfl⟩))
        go_round
        case rel => exact ⟨k + 1, hk.next hlt (by rw [Hgg.out]; exact hp), by go_num⟩
        case measure => simp [intOf]; omega
      · go_wp2_with ((go_at_call 50; refine (has_prefix _ _ _).mono ?_; rintro e w' ⟨rfl, rfl⟩))
        go_ret2
        refine ⟨(Below.refl _ _).alloc (Nat.le_refl _) _, .inl ⟨gg, ?_, ?_⟩⟩
        · rw [← Hgg.out]
          exact find_at _ [] PL.signs k (by simpa [PL.signs] using hlt) hk.2 (by rw [Hgg.out]; exact hp)
        · rfl
    · go_wp2_with fail
      go_ret2
      exact ⟨(Below.refl _ _).alloc (Nat.le_refl _) _, .inr ⟨find_none _ [] PL.signs (fun i hi => hk.2 i (by simp [PL.signs] at hi; omega)), rfl⟩⟩
end
/-- The first token of a text that is not empty. -/
theorem first_any (s : ByteArray) (w : World) (hg : SignsIs w) (hs : s.size ≤ maxLen) (h1 : 1 ≤ s.size) :
    Calls Tryd.prog 41 #[.string s] w fun e w' => e = .returned (.tuple #[.int .u8 ((PL.first s.data.toList).1 : Int), .int .i64 ((PL.first s.data.toList).2 : Int)]) ∧ Below w.heap.size w w' := by
  have hl : s.data.toList = s[0] :: s.data.toList.tail := by
    have hlen : 0 < s.data.toList.length := by rw [Array.length_toList]; exact h1
    cases hc : s.data.toList with
    | nil => rw [hc] at hlen; simp at hlen
    | cons a t =>
      have : s.data.toList[0] = a := by simp [hc]
      rw [← this]; rfl
  have hf : PL.first s.data.toList = (if PL.isLetter s[0] then (1, PL.count PL.isInner s.data.toList)
    else if PL.isDigit s[0] then (2, PL.count PL.isDigit s.data.toList)
    else if PL.isSpace s[0] then (4, PL.count PL.isSpace s.data.toList)
    else if s[0] == 35 then (5, PL.count PL.isText s.data.toList)
    else match PL.signs.find? (fun g => g.isPrefixOf s.data.toList) with
      | some g => (3, g.length)
      | none => (0, 0)) := by
    unfold PL.first
    rw [hl]; rfl
  rw [hf]
  clear hf hl
  cases hb : PL.isLetter s[0] with
  | true => exact first_word s w hs h1 hb
  | false =>
    cases hb2 : PL.isDigit s[0] with
    | true => exact first_number s w hs h1 hb hb2
    | false =>
      cases hb3 : PL.isSpace s[0] with
      | true => exact first_space s w hs h1 hb hb2 hb3
      | false =>
        cases hb4 : s[0] == 35 with
        | true => exact first_comment s w hs h1 hb hb2 hb3 (by rw [PL.byte_beq] at hb4; exact hb4)
        | false =>
          refine (first_sign s w hg hs h1 hb hb2 hb3 (by rw [PL.byte_beq] at hb4; exact hb4)).mono ?_
          rintro e w' ⟨hw, ⟨g, h, rfl⟩ | ⟨h, rfl⟩⟩
          · exact ⟨by simp [h], hw⟩
          · exact ⟨by simp [h], hw⟩
end Go.Proofs.YtkeehpgnljieeaaDoor
/- The contract of lexer.Lex. -/
namespace Go.Proofs.YtkeehpgnljieeaaDoor
open Go.RowKit

def tokCells (t : PL.Tok) : List Value := [.int .u8 (t.kind : Int), .string ⟨t.text.toArray⟩, .int .i64 (t.pos : Int)]
def toksCells (ts : List PL.Tok) : List Value := ts.flatMap tokCells
theorem toksCells_length (ts : List PL.Tok) : (toksCells ts).length = ts.length * 3 := by
  induction ts with
  | nil => rfl
  | cons t ts ih => simp only [toksCells, List.flatMap_cons, List.length_append, List.length_cons] at ih ⊢; rw [ih]; simp [tokCells]; omega
theorem toksCells_snoc (ts : List PL.Tok) (t : PL.Tok) : toksCells (ts ++ [t]) = toksCells ts ++ tokCells t := by simp [toksCells]

/-- The three cells of the token at an index. -/
theorem toksCells_at {ts : List PL.Tok} {i : Nat} {t : PL.Tok} (h : ts[i]? = some t) :
    (toksCells ts)[i * 3]? = some (.int .u8 (t.kind : Int)) ∧ (toksCells ts)[i * 3 + 1]? = some (.string ⟨t.text.toArray⟩) ∧ (toksCells ts)[i * 3 + 2]? = some (.int .i64 (t.pos : Int)) := by
  induction ts generalizing i with
  | nil => simp at h
  | cons a ts ih =>
    cases i with
    | zero => simp at h; subst h; simp [toksCells, tokCells]
    | succ i =>
      obtain ⟨h0, h1, h2⟩ := ih (i := i) (by simpa using h)
      have e : toksCells (a :: ts) = tokCells a ++ toksCells ts := by simp [toksCells]
      have hl : (tokCells a).length = 3 := rfl
      rw [e]
      refine ⟨?_, ?_, ?_⟩
      · rw [List.getElem?_append_right (by omega), hl, show (i + 1) * 3 - 3 = i * 3 from by omega]; exact h0
      · rw [List.getElem?_append_right (by omega), hl, show (i + 1) * 3 + 1 - 3 = i * 3 + 1 from by omega]; exact h1
      · rw [List.getElem?_append_right (by omega), hl, show (i + 1) * 3 + 2 - 3 = i * 3 + 2 from by omega]; exact h2
theorem bytes_ext {a b : ByteArray} (h : a.data.toList = b.data.toList) : a = b := by
  cases a; cases b; congr 1; exact Array.ext' h
theorem drop_bytes (s : ByteArray) (k : Nat) : (s.extract k s.size).data.toList = s.data.toList.drop k := Lib.extract_to_end s k
theorem cut_bytes (s : ByteArray) (k m : Nat) : s.extract k (k + m) = ⟨((s.data.toList.drop k).take m).toArray⟩ :=
  bytes_ext (by rw [Lib.extract_data]; simp)
theorem cutd (s : ByteArray) (k m : Nat) : (s.extract k (k + m)).data.toList = (s.data.toList.drop k).take m := by rw [Lib.extract_data]; simp
theorem cells_three (w : World) (a b c : Value) (t : TypeId) : ∀ (j : Nat) (u : Value), [a, b, c][j]? = some u → (w.alloc (.cells #[a, b, c] t)).cell? ((⟨w.heap.size, 0, none⟩ : Addr).add j) = some u := by
  intro j u hj
  match j, hj with
  | 0, hj => simp at hj; subst hj; simp [Addr.add]
  | 1, hj => simp at hj; subst hj; simp [Addr.add]
  | 2, hj => simp at hj; subst hj; simp [Addr.add]

end Go.Proofs.YtkeehpgnljieeaaDoor
/- The contracts of lexer.Keyword and lexer.Name. -/
namespace Go.Proofs.YtkeehpgnljieeaaDoor
open Go.RowKit

def hasB (ss : List (List UInt8)) (x : List UInt8) : Bool := ss.contains x
section
set_option maxHeartbeats 400000
set_option maxRecDepth 100000
theorem keyword_no (s : ByteArray) (w : World) (h : hasB PL.keywords s.data.toList = false) :
    Calls Tryd.prog 40 #[.string s] w fun e w' => e = .returned (.bool false) ∧ w = w' := by
  have key : ∀ l ∈ PL.keywords, (s.toList == l) = false := by
    intro l hl
    rw [Lib.toList_data]
    cases hc : (s.data.toList == l) with
    | false => rfl
    | true =>
      have : s.data.toList = l := by simpa using hc
      unfold hasB at h
      rw [this] at h
      have h2 : PL.keywords.contains l = true := by simpa using hl
      rw [h2] at h; cases h
  have k0 : (s.toList == [97, 114, 114, 97, 121]) = false := key _ (by decide)
  have k1 : (s.toList == [98, 111, 117, 110, 100]) = false := key _ (by decide)
  have k2 : (s.toList == [101, 108, 115, 101]) = false := key _ (by decide)
  have k3 : (s.toList == [102, 111, 114]) = false := key _ (by decide)
  have k4 : (s.toList == [105, 102]) = false := key _ (by decide)
  have k5 : (s.toList == [105, 110]) = false := key _ (by decide)
  have k6 : (s.toList == [108, 111, 99, 107]) = false := key _ (by decide)
  have k7 : (s.toList == [111, 117, 116]) = false := key _ (by decide)
  have k8 : (s.toList == [112, 101, 114, 105, 111, 100]) = false := key _ (by decide)
  have k9 : (s.toList == [115, 104, 97, 114, 101, 100]) = false := key _ (by decide)
  have k10 : (s.toList == [116, 97, 115, 107]) = false := key _ (by decide)
  have k11 : (s.toList == [118, 97, 114]) = false := key _ (by decide)
  have k12 : (s.toList == [119, 104, 105, 108, 101]) = false := key _ (by decide)
  clear key h
  go_enter Tryd.func40, Tryd.ntmps40
  go_wp2_with fail
  go_ret
  exact ⟨rfl, rfl⟩
theorem keyword_yes (w : World) (l : List UInt8) (hl : l ∈ PL.keywords) :
    Calls Tryd.prog 40 #[.string ⟨l.toArray⟩] w fun e w' => e = .returned (.bool true) ∧ w = w' := by
  have h : l = [97, 114, 114, 97, 121] ∨ l = [98, 111, 117, 110, 100] ∨ l = [101, 108, 115, 101] ∨ l = [102, 111, 114] ∨ l = [105, 102] ∨ l = [105, 110] ∨ l = [108, 111, 99, 107] ∨ l = [111, 117, 116] ∨ l = [112, 101, 114, 105, 111, 100] ∨ l = [115, 104, 97, 114, 101, 100] ∨ l = [116, 97, 115, 107] ∨ l = [118, 97, 114] ∨ l = [119, 104, 105, 108, 101] := by simpa [PL.keywords] using hl
  rcases h with rfl | rfl | rfl | rfl | rfl | rfl | rfl | rfl | rfl | rfl | rfl | rfl | rfl
  all_goals
    go_enter Tryd.func40, Tryd.ntmps40
    go_wp2_with fail
    go_ret
    exact ⟨rfl, rfl⟩
theorem keyword_any (s : ByteArray) (w : World) :
    Calls Tryd.prog 40 #[.string s] w fun e w' => e = .returned (.bool (hasB PL.keywords s.data.toList)) ∧ w = w' := by
  cases h : hasB PL.keywords s.data.toList with
  | false => exact keyword_no s w h
  | true =>
    have hm : s.data.toList ∈ PL.keywords := by unfold hasB at h; simpa using h
    exact keyword_yes w s.data.toList hm

def nameTail (l : List UInt8) : Bool := decide ((PL.first l).1 = 1) && decide ((PL.first l).2 = l.length)
theorem isName_eq (l : List UInt8) : PL.isName l = (!l.isEmpty && decide (l.length ≤ 12) && !hasB PL.keywords l && nameTail l) := rfl
theorem name_any (s : ByteArray) (w : World) (hg : SignsIs w) (hs : s.size ≤ maxLen) :
    Calls Tryd.prog 28 #[.string s] w fun e w' => e = .returned (.bool (PL.isName s.data.toList)) ∧ Below w.heap.size w w' := by
  have hsl : s.data.toList.length = s.size := Array.length_toList
  have hn := isName_eq s.data.toList
  rw [hsl] at hn
  generalize hN : PL.isName s.data.toList = nm at *
  by_cases h0 : s.size = 0
  · have he : s.toList = [] := by rw [Lib.toList_data]; exact List.eq_nil_of_length_eq_zero (by rw [hsl]; exact h0)
    have hl : s.data.toList = [] := by rw [← Lib.toList_data]; exact he
    rw [hl] at hn
    simp at hn
    subst hn
    clear hN hl hsl
    have hie : s.toList.isEmpty = true := by rw [he]; rfl
    go_enter Tryd.func28, Tryd.ntmps28
    go_wp2_with fail
    go_ret
    exact ⟨rfl, Below.refl _ _⟩
  · have hne : s.data.toList.isEmpty = false := by
      cases hl : s.data.toList with
      | nil => rw [hl] at hsl; simp at hsl; omega
      | cons a t => rfl
    have hie : s.toList.isEmpty = false := by rw [Lib.toList_data]; exact hne
    rw [hne] at hn
    by_cases h12 : s.size ≤ 12
    · simp only [h12, decide_true, Bool.not_false, Bool.true_and] at hn
      cases hk : hasB PL.keywords s.data.toList with
      | true =>
        rw [hk] at hn
        simp at hn
        subst hn
        clear hN hsl hne
        go_enter Tryd.func28, Tryd.ntmps28
        go_wp2_with (go_at_call 40; refine (keyword_any _ _).mono ?_; rintro e w' ⟨rfl, rfl⟩)
        go_ret
        exact ⟨rfl, Below.refl _ _⟩
      | false =>
        rw [hk] at hn
        simp only [Bool.not_false, Bool.true_and] at hn
        unfold nameTail at hn
        rw [hsl] at hn
        have hf := first_any s w hg hs (by omega)
        generalize hk1 : (PL.first s.data.toList).1 = kk at *
        generalize hk2 : (PL.first s.data.toList).2 = mm at *
        have HF := Lib.hid hf
        clear hN hsl hne hk1 hk2 hf
        by_cases e1 : kk = 1
        · have b1 : ((kk : Int) == 1) = true := by simp [e1]
          by_cases e2 : mm = s.size
          · have b2 : ((mm : Int) == (s.size : Int)) = true := by simp [e2]
            simp [e1, e2] at hn
            subst hn
            clear e1 e2
            go_enter Tryd.func28, Tryd.ntmps28
            go_wp2_with (first | (go_at_call 40; refine (keyword_any _ _).mono ?_; rintro e w' ⟨rfl, rfl⟩) | (go_at_call 41; refine HF.out.mono ?_; rintro e w' ⟨rfl, hb⟩))
            go_ret
            exact ⟨rfl, hb⟩
          · have b2 : ((mm : Int) == (s.size : Int)) = false := beq_eq_false_iff_ne.2 (by omega)
            simp [e2] at hn
            subst hn
            clear e1 e2
            go_enter Tryd.func28, Tryd.ntmps28
            go_wp2_with (first | (go_at_call 40; refine (keyword_any _ _).mono ?_; rintro e w' ⟨rfl, rfl⟩) | (go_at_call 41; refine HF.out.mono ?_; rintro e w' ⟨rfl, hb⟩))
            go_ret
            exact ⟨rfl, hb⟩
        · have b1 : ((kk : Int) == 1) = false := beq_eq_false_iff_ne.2 (by omega)
          simp [e1] at hn
          subst hn
          clear e1
          go_enter Tryd.func28, Tryd.ntmps28
          go_wp2_with (first | (go_at_call 40; refine (keyword_any _ _).mono ?_; rintro e w' ⟨rfl, rfl⟩) | (go_at_call 41; refine HF.out.mono ?_; rintro e w' ⟨rfl, hb⟩))
          go_ret
          exact ⟨rfl, hb⟩
    · simp [h12] at hn
      subst hn
      clear hN hsl hne
      go_enter Tryd.func28, Tryd.ntmps28
      go_wp2_with fail
      go_ret
      exact ⟨rfl, Below.refl _ _⟩
end
end Go.Proofs.YtkeehpgnljieeaaDoor
/- The contract of lexer.Solid, over any slice of tokens (lines of XJoin and XLawLines). -/
namespace Go.Proofs.YtkeehpgnljieeaaDoor
open Go.RowKit

/-- A token as it lies in memory. -/
structure RT where
  k : Int
  s : ByteArray
  p : Int
def RT.cells (r : RT) : List Value := [.int .u8 r.k, .string r.s, .int .i64 r.p]
def rtOf (t : PL.Tok) : RT := ⟨(t.kind : Int), ⟨t.text.toArray⟩, (t.pos : Int)⟩
theorem toksCells_eq (ts : List PL.Tok) : toksCells ts = (ts.map rtOf).flatMap RT.cells := by
  induction ts with
  | nil => rfl
  | cons t ts ih => simp only [toksCells, List.flatMap_cons, List.map_cons] at ih ⊢; rw [ih]; rfl
theorem rtCells_length (rs : List RT) : (rs.flatMap RT.cells).length = rs.length * 3 := by
  induction rs with
  | nil => rfl
  | cons r rs ih => simp only [List.flatMap_cons, List.length_append, List.length_cons, ih]; simp [RT.cells]; omega
theorem rtCells_at {rs : List RT} {i : Nat} {r : RT} (h : rs[i]? = some r) :
    (rs.flatMap RT.cells)[i * 3]? = some (.int .u8 r.k) ∧ (rs.flatMap RT.cells)[i * 3 + 1]? = some (.string r.s) ∧ (rs.flatMap RT.cells)[i * 3 + 2]? = some (.int .i64 r.p) := by
  induction rs generalizing i with
  | nil => simp at h
  | cons a rs ih =>
    cases i with
    | zero => simp at h; subst h; simp [RT.cells]
    | succ i =>
      obtain ⟨h0, h1, h2⟩ := ih (i := i) (by simpa using h)
      have hl : (RT.cells a).length = 3 := rfl
      rw [List.flatMap_cons]
      refine ⟨?_, ?_, ?_⟩
      · rw [List.getElem?_append_right (by omega), hl, show (i + 1) * 3 - 3 = i * 3 from by omega]; exact h0
      · rw [List.getElem?_append_right (by omega), hl, show (i + 1) * 3 + 1 - 3 = i * 3 + 1 from by omega]; exact h1
      · rw [List.getElem?_append_right (by omega), hl, show (i + 1) * 3 + 2 - 3 = i * 3 + 2 from by omega]; exact h2

/-- A slice value reads as a list of tokens. -/
def RToks (w : World) (A : Option Addr) (rs : List RT) : Prop :=
  rs ≠ [] → ∃ b o, A = some ⟨b, o, none⟩ ∧ b < w.heap.size ∧ ∀ i r, rs[i]? = some r →
    w.cell? ⟨b, o + i * 3, none⟩ = some (.int .u8 r.k) ∧ w.cell? ⟨b, o + i * 3 + 1, none⟩ = some (.string r.s) ∧ w.cell? ⟨b, o + i * 3 + 2, none⟩ = some (.int .i64 r.p)
theorem RToks.below {w w' : World} {A : Option Addr} {rs : List RT} (h : RToks w A rs) (hb : Below w.heap.size w w') : RToks w' A rs := fun hn => by
  obtain ⟨b, o, rfl, hlt, hc⟩ := h hn
  refine ⟨b, o, rfl, Nat.lt_of_lt_of_le hlt hb.size, fun i r hi => ?_⟩
  obtain ⟨h0, h1, h2⟩ := hc i r hi
  exact ⟨(hb.cell (p := ⟨b, o + i * 3, none⟩) hlt).trans h0, (hb.cell (p := ⟨b, o + i * 3 + 1, none⟩) hlt).trans h1, (hb.cell (p := ⟨b, o + i * 3 + 2, none⟩) hlt).trans h2⟩
theorem RToks.of_own {w : World} {base : Nat} {e : TypeId} {A : Option Addr} {c : Nat} {rs : List RT} (h : w.ownsRow base e 3 (.slice A rs.length c) rs.length (rs.flatMap RT.cells)) : RToks w A rs := fun hn => by
  obtain ⟨g, cap, hv, _, hlt, _, hc⟩ := own_cells h (List.length_pos_iff.2 hn)
  injection hv with hA
  subst hA
  refine ⟨g, 0, rfl, hlt, fun i r hi => ?_⟩
  obtain ⟨h0, h1, h2⟩ := rtCells_at hi
  simp only [Nat.zero_add]
  exact ⟨hc _ _ h0, hc _ _ h1, hc _ _ h2⟩

def solidB (r : RT) : Bool := (r.k != 4) && (r.k != 5)
def solidRT (rs : List RT) : List RT := rs.filter solidB
theorem solid_take (rs : List RT) (k : Nat) (r : RT) (h : rs[k]? = some r) : solidRT (rs.take (k + 1)) = solidRT (rs.take k) ++ (if solidB r then [r] else []) := by
  obtain ⟨hk, rfl⟩ := List.getElem?_eq_some_iff.1 h
  rw [List.take_succ_eq_append_getElem hk]
  unfold solidRT
  rw [List.filter_append]
  congr 1
  cases hb : solidB rs[k] <;> simp [hb]
theorem solid_le (rs : List RT) (k : Nat) : (solidRT (rs.take k)).length ≤ k := by
  unfold solidRT
  have h1 := List.length_filter_le solidB (rs.take k)
  have h2 := List.length_take_le k rs
  omega

theorem solid_rt (ts : List PL.Tok) : solidRT (ts.map rtOf) = (ts.filter PL.solidT).map rtOf := by
  unfold solidRT
  rw [List.filter_map]
  congr 1
  apply List.filter_congr
  intro t _
  simp only [Function.comp, solidB, rtOf, PL.solidT]
  rw [Bool.eq_iff_iff]; simp; omega
end Go.Proofs.YtkeehpgnljieeaaDoor
