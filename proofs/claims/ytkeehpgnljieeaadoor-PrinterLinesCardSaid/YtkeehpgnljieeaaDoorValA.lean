/- The contracts of ast.belongs and ast.formOf (written by wip/genform.py). -/
import Derived.Test.YtkeehpgnljieeaaDoorKB
import Derived.Test.YtkeehpgnljieeaaDoorKC
import Derived.Test.YtkeehpgnljieeaaDoorPlainValid
namespace Go.Proofs.YtkeehpgnljieeaaDoor
open Go.RowKit Go.Maps
open PP (Tree)
def formV (f : PP.Form) : Value := .agg #[.bool f.name, .int .i64 f.low, .int .i64 f.high, .string ⟨f.kids.toArray⟩]
def CatOk (c : Nat) : Prop := c = 101 ∨ c = 112 ∨ c = 115 ∨ c = 98
theorem form_result {fn : Func} {p : Tmp} (h : fn.results = #[.cell p 53]) {tmps : Array Value} {w : World} {g : Nat} {a0 a1 a2 a3 : Value} (hp : tmps.getD p undef = .pointer (some ⟨g, 0, none⟩)) (hb : Blk w g 53 #[a0, a1, a2, a3]) :
    (results fn tmps).run Tryd.prog w = .ok (.agg #[a0, a1, a2, a3]) w :=
  results_cell_row h tmps w g 53 _ (0, 0) _ hp hb Tryd.underlying53 rfl (by kernel_rfl)
section
set_option maxHeartbeats 2000000
set_option maxRecDepth 100000
theorem belongs_any (k c : Nat) (w : World) (hc : CatOk c) :
    Calls Tryd.prog 23 #[.int .u8 (k : Int), .int .u8 (c : Int)] w fun e w' => e = .returned (.bool (PP.belongs k c)) ∧ w = w' := by
  rcases hc with rfl | rfl | rfl | rfl
  · have hb : PP.belongs k 101 = (decide (1 ≤ k) && decide (k ≤ 23)) := rfl
    by_cases h1 : 1 ≤ k
    · have e1 : decide ((1 : Int) ≤ (k : Int)) = true := by simp; omega
      have e2 : decide ((k : Int) ≤ 23) = decide (k ≤ 23) := by simp only [decide_eq_decide]; omega
      rw [hb, show decide (1 ≤ k) = true from by simpa using h1, Bool.true_and]
      go_enter Tryd.func23, Tryd.ntmps23
      go_wp2_with fail
      go_ret
      exact ⟨rfl, rfl⟩
    · have e1 : decide ((1 : Int) ≤ (k : Int)) = false := by simp; omega
      rw [hb, show decide (1 ≤ k) = false from by simpa using h1, Bool.false_and]
      go_enter Tryd.func23, Tryd.ntmps23
      go_wp2_with fail
      go_ret
      exact ⟨rfl, rfl⟩
  · have hb : PP.belongs k 112 = (k == 2 || k == 3) := rfl
    by_cases h1 : k = 2
    · subst h1
      go_enter Tryd.func23, Tryd.ntmps23
      go_wp2_with fail
      go_ret
      exact ⟨rfl, rfl⟩
    · have e1 : ((k : Int) == 2) = false := by simp; omega
      have e2 : ((k : Int) == 3) = (k == 3) := by rw [Bool.eq_iff_iff]; simp; omega
      rw [hb, show (k == 2) = false from by simpa using h1, Bool.false_or]
      go_enter Tryd.func23, Tryd.ntmps23
      go_wp2_with fail
      go_ret
      exact ⟨rfl, rfl⟩
  · have hb : PP.belongs k 115 = (decide (40 ≤ k) && decide (k < 47)) := rfl
    by_cases h1 : 40 ≤ k
    · have e1 : decide ((40 : Int) ≤ (k : Int)) = true := by simp; omega
      have e2 : decide ((k : Int) < 47) = decide (k < 47) := by simp only [decide_eq_decide]; omega
      rw [hb, show decide (40 ≤ k) = true from by simpa using h1, Bool.true_and]
      go_enter Tryd.func23, Tryd.ntmps23
      go_wp2_with fail
      go_ret
      exact ⟨rfl, rfl⟩
    · have e1 : decide ((40 : Int) ≤ (k : Int)) = false := by simp; omega
      rw [hb, show decide (40 ≤ k) = false from by simpa using h1, Bool.false_and]
      go_enter Tryd.func23, Tryd.ntmps23
      go_wp2_with fail
      go_ret
      exact ⟨rfl, rfl⟩
  · have hb : PP.belongs k 98 = (k == 47) := rfl
    have e2 : ((k : Int) == 47) = (k == 47) := by rw [Bool.eq_iff_iff]; simp; omega
    rw [hb]
    go_enter Tryd.func23, Tryd.ntmps23
    go_wp2_with fail
    go_ret
    exact ⟨rfl, rfl⟩
theorem formOf_any (k : Nat) (w : World) :
    Calls Tryd.prog 27 #[.int .u8 (k : Int)] w fun e w' => e = .returned (formV (PP.formOf k)) ∧ Below w.heap.size w w' := by
  by_cases h1 : k = 1
  · subst h1
    go_enter Tryd.func27, Tryd.ntmps27
    go_wp2_with fail
    refine bodyPost_ret (form_result rfl rfl (Blk.new _ _ _)) rfl ?_
    exact ⟨rfl, (Below.refl _ _).alloc (Nat.le_refl _) _⟩
  by_cases h2 : k = 2
  · subst h2
    go_enter Tryd.func27, Tryd.ntmps27
    go_wp2_with fail
    refine bodyPost_ret (form_result rfl rfl (Blk.new _ _ _)) rfl ?_
    exact ⟨rfl, (Below.refl _ _).alloc (Nat.le_refl _) _⟩
  by_cases h3 : k = 3
  · subst h3
    go_enter Tryd.func27, Tryd.ntmps27
    go_wp2_with fail
    refine bodyPost_ret (form_result rfl rfl (Blk.new _ _ _)) rfl ?_
    exact ⟨rfl, (Below.refl _ _).alloc (Nat.le_refl _) _⟩
  by_cases h4 : k = 4
  · subst h4
    go_enter Tryd.func27, Tryd.ntmps27
    go_wp2_with fail
    refine bodyPost_ret (form_result rfl rfl (Blk.new _ _ _)) rfl ?_
    exact ⟨rfl, (Below.refl _ _).alloc (Nat.le_refl _) _⟩
  by_cases h5 : k = 5
  · subst h5
    go_enter Tryd.func27, Tryd.ntmps27
    go_wp2_with fail
    refine bodyPost_ret (form_result rfl rfl (Blk.new _ _ _)) rfl ?_
    exact ⟨rfl, (Below.refl _ _).alloc (Nat.le_refl _) _⟩
  by_cases h40 : k = 40
  · subst h40
    go_enter Tryd.func27, Tryd.ntmps27
    go_wp2_with fail
    refine bodyPost_ret (form_result rfl rfl (Blk.new _ _ _)) rfl ?_
    exact ⟨rfl, (Below.refl _ _).alloc (Nat.le_refl _) _⟩
  by_cases h41 : k = 41
  · subst h41
    go_enter Tryd.func27, Tryd.ntmps27
    go_wp2_with fail
    refine bodyPost_ret (form_result rfl rfl (Blk.new _ _ _)) rfl ?_
    exact ⟨rfl, (Below.refl _ _).alloc (Nat.le_refl _) _⟩
  by_cases h42 : k = 42
  · subst h42
    go_enter Tryd.func27, Tryd.ntmps27
    go_wp2_with fail
    refine bodyPost_ret (form_result rfl rfl (Blk.new _ _ _)) rfl ?_
    exact ⟨rfl, (Below.refl _ _).alloc (Nat.le_refl _) _⟩
  by_cases h43 : k = 43
  · subst h43
    go_enter Tryd.func27, Tryd.ntmps27
    go_wp2_with fail
    refine bodyPost_ret (form_result rfl rfl (Blk.new _ _ _)) rfl ?_
    exact ⟨rfl, (Below.refl _ _).alloc (Nat.le_refl _) _⟩
  by_cases h44 : k = 44
  · subst h44
    go_enter Tryd.func27, Tryd.ntmps27
    go_wp2_with fail
    refine bodyPost_ret (form_result rfl rfl (Blk.new _ _ _)) rfl ?_
    exact ⟨rfl, (Below.refl _ _).alloc (Nat.le_refl _) _⟩
  by_cases h45 : k = 45
  · subst h45
    go_enter Tryd.func27, Tryd.ntmps27
    go_wp2_with fail
    refine bodyPost_ret (form_result rfl rfl (Blk.new _ _ _)) rfl ?_
    exact ⟨rfl, (Below.refl _ _).alloc (Nat.le_refl _) _⟩
  by_cases h46 : k = 46
  · subst h46
    go_enter Tryd.func27, Tryd.ntmps27
    go_wp2_with fail
    refine bodyPost_ret (form_result rfl rfl (Blk.new _ _ _)) rfl ?_
    exact ⟨rfl, (Below.refl _ _).alloc (Nat.le_refl _) _⟩
  have e1 : ((k : Int) == 1) = false := by simp; omega
  have e2 : ((k : Int) == 2) = false := by simp; omega
  have e3 : ((k : Int) == 3) = false := by simp; omega
  have e4 : ((k : Int) == 4) = false := by simp; omega
  have e5 : ((k : Int) == 5) = false := by simp; omega
  have e40 : ((k : Int) == 40) = false := by simp; omega
  have e41 : ((k : Int) == 41) = false := by simp; omega
  have e42 : ((k : Int) == 42) = false := by simp; omega
  have e43 : ((k : Int) == 43) = false := by simp; omega
  have e44 : ((k : Int) == 44) = false := by simp; omega
  have e45 : ((k : Int) == 45) = false := by simp; omega
  have e46 : ((k : Int) == 46) = false := by simp; omega
  have hf : PP.formOf k = ⟨false, 0, 0, [101, 101]⟩ := by
    unfold PP.formOf
    rw [if_neg (by omega), if_neg (by omega), if_neg (by omega), if_neg (by omega), if_neg (by omega), if_neg (by omega), if_neg (by omega), if_neg (by omega), if_neg (by omega), if_neg (by omega), if_neg (by omega)]
  rw [hf]
  go_enter Tryd.func27, Tryd.ntmps27
  go_wp2_with fail
  refine bodyPost_ret (form_result rfl rfl (Blk.new _ _ _)) rfl ?_
  exact ⟨rfl, (Below.refl _ _).alloc (Nat.le_refl _) _⟩
end
end Go.Proofs.YtkeehpgnljieeaaDoor
