/- The reference's next row: the parts. -/
import Derived.Test.YtehdgdlndlamjaaSlZ2
import Derived.Test.YtehdgdlndlamjaaSlD
import Derived.Test.YtehdgdlndlamjaaPlainSl10
namespace Go.Proofs.Ytehdgdlndlamjaa
open Go.RowKit Go.Sort
open SL (Tk Jb Ms Cd)
def rcL (c : Cd) : List Value := [.int .i64 (c.num : Int), .int .i64 c.tk.cost, .int .i64 c.tk.per, .int .i64 c.rel, .int .i64 c.idx]
def rcC (l : List Cd) : List Value := l.flatMap rcL
theorem rc_at {w : World} {A : Option Addr} {l : List Cd} (h : Row w A (rcC l)) {k : Nat} {c : Cd} (hk : l[k]? = some c) :
    ∃ b o, A = some ⟨b, o, none⟩ ∧ b < w.heap.size ∧ w.cell? ⟨b, o + k * 5, none⟩ = some (.int .i64 (c.num : Int)) ∧ w.cell? ⟨b, o + k * 5 + 1, none⟩ = some (.int .i64 c.tk.cost) ∧ w.cell? ⟨b, o + k * 5 + 2, none⟩ = some (.int .i64 c.tk.per) ∧ w.cell? ⟨b, o + k * 5 + 3, none⟩ = some (.int .i64 c.rel) ∧ w.cell? ⟨b, o + k * 5 + 4, none⟩ = some (.int .i64 c.idx) := by
  have ha : ∀ m, m < 5 → (rcC l)[k * 5 + m]? = (rcL c)[m]? := fun m hm => flat_at 5 rcL (fun _ => rfl) l k m c hk hm
  obtain ⟨b, o, hA, hb, hc⟩ := h (fun e => by have := ha 0 (by omega); rw [e] at this; simp [rcL] at this)
  exact ⟨b, o, hA, hb, hc _ _ (ha 0 (by omega)), hc (k * 5 + 1) _ (ha 1 (by omega)), hc (k * 5 + 2) _ (ha 2 (by omega)), hc (k * 5 + 3) _ (ha 3 (by omega)), hc (k * 5 + 4) _ (ha 4 (by omega))⟩
theorem infoRc : (Try.prog.info? 84).map (fun i => (i.zero, i.size, i.bytes)) = some (some (.agg #[.int .i64 0, .int .i64 0, .int .i64 0, .int .i64 0, .int .i64 0]), 5, 40) := by kernel_rfl
namespace SL
theorem pendR_mem {t : Tk} {r : List Int} {S : List (List Int)} {k slot : Nat} {x : Int} {m : Nat} (h : pendR t r S k slot = some (x, m)) : x ∈ r ∧ x ≤ slot := by
  unfold pendR at h
  rw [Option.map_eq_some_iff] at h
  obtain ⟨y, h1, h2⟩ := h
  injection h2 with h3 h4
  subst h3
  refine ⟨List.mem_of_find?_eq_some h1, ?_⟩
  have := List.find?_some h1
  unfold pendP at this
  simp only [Bool.and_eq_true, decide_eq_true_eq] at this
  exact this.1
/-- How many of the first ones have priority. -/
def rankT (l : List Cd) (c : Cd) (j : Nat) : Nat := (l.take j).countP fun x => bef x c
theorem rankT_succ {l : List Cd} {c d : Cd} {j : Nat} (h : l[j]? = some d) : rankT l c (j + 1) = rankT l c j + (if bef d c then 1 else 0) := by
  unfold rankT
  rw [take_snoc h, List.countP_append]
  simp [List.countP_cons]
theorem rankT_le (l : List Cd) (c : Cd) (j : Nat) : rankT l c j ≤ j := by
  unfold rankT
  exact Nat.le_trans List.countP_le_length (by simp; omega)
theorem rankT_all (l : List Cd) (c : Cd) : rankT l c l.length = rank l c := by
  unfold rankT rank
  rw [List.take_length]
theorem nextI_len (l : List Cd) (cores : Int) (i : Nat) (m : List Cd) : (nextI l cores i m).length ≤ m.length := by
  unfold nextI
  rw [List.length_map]
  exact List.length_filter_le _ _
theorem nextL_len (l : List Cd) (cores : Int) : ∀ n, (nextL l cores n).length ≤ n * l.length
  | 0 => by simp [nextL]
  | n + 1 => by
    rw [nextL_succ, List.length_append, Nat.add_mul, Nat.one_mul]
    exact Nat.add_le_add (nextL_len l cores n) (nextI_len _ _ _ _)
end SL
theorem cand_ok {ts : List Tk} {rs : List (List Int)} {S : List (List Int)} {slot n : Nat} (hok : ∀ t ∈ ts, SL.okTk t = true) (hr0 : ∀ r ∈ rs, ∀ x ∈ r, 0 ≤ x) (hs : slot ≤ 1000000) : ∀ c ∈ SL.candR ts rs S slot n, okC c := by
  intro c hc
  obtain ⟨i, t, r, x, m, hi, h1, h2, h3, h4, h5, rfl⟩ := SL.candR_mem hc
  obtain ⟨g1, g2⟩ := SL.pendR_mem h3
  have := hr0 r (List.mem_of_getElem? h2) x g1
  exact ⟨⟨hok t (List.mem_of_getElem? h1), by simp only; omega, by simp only; omega⟩, by simp only; omega, by simp only; omega⟩
end Go.Proofs.Ytehdgdlndlamjaa
