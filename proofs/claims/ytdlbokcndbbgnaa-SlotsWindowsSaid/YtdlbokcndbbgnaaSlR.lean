/- The schedule that Simulate makes, as an argument of Check. -/
import Derived.Test.YtdlbokcndbbgnaaSlP
import Derived.Test.YtdlbokcndbbgnaaPlainSl3
namespace Go.Proofs.Ytdlbokcndbbgnaa
open Go.RowKit Go.Maps Go.Sort Go.Lib
open SL (Tk Jb Ms Cd)
theorem natI_ints (l : List Nat) : (SL.ints l).map (Value.int .i64) = natI l := by
  unfold SL.ints natI
  rw [List.map_map]
  rfl
theorem sched_rel {W : World} {gs n : Nat} {S : List (List Nat)} (h : SchedS W gs n n S) : RelV W (.slice (some ⟨gs, 0, none⟩) n n) (S.map SL.ints) := by
  obtain ⟨vs, hb, hs, hl, hr, _⟩ := h
  refine ⟨some ⟨gs, 0, none⟩, n, vs.toList, by rw [List.length_map, hl], by rw [List.length_map, hl, ← hs]; simp, fun _ => ⟨gs, 0, rfl, (Array.getElem?_eq_some_iff.1 hb).1, fun i v hi => ?_⟩, fun i r hi => ?_⟩
  · rw [Nat.zero_add, hb.cell]
    simpa using hi
  · rw [List.getElem?_map] at hi
    obtain ⟨q, hq, rfl⟩ := Option.map_eq_some_iff.1 hi
    obtain ⟨A, c, h1, h2⟩ := hr i q hq
    refine ⟨A, c, by rw [Array.getElem?_toList, h1]; unfold SL.ints; rw [List.length_map], ?_⟩
    rw [natI_ints]
    exact h2.row
theorem sched_len {W : World} {gs n : Nat} {S : List (List Nat)} (h : SchedS W gs n n S) : S.length = n := by
  obtain ⟨_, _, _, hl, _⟩ := h
  exact hl
theorem simP_len (p : Pl) : (simP p).1.length = p.untl.toNat ∧ (simP p).2.length ≤ (p.untl.toNat + 1) * p.m.ts.length := SL.simulate_len _ _ _ _
theorem simP_rows (p : Pl) : ∀ r ∈ (simP p).1, r.length ≤ p.cores.toNat ∧ r.Pairwise (· < ·) ∧ ∀ k ∈ r, k < p.m.ts.length := fun r hr => SL.simS_rows _ _ _ _ _ _ r hr
theorem okP_ms {p : Pl} (h : OkP p) : (simP p).2.length ≤ 808 := by
  obtain ⟨n, hn, h1⟩ := h.u
  have h2 := (simP_len p).2
  have h3 := h.t8
  rw [hn, Int.toNat_natCast] at h2
  have h4 := Nat.mul_le_mul (show n + 1 ≤ 101 by omega) h3
  omega
theorem okP_ints {p : Pl} (h : OkP p) : ∀ r ∈ (simP p).1.map SL.ints, r.length ≤ 8 := by
  intro r hr
  obtain ⟨q, hq, rfl⟩ := List.mem_map.1 hr
  have h1 := (simP_rows p q hq).1
  obtain ⟨k, hk, _, h8⟩ := h.c
  rw [hk, Int.toNat_natCast] at h1
  unfold SL.ints
  rw [List.length_map]
  omega
end Go.Proofs.Ytdlbokcndbbgnaa
