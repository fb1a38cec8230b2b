/- Arguments that are slices, opened to cells. -/
import Derived.Test.YtaaaicpjlaeiiaaDoorLaid2
import Derived.Test.YtaaaicpjlaeiiaaDoorSame2
import Derived.Deep.Slices
import Derived.Deep.Fields
namespace Go.Proofs.YtaaaicpjlaeiiaaDoor
open Go.ChangeShapes Go.WideShapes Go.Deep Go.RowKit
theorem list_of_all {α : Type} (P : Nat → α → Prop) : ∀ (n : Nat), (∀ i, i < n → ∃ r, P i r) → ∃ rs : List α, rs.length = n ∧ ∀ i r, rs[i]? = some r → P i r
  | 0, _ => ⟨[], rfl, fun i r h => by simp at h⟩
  | n + 1, h => by
    obtain ⟨rs, h1, h2⟩ := list_of_all P n (fun i hi => h i (by omega))
    obtain ⟨r, hr⟩ := h n (by omega)
    refine ⟨rs ++ [r], by simp [h1], fun i x hx => ?_⟩
    rcases Nat.lt_or_ge i n with hi | hi
    · rw [List.getElem?_append_left (by omega)] at hx
      exact h2 i x hx
    · rw [List.getElem?_append_right (by omega), h1] at hx
      have : i = n := by
        rcases Nat.eq_or_lt_of_le hi with h | h
        · exact h.symm
        · rw [List.getElem?_eq_none (by simp; omega)] at hx; cases hx
      subst this
      simp at hx
      subst hx
      exact hr
theorem laidOut : laidOutB Tryd.prog = true := by kernel_rfl
set_option maxRecDepth 100000 in
/-- A slice of bytes that came in. -/
theorem open_bytes {H : Type} {enc : TypeId × Value → H} {W : World} {fuel : Nat} {A : Option Addr} {n c : Nat} {x : DataW H × List MemPlace}
    (h : DataW.trod enc Tryd.prog W 0 (fun _ => true) true fuel 43 [.slice A n c] = some x) : n ≤ maxLen ∧ ∃ bs : List Nat, bs.length = n ∧ (∀ v ∈ bs, v ≤ 255) ∧ Row W A (bs.map fun (k : Nat) => Value.int .u8 (k : Int)) := by
  rcases open_slice Tryd.underlying43 h with ⟨hcs, _⟩ | ⟨a, len, cap, m, fl, D, Pl, hcs, _, hl, hcm, hm, _, hi⟩
  · simp only [List.cons.injEq, Value.slice.injEq, and_true] at hcs
    obtain ⟨rfl, rfl, rfl⟩ := hcs
    exact ⟨Nat.zero_le _, [], rfl, fun v hv => by simp at hv, fun h => absurd rfl h⟩
  · simp only [List.cons.injEq, Value.slice.injEq, and_true] at hcs
    obtain ⟨rfl, rfl, rfl⟩ := hcs
    simp only [if_true] at hm
    subst hm
    obtain ⟨b, o, sp⟩ := a
    have key : ∀ i, i < n → ∃ r : Nat, sp = none ∧ b < W.heap.size ∧ W.cell? ⟨b, o + i, none⟩ = some (.int .u8 (r : Int)) ∧ r ≤ 255 := by
      intro i him
      obtain ⟨cs', hc, ht⟩ := hi i (by omega)
      obtain ⟨k, rfl, _, hwf⟩ := DataW.trod_int Tryd.underlying5 ht
      have hC : Tryd.prog.cellsOf 5 = 1 := by kernel_rfl
      rw [hC] at hc
      obtain ⟨_, hcl, hat⟩ := World.cells?_some hc
      have h0 := hat 0 (by omega)
      simp only [List.getElem?_cons_zero] at h0
      obtain ⟨cs0, hc0, ht0⟩ := hi 0 (by omega)
      rw [hC] at hc0
      have h00 := (World.cells?_some hc0).2.2 0 (by omega)
      obtain ⟨k0, rfl, _, _⟩ := DataW.trod_int Tryd.underlying5 ht0
      simp only [List.getElem?_cons_zero] at h00
      have hsp : sp = none := by simpa [Addr.add] using World.cell?_spot h00
      subst hsp
      have hb2 := bounds_u8 hwf
      obtain ⟨kn, rfl⟩ := Int.eq_ofNat_of_zero_le hb2.1
      rw [Go.WideShapes.add_plain, Go.WideShapes.add_plain] at h0
      simp only [Nat.mul_one, Nat.add_zero] at h0
      exact ⟨kn, rfl, by simpa using World.block_lt_of_cell? W _ h0, h0, by omega⟩
    obtain ⟨rs, h1, h2⟩ := list_of_all _ n key
    refine ⟨by omega, rs, h1, fun v hv => ?_, fun hne => ?_⟩
    · obtain ⟨i, hi'⟩ := List.mem_iff_getElem?.1 hv
      exact (h2 i v hi').2.2.2
    · have hne' : rs ≠ [] := by intro e; apply hne; rw [e]; rfl
      obtain ⟨hsp, hb, _⟩ := h2 0 _ (List.getElem?_eq_getElem (List.length_pos_iff.2 hne'))
      subst hsp
      refine ⟨b, o, rfl, hb, fun i v hv => ?_⟩
      rw [List.getElem?_map] at hv
      obtain ⟨r, hr, rfl⟩ := Option.map_eq_some_iff.1 hv
      exact (h2 i r hr).2.2.1
end Go.Proofs.YtaaaicpjlaeiiaaDoor
