/- Arguments that are slices of instructions, words or bytes, opened to cells. -/
import Derived.Test.YtgeagpplihecmaaDoorAsN
import Derived.Test.YtgeagpplihecmaaDoorLaid5
import Derived.Deep.Slices
import Derived.Deep.Fields
namespace Go.Proofs.YtgeagpplihecmaaDoor
open Go.ChangeShapes Go.WideShapes Go.Deep Go.RowKit
open AS (Ins)
theorem list_of_all {α : Type} (P : Nat → α → Prop) : ∀ (n : Nat), (∀ i, i < n → ∃ r, P i r) → ∃ rs : List α, rs.length = n ∧ ∀ i r, rs[i]? = some r → P i r
  | 0, _ => ⟨[], rfl, fun i r h => by simp at h⟩
  | n + 1, h => by
    obtain ⟨rs, h1, h2⟩ := list_of_all P n (fun i hi => h i (by omega))
    obtain ⟨r, hr⟩ := h n (by omega)
    refine ⟨rs ++ [r], by simp [h1], fun i x hx => ?_⟩
    rcases Nat.lt_or_ge i n with hi | hi
    · rw [List.getElem?_append_left (by omega)] at hx
      exact h2 i x hx
    · rw [List.getElem?_append_right (by omega), h1] at hx
      have : i = n := by
        rcases Nat.eq_or_lt_of_le hi with h | h
        · exact h.symm
        · rw [List.getElem?_eq_none (by simp; omega)] at hx; cases hx
      subst this
      simp at hx
      subst hx
      exact hr
theorem laidOut : laidOutB Tryd.prog = true := by kernel_rfl
set_option maxRecDepth 100000 in
/-- A slice of bytes that came in. -/
theorem open_bytes {H : Type} {enc : TypeId × Value → H} {W : World} {fuel : Nat} {A : Option Addr} {n c : Nat} {x : DataW H × List MemPlace}
    (h : DataW.trod enc Tryd.prog W 0 (fun _ => true) true fuel 36 [.slice A n c] = some x) : n ≤ maxLen ∧ ∃ bs : List Nat, bs.length = n ∧ (∀ v ∈ bs, v ≤ 255) ∧ Row W A (bs.map fun (k : Nat) => Value.int .u8 (k : Int)) := by
  rcases open_slice Tryd.underlying36 h with ⟨hcs, _⟩ | ⟨a, len, cap, m, fl, D, Pl, hcs, _, hl, hcm, hm, _, hi⟩
  · simp only [List.cons.injEq, Value.slice.injEq, and_true] at hcs
    obtain ⟨rfl, rfl, rfl⟩ := hcs
    exact ⟨Nat.zero_le _, [], rfl, fun v hv => by simp at hv, fun h => absurd rfl h⟩
  · simp only [List.cons.injEq, Value.slice.injEq, and_true] at hcs
    obtain ⟨rfl, rfl, rfl⟩ := hcs
    simp only [if_true] at hm
    subst hm
    obtain ⟨b, o, sp⟩ := a
    have key : ∀ i, i < n → ∃ r : Nat, sp = none ∧ b < W.heap.size ∧ W.cell? ⟨b, o + i, none⟩ = some (.int .u8 (r : Int)) ∧ r ≤ 255 := by
      intro i him
      obtain ⟨cs', hc, ht⟩ := hi i (by omega)
      obtain ⟨k, rfl, _, hwf⟩ := DataW.trod_int Tryd.underlying5 ht
      have hC : Tryd.prog.cellsOf 5 = 1 := by kernel_rfl
      rw [hC] at hc
      obtain ⟨_, hcl, hat⟩ := World.cells?_some hc
      have h0 := hat 0 (by omega)
      simp only [List.getElem?_cons_zero] at h0
      obtain ⟨cs0, hc0, ht0⟩ := hi 0 (by omega)
      rw [hC] at hc0
      have h00 := (World.cells?_some hc0).2.2 0 (by omega)
      obtain ⟨k0, rfl, _, _⟩ := DataW.trod_int Tryd.underlying5 ht0
      simp only [List.getElem?_cons_zero] at h00
      have hsp : sp = none := by simpa [Addr.add] using World.cell?_spot h00
      subst hsp
      have hb2 := bounds_u8 hwf
      obtain ⟨kn, rfl⟩ := Int.eq_ofNat_of_zero_le hb2.1
      rw [Go.WideShapes.add_plain, Go.WideShapes.add_plain] at h0
      simp only [Nat.mul_one, Nat.add_zero] at h0
      exact ⟨kn, rfl, by simpa using World.block_lt_of_cell? W _ h0, h0, by omega⟩
    obtain ⟨rs, h1, h2⟩ := list_of_all _ n key
    refine ⟨by omega, rs, h1, fun v hv => ?_, fun hne => ?_⟩
    · obtain ⟨i, hi'⟩ := List.mem_iff_getElem?.1 hv
      exact (h2 i v hi').2.2.2
    · have hne' : rs ≠ [] := by intro e; apply hne; rw [e]; rfl
      obtain ⟨hsp, hb, _⟩ := h2 0 _ (List.getElem?_eq_getElem (List.length_pos_iff.2 hne'))
      subst hsp
      refine ⟨b, o, rfl, hb, fun i v hv => ?_⟩
      rw [List.getElem?_map] at hv
      obtain ⟨r, hr, rfl⟩ := Option.map_eq_some_iff.1 hv
      exact (h2 i r hr).2.2.1
set_option maxRecDepth 100000 in
/-- A slice of words that came in. -/
theorem open_words {H : Type} {enc : TypeId × Value → H} {W : World} {fuel : Nat} {A : Option Addr} {n c : Nat} {x : DataW H × List MemPlace}
    (h : DataW.trod enc Tryd.prog W 0 (fun _ => true) true fuel 41 [.slice A n c] = some x) : n ≤ maxLen ∧ ∃ bs : List Nat, bs.length = n ∧ (∀ v ∈ bs, v ≤ 4294967295) ∧ Row W A (bs.map fun (k : Nat) => Value.int .u32 (k : Int)) := by
  rcases open_slice Tryd.underlying41 h with ⟨hcs, _⟩ | ⟨a, len, cap, m, fl, D, Pl, hcs, _, hl, hcm, hm, _, hi⟩
  · simp only [List.cons.injEq, Value.slice.injEq, and_true] at hcs
    obtain ⟨rfl, rfl, rfl⟩ := hcs
    exact ⟨Nat.zero_le _, [], rfl, fun v hv => by simp at hv, fun h => absurd rfl h⟩
  · simp only [List.cons.injEq, Value.slice.injEq, and_true] at hcs
    obtain ⟨rfl, rfl, rfl⟩ := hcs
    simp only [if_true] at hm
    subst hm
    obtain ⟨b, o, sp⟩ := a
    have key : ∀ i, i < n → ∃ r : Nat, sp = none ∧ b < W.heap.size ∧ W.cell? ⟨b, o + i, none⟩ = some (.int .u32 (r : Int)) ∧ r ≤ 4294967295 := by
      intro i him
      obtain ⟨cs', hc, ht⟩ := hi i (by omega)
      obtain ⟨k, rfl, _, hwf⟩ := DataW.trod_int Tryd.underlying44 ht
      have hC : Tryd.prog.cellsOf 44 = 1 := by kernel_rfl
      rw [hC] at hc
      obtain ⟨_, hcl, hat⟩ := World.cells?_some hc
      have h0 := hat 0 (by omega)
      simp only [List.getElem?_cons_zero] at h0
      obtain ⟨cs0, hc0, ht0⟩ := hi 0 (by omega)
      rw [hC] at hc0
      have h00 := (World.cells?_some hc0).2.2 0 (by omega)
      obtain ⟨k0, rfl, _, _⟩ := DataW.trod_int Tryd.underlying44 ht0
      simp only [List.getElem?_cons_zero] at h00
      have hsp : sp = none := by simpa [Addr.add] using World.cell?_spot h00
      subst hsp
      have hb2 := bounds_u32 hwf
      obtain ⟨kn, rfl⟩ := Int.eq_ofNat_of_zero_le hb2.1
      rw [Go.WideShapes.add_plain, Go.WideShapes.add_plain] at h0
      simp only [Nat.mul_one, Nat.add_zero] at h0
      exact ⟨kn, rfl, by simpa using World.block_lt_of_cell? W _ h0, h0, by omega⟩
    obtain ⟨rs, h1, h2⟩ := list_of_all _ n key
    refine ⟨by omega, rs, h1, fun v hv => ?_, fun hne => ?_⟩
    · obtain ⟨i, hi'⟩ := List.mem_iff_getElem?.1 hv
      exact (h2 i v hi').2.2.2
    · have hne' : rs ≠ [] := by intro e; apply hne; rw [e]; rfl
      obtain ⟨hsp, hb, _⟩ := h2 0 _ (List.getElem?_eq_getElem (List.length_pos_iff.2 hne'))
      subst hsp
      refine ⟨b, o, rfl, hb, fun i v hv => ?_⟩
      rw [List.getElem?_map] at hv
      obtain ⟨r, hr, rfl⟩ := Option.map_eq_some_iff.1 hv
      exact (h2 i r hr).2.2.1
set_option maxRecDepth 100000 in
/-- A slice of instructions that came in. -/
theorem open_ins {H : Type} {enc : TypeId × Value → H} {W : World} {fuel : Nat} {A : Option Addr} {n c : Nat} {x : DataW H × List MemPlace}
    (h : DataW.trod enc Tryd.prog W 0 (fun _ => true) true fuel 22 [.slice A n c] = some x) : n ≤ maxLen ∧ ∃ l : List Ins, l.length = n ∧ (∀ i ∈ l, i.op ≤ 255) ∧ Row W A (insCells l) := by
  rcases open_slice Tryd.underlying22 h with ⟨hcs, _⟩ | ⟨a, len, cap, m, fl, D, Pl, hcs, _, hl, hcm, hm, _, hi⟩
  · simp only [List.cons.injEq, Value.slice.injEq, and_true] at hcs
    obtain ⟨rfl, rfl, rfl⟩ := hcs
    exact ⟨Nat.zero_le _, [], rfl, fun v hv => by simp at hv, fun h => absurd rfl h⟩
  · simp only [List.cons.injEq, Value.slice.injEq, and_true] at hcs
    obtain ⟨rfl, rfl, rfl⟩ := hcs
    simp only [if_true] at hm
    subst hm
    obtain ⟨b, o, sp⟩ := a
    have hC : Tryd.prog.cellsOf 48 = 5 := by kernel_rfl
    have hC8 : Tryd.prog.cellsOf 5 = 1 := by kernel_rfl
    have hCI : Tryd.prog.cellsOf 3 = 1 := by kernel_rfl
    rw [hC] at hi
    have one : ∀ (cs' : List Value) y, DataW.trod enc Tryd.prog W 0 (fun _ => true) true fl 48 cs' = some y → ∃ r : Ins, cs' = (insV r).toList ∧ r.op ≤ 255 := by
      intro cs' y ht
      obtain ⟨xs, nn, rfl, _, hlen, hxl, hf⟩ := DataW.trod_struct Tryd.underlying48 ht
      rw [hC] at hlen
      obtain ⟨v0, v1, v2, v3, v4, rfl⟩ : ∃ v0 v1 v2 v3 v4, cs' = [v0, v1, v2, v3, v4] := by
        match cs', hlen with
        | [a, b, c, d, e], _ => exact ⟨a, b, c, d, e, rfl⟩
      have hx : ∀ i, i < 5 → ∃ y, xs[i]? = some y := fun i hi => ⟨_, List.getElem?_eq_getElem (by rw [hxl]; exact hi)⟩
      obtain ⟨y0, e0⟩ := hx 0 (by decide)
      obtain ⟨y1, e1⟩ := hx 1 (by decide)
      obtain ⟨y2, e2⟩ := hx 2 (by decide)
      obtain ⟨y3, e3⟩ := hx 3 (by decide)
      obtain ⟨y4, e4⟩ := hx 4 (by decide)
      have t0 : DataW.trod enc Tryd.prog W 0 (fun _ => true) true nn 5 (List.take (Tryd.prog.cellsOf 5) (List.drop 0 [v0, v1, v2, v3, v4])) = some y0 := (hf 0 _ rfl).trans e0
      rw [hC8] at t0
      have t1 : DataW.trod enc Tryd.prog W 0 (fun _ => true) true nn 3 (List.take (Tryd.prog.cellsOf 3) (List.drop 1 [v0, v1, v2, v3, v4])) = some y1 := (hf 1 _ rfl).trans e1
      have t2 : DataW.trod enc Tryd.prog W 0 (fun _ => true) true nn 3 (List.take (Tryd.prog.cellsOf 3) (List.drop 2 [v0, v1, v2, v3, v4])) = some y2 := (hf 2 _ rfl).trans e2
      have t3 : DataW.trod enc Tryd.prog W 0 (fun _ => true) true nn 3 (List.take (Tryd.prog.cellsOf 3) (List.drop 3 [v0, v1, v2, v3, v4])) = some y3 := (hf 3 _ rfl).trans e3
      have t4 : DataW.trod enc Tryd.prog W 0 (fun _ => true) true nn 3 (List.take (Tryd.prog.cellsOf 3) (List.drop 4 [v0, v1, v2, v3, v4])) = some y4 := (hf 4 _ rfl).trans e4
      rw [hCI] at t1 t2 t3 t4
      obtain ⟨k0, q0, _, hw0⟩ := DataW.trod_int Tryd.underlying5 t0
      obtain ⟨k1, q1, _, _⟩ := DataW.trod_int Tryd.underlying3 t1
      obtain ⟨k2, q2, _, _⟩ := DataW.trod_int Tryd.underlying3 t2
      obtain ⟨k3, q3, _, _⟩ := DataW.trod_int Tryd.underlying3 t3
      obtain ⟨k4, q4, _, _⟩ := DataW.trod_int Tryd.underlying3 t4
      simp only [List.drop_zero, List.drop_succ_cons, List.take_succ_cons, List.take_zero, List.cons.injEq, and_true] at q0 q1 q2 q3 q4
      subst q0 q1 q2 q3 q4
      have hb0 := bounds_u8 hw0
      obtain ⟨kn, rfl⟩ := Int.eq_ofNat_of_zero_le hb0.1
      exact ⟨⟨kn, k1, k2, k3, k4⟩, rfl, by show kn ≤ 255; omega⟩
    have key : ∀ i, i < n → ∃ r : Ins, sp = none ∧ b < W.heap.size ∧ (∀ j v, (insV r).toList[j]? = some v → W.cell? ⟨b, o + (i * 5 + j), none⟩ = some v) ∧ r.op ≤ 255 := by
      intro i him
      obtain ⟨cs', hc, ht⟩ := hi i (by omega)
      obtain ⟨r, rfl, hr⟩ := one cs' _ ht
      obtain ⟨_, hcl, hat⟩ := World.cells?_some hc
      obtain ⟨cs0, hc0, ht0⟩ := hi 0 (by omega)
      obtain ⟨r0, rfl, _⟩ := one cs0 _ ht0
      have h00 := (World.cells?_some hc0).2.2 0 (by omega)
      have hsp : sp = none := by simpa [Addr.add] using World.cell?_spot (h00.trans (show (insV r0).toList[0]? = some _ from rfl))
      subst hsp
      refine ⟨r, rfl, ?_, fun j v hj => ?_, hr⟩
      · have h0 := (hat 0 (by omega)).trans (show (insV r).toList[0]? = some _ from rfl)
        rw [Go.WideShapes.add_plain, Go.WideShapes.add_plain] at h0
        simpa using World.block_lt_of_cell? W _ h0
      · have hjl : j < 5 := by
          have := (List.getElem?_eq_some_iff.1 hj).1
          exact this
        have h0 := (hat j hjl).trans hj
        rw [Go.WideShapes.add_plain, Go.WideShapes.add_plain] at h0
        rw [← Nat.add_assoc]
        exact h0
    obtain ⟨rs, h1, h2⟩ := list_of_all _ n key
    refine ⟨by omega, rs, h1, fun v hv => ?_, fun hne => ?_⟩
    · obtain ⟨i, hi'⟩ := List.mem_iff_getElem?.1 hv
      exact (h2 i v hi').2.2.2
    · have hne' : rs ≠ [] := by intro e; apply hne; rw [e]; rfl
      obtain ⟨hsp, hb, _⟩ := h2 0 _ (List.getElem?_eq_getElem (List.length_pos_iff.2 hne'))
      subst hsp
      refine ⟨b, o, rfl, hb, fun i v hv => ?_⟩
      obtain ⟨q, j, hj, rfl⟩ : ∃ q j, j < 5 ∧ i = q * 5 + j := ⟨i / 5, i % 5, by omega, by omega⟩
      rcases Nat.lt_or_ge q rs.length with hq | hq
      · have hr := List.getElem?_eq_getElem hq
        refine (h2 q _ hr).2.2.1 j v ?_
        rw [insCells_at hr j hj] at hv
        rw [Array.getElem?_toList]; exact hv
      · rw [List.getElem?_eq_none (by rw [insCells_len]; omega)] at hv; cases hv
end Go.Proofs.YtgeagpplihecmaaDoor
