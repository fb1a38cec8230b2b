/- Arguments that are slices of structs, opened to cells. -/
import Derived.Test.YtgacfcdpgcpjeaaDoorLaid
import Derived.Test.YtgacfcdpgcpjeaaDoorJoin
import Derived.Deep.Slices
import Derived.Deep.Fields
namespace Go.Proofs.YtgacfcdpgcpjeaaDoor
open Go.ChangeShapes Go.WideShapes Go.Deep Go.RowKit

section
variable {H : Type} {enc : TypeId × Value → H} {P : Program} {w : World} {base : Nat} {spare : Nat → Bool} {held : Bool}
theorem open_slice_fields {t e : TypeId} {fs : Array Field} {fuel : Nat} {cs : List Value} {x : DataW H × List MemPlace} (ht : P.underlying t = some (.slice e)) (he : P.underlying e = some (.struct fs))
    (hone : oneCellFields P fs = true) (hC : P.cellsOf e = fs.size) (h : DataW.trod enc P w base spare held fuel t cs = some x) :
    (cs = [.slice none 0 0] ∧ x = (.nil, [])) ∨
    ∃ (a : Addr) (len cap m : Nat) (D : Nat → DataW H) (Pl : Nat → List MemPlace), cs = [.slice (some a) len cap] ∧ base ≤ a.block ∧ len ≤ cap ∧ cap ≤ maxLen ∧ m = (if spare a.block then cap else len) ∧
      x = (.slice ((List.range len).map D) ((List.range (m - len)).map fun j => D (len + j)), MemPlace.row a (m * fs.size) ++ (List.range m).flatMap Pl) ∧
      ∀ i, i < m → ∃ (ys : List (DataW H × List MemPlace)) (n : Nat), D i = .agg (ys.map (·.1)) ∧ Pl i = ys.flatMap (·.2) ∧ ys.length = fs.size ∧
        ∀ (j : Nat) (f : Field), fs[j]? = some f → ∃ (v : Value) (y : DataW H × List MemPlace), w.cell? (a.add (i * fs.size + j)) = some v ∧ ys[j]? = some y ∧ DataW.trod enc P w base spare held n f.type [v] = some y := by
  rcases open_slice ht h with h0 | ⟨a, len, cap, m, n, D, Pl, hcs, hb, hl, hm, hmm, hx, hi⟩
  · exact .inl h0
  · refine .inr ⟨a, len, cap, m, D, Pl, hcs, hb, hl, hm, hmm, by rw [hC] at hx; exact hx, fun i him => ?_⟩
    obtain ⟨cs', hc, ht'⟩ := hi i him
    rw [hC] at hc
    obtain ⟨ys, n', hn', hy, hlen, hyl, hf⟩ := DataW.trod_struct he ht'
    obtain ⟨_, hcl, hat⟩ := World.cells?_some hc
    simp only [Prod.mk.injEq] at hy
    refine ⟨ys, n', hy.1, hy.2, hyl, fun j f hj => ?_⟩
    obtain ⟨ho, hk⟩ := hone_of hone j f hj
    have hjl : j < fs.size := (Array.getElem?_eq_some_iff.1 hj).1
    have hcell := hat j hjl
    have hv : cs'[j]? = some (cs'[j]'(by omega)) := List.getElem?_eq_getElem (by omega)
    have h1 := hf j f hj
    rw [ho, hk] at h1
    have hone' : (cs'.drop j).take 1 = [cs'[j]'(by omega)] := by
      rw [List.drop_eq_getElem_cons (by omega)]
      rfl
    rw [hone'] at h1
    have hys : ys[j]? = some (ys[j]'(by omega)) := List.getElem?_eq_getElem (by omega)
    refine ⟨_, _, ?_, hys, h1.trans hys⟩
    rw [← Go.Deep.add_add, hcell, hv]
end

theorem list_of_all {α : Type} (P : Nat → α → Prop) : ∀ (n : Nat), (∀ i, i < n → ∃ r, P i r) → ∃ rs : List α, rs.length = n ∧ ∀ i r, rs[i]? = some r → P i r
  | 0, _ => ⟨[], rfl, fun i r h => by simp at h⟩
  | n + 1, h => by
    obtain ⟨rs, h1, h2⟩ := list_of_all P n (fun i hi => h i (by omega))
    obtain ⟨r, hr⟩ := h n (by omega)
    refine ⟨rs ++ [r], by simp [h1], fun i x hx => ?_⟩
    rcases Nat.lt_or_ge i n with hi | hi
    · rw [List.getElem?_append_left (by omega)] at hx
      exact h2 i x hx
    · rw [List.getElem?_append_right (by omega), h1] at hx
      have : i = n := by
        rcases Nat.eq_or_lt_of_le hi with h | h
        · exact h.symm
        · rw [List.getElem?_eq_none (by simp; omega)] at hx; cases hx
      subst this
      simp at hx
      subst hx
      exact hr
theorem laidOut : laidOutB Tryd.prog = true := by kernel_rfl
/-- A slice of tokens that came in. -/
theorem open_toks {H : Type} {enc : TypeId × Value → H} {W : World} {fuel : Nat} {A : Option Addr} {n c : Nat} {x : DataW H × List MemPlace}
    (h : DataW.trod enc Tryd.prog W 0 (fun _ => true) true fuel 23 [.slice A n c] = some x) : ∃ rs : List RT, rs.length = n ∧ RToks W A rs := by
  rcases open_slice_fields Tryd.underlying23 Tryd.underlying33 (by kernel_rfl) (by kernel_rfl) h with ⟨hcs, _⟩ | ⟨a, len, cap, m, D, Pl, hcs, _, hl, _, hm, _, hi⟩
  · simp only [List.cons.injEq, Value.slice.injEq, and_true] at hcs
    obtain ⟨rfl, rfl, rfl⟩ := hcs
    exact ⟨[], rfl, fun h => absurd rfl h⟩
  · simp only [List.cons.injEq, Value.slice.injEq, and_true] at hcs
    obtain ⟨rfl, rfl, rfl⟩ := hcs
    simp only [if_true] at hm
    subst hm
    obtain ⟨b, o, sp⟩ := a
    have key : ∀ i, i < n → ∃ r : RT, sp = none ∧ b < W.heap.size ∧ W.cell? ⟨b, o + i * 3, none⟩ = some (.int .u8 r.k) ∧ W.cell? ⟨b, o + i * 3 + 1, none⟩ = some (.string r.s) ∧ W.cell? ⟨b, o + i * 3 + 2, none⟩ = some (.int .i64 r.p) := by
      intro i him
      obtain ⟨ys, fl, _, _, _, hf⟩ := hi i (by omega)
      obtain ⟨v0, y0, hc0, _, ht0⟩ := hf 0 _ rfl
      obtain ⟨v1, y1, hc1, _, ht1⟩ := hf 1 _ rfl
      obtain ⟨v2, y2, hc2, _, ht2⟩ := hf 2 _ rfl
      obtain ⟨k0, e0, _, _⟩ := DataW.trod_int Tryd.underlying5 ht0
      obtain ⟨s0, e1, _, _⟩ := DataW.trod_string Tryd.underlying9 ht1
      obtain ⟨p0, e2, _, _⟩ := DataW.trod_int Tryd.underlying3 ht2
      simp only [List.cons.injEq, and_true] at e0 e1 e2
      subst e0; subst e1; subst e2
      obtain ⟨ys', fl', _, _, _, hf'⟩ := hi 0 (by omega)
      obtain ⟨v', y', hc', _, _⟩ := hf' 0 _ rfl
      have hsp : sp = none := by simpa [Addr.add] using World.cell?_spot hc'
      subst hsp
      rw [Go.WideShapes.add_plain] at hc0 hc1 hc2
      exact ⟨⟨k0, s0, p0⟩, rfl, by simpa using World.block_lt_of_cell? W _ hc0, hc0, hc1, hc2⟩
    obtain ⟨rs, h1, h2⟩ := list_of_all _ n key
    refine ⟨rs, h1, fun hne => ?_⟩
    obtain ⟨hsp, hb, _⟩ := h2 0 _ (List.getElem?_eq_getElem (List.length_pos_iff.2 hne))
    subst hsp
    exact ⟨b, o, rfl, hb, fun i r hr => (h2 i r hr).2.2⟩
end Go.Proofs.YtgacfcdpgcpjeaaDoor
