/- An argument that is a tree, opened to cells. -/
import Derived.Test.YtkeehpgnljieeaaDoorKF
import Derived.Test.YtkeehpgnljieeaaDoorPlainOff
import Derived.Deep.Slices
import Derived.Deep.Fields
namespace Go.Proofs.YtkeehpgnljieeaaDoor
open Go.ChangeShapes Go.WideShapes Go.Deep Go.RowKit
open PP (Tree)
namespace PP
mutual
/-- Every node is one that Go can hold. -/
def bdT : Tree → Prop
  | .node k num nm kids => k ≤ 255 ∧ -9223372036854775808 ≤ num ∧ num ≤ 9223372036854775807 ∧ nm.length ≤ maxLen ∧ kids.length ≤ maxLen ∧ bdL kids
def bdL : List Tree → Prop
  | [] => True
  | t :: ts => bdT t ∧ bdL ts
end
theorem bdL_of : ∀ (l : List Tree), (∀ (i : Nat) t, l[i]? = some t → bdT t) → bdL l
  | [], _ => trivial
  | t :: l, h => ⟨h 0 t rfl, bdL_of l (fun i t hi => h (i + 1) t (by simpa using hi))⟩
theorem bdL_at : ∀ {l : List Tree} {i : Nat} {t : Tree}, bdL l → l[i]? = some t → bdT t
  | [], _, _, _, h => by simp at h
  | _ :: _, 0, t, hb, h => by
    simp at h; subst h; exact hb.1
  | _ :: _, _ + 1, _, hb, h => bdL_at hb.2 (by simpa using h)
end PP
theorem list_of_allN {α : Type} (P : Nat → α → Prop) : ∀ (n : Nat), (∀ i, i < n → ∃ r, P i r) → ∃ rs : List α, rs.length = n ∧ ∀ i r, rs[i]? = some r → P i r
  | 0, _ => ⟨[], rfl, fun i r h => by simp at h⟩
  | n + 1, h => by
    obtain ⟨rs, h1, h2⟩ := list_of_allN P n (fun i hi => h i (by omega))
    obtain ⟨r, hr⟩ := h n (by omega)
    refine ⟨rs ++ [r], by simp [h1], fun i x hx => ?_⟩
    rcases Nat.lt_or_ge i n with hi | hi
    · rw [List.getElem?_append_left (by omega)] at hx
      exact h2 i x hx
    · rw [List.getElem?_append_right (by omega), h1] at hx
      have : i = n := by
        rcases Nat.eq_or_lt_of_le hi with h | h
        · exact h.symm
        · rw [List.getElem?_eq_none (by simp; omega)] at hx; cases hx
      subst this
      simp at hx
      subst hx
      exact hr
/-- What is known of one node that is read. -/
structure NodeR where
  k : Nat
  num : Int
  nm : List UInt8
  A : Option Addr
  c : Nat
  kids : List Tree
def NodeR.tree (r : NodeR) : Tree := .node r.k r.num r.nm r.kids
def NodeR.cells (r : NodeR) : List Value := [.int .u8 (r.k : Int), .int .i64 r.num, .string ⟨r.nm.toArray⟩, .slice r.A r.kids.length r.c]
theorem cellsNode : Tryd.prog.cellsOf 24 = 4 := by kernel_rfl
theorem cellsB : Tryd.prog.cellsOf 5 = 1 := by kernel_rfl
theorem cellsI : Tryd.prog.cellsOf 3 = 1 := by kernel_rfl
theorem cellsS : Tryd.prog.cellsOf 9 = 1 := by kernel_rfl
theorem cellsK : Tryd.prog.cellsOf 22 = 1 := by kernel_rfl
set_option maxRecDepth 100000 in
theorem open_node {H : Type} {enc : TypeId × Value → H} {W : World} : ∀ (fuel : Nat) (cs : List Value) (x : DataW H × List MemPlace), DataW.trod enc Tryd.prog W 0 (fun _ => true) true fuel 24 cs = some x →
    ∃ r : NodeR, cs = r.cells ∧ KidsC W (· < W.heap.size) r.A r.kids ∧ PP.bdT r.tree := by
  intro fuel
  induction fuel using Nat.strongRecOn with
  | _ fuel ih =>
    intro cs x h
    obtain ⟨xs, n, rfl, _, hlen, hxl, hf⟩ := DataW.trod_struct Tryd.underlying24 h
    rw [cellsNode] at hlen
    obtain ⟨v0, v1, v2, v3, rfl⟩ : ∃ v0 v1 v2 v3, cs = [v0, v1, v2, v3] := by
      match cs, hlen with
      | [a, b, c, d], _ => exact ⟨a, b, c, d, rfl⟩
    have hx : ∀ i, i < 4 → ∃ y, xs[i]? = some y := fun i hi => ⟨_, List.getElem?_eq_getElem (by rw [hxl]; exact hi)⟩
    obtain ⟨y0, e0⟩ := hx 0 (by decide)
    obtain ⟨y1, e1⟩ := hx 1 (by decide)
    obtain ⟨y2, e2⟩ := hx 2 (by decide)
    obtain ⟨y3, e3⟩ := hx 3 (by decide)
    have t0 : DataW.trod enc Tryd.prog W 0 (fun _ => true) true n 5 (List.take (Tryd.prog.cellsOf 5) (List.drop 0 [v0, v1, v2, v3])) = some y0 := (hf 0 _ rfl).trans e0
    rw [cellsB] at t0
    have t1 : DataW.trod enc Tryd.prog W 0 (fun _ => true) true n 3 (List.take (Tryd.prog.cellsOf 3) (List.drop 1 [v0, v1, v2, v3])) = some y1 := (hf 1 _ rfl).trans e1
    rw [cellsI] at t1
    have t2 : DataW.trod enc Tryd.prog W 0 (fun _ => true) true n 9 (List.take (Tryd.prog.cellsOf 9) (List.drop 2 [v0, v1, v2, v3])) = some y2 := (hf 2 _ rfl).trans e2
    rw [cellsS] at t2
    have t3 : DataW.trod enc Tryd.prog W 0 (fun _ => true) true n 22 (List.take (Tryd.prog.cellsOf 22) (List.drop 3 [v0, v1, v2, v3])) = some y3 := (hf 3 _ rfl).trans e3
    rw [cellsK] at t3
    obtain ⟨k0, q0, _, hw0⟩ := DataW.trod_int Tryd.underlying5 t0
    obtain ⟨k1, q1, _, hw1⟩ := DataW.trod_int Tryd.underlying3 t1
    obtain ⟨s0, q2, _, hw2⟩ := DataW.trod_string Tryd.underlying9 t2
    simp only [List.drop_zero, List.drop_succ_cons, List.take_succ_cons, List.take_zero, List.cons.injEq, and_true] at q0 q1 q2 t3
    subst q0 q1 q2
    have hb0 := bounds_u8 hw0
    have hb1 := bounds_i64 hw1
    obtain ⟨kn, rfl⟩ := Int.eq_ofNat_of_zero_le hb0.1
    rcases DataW.trod_slice Tryd.underlying22 t3 with ⟨hcs, _⟩ | ⟨a, len, cap, elems, rest, n', rfl, hcs, _, _, hl, hm, hel, hi, _⟩
    · simp only [List.cons.injEq, and_true] at hcs
      subst hcs
      refine ⟨⟨kn, k1, s0.data.toList, none, 0, []⟩, rfl, KidsC.nil _ _ _, ?_⟩
      exact ⟨by show kn ≤ 255; omega, hb1.1, hb1.2, by simpa using hw2, by simp, trivial⟩
    · simp only [List.cons.injEq, and_true] at hcs
      subst hcs
      obtain ⟨b, o, sp⟩ := a
      rw [cellsNode] at hi
      have key : ∀ i, i < len → ∃ r : NodeR, sp = none ∧ b < W.heap.size ∧ (W.cell? ⟨b, o + i * 4, none⟩ = some (.int .u8 (r.k : Int)) ∧ W.cell? ⟨b, o + i * 4 + 1, none⟩ = some (.int .i64 r.num) ∧ W.cell? ⟨b, o + i * 4 + 2, none⟩ = some (.string ⟨r.nm.toArray⟩) ∧ W.cell? ⟨b, o + i * 4 + 3, none⟩ = some (.slice r.A r.kids.length r.c)) ∧ KidsC W (· < W.heap.size) r.A r.kids ∧ PP.bdT r.tree := by
        intro i hil
        obtain ⟨y, hy⟩ : ∃ y, elems[i]? = some y := ⟨_, List.getElem?_eq_getElem (by omega)⟩
        obtain ⟨cs', hc, ht⟩ := Option.bind_eq_some_iff.1 ((hi i hil).trans hy)
        obtain ⟨r, hr, hk, hbd⟩ := ih n' (by omega) cs' y ht
        subst hr
        obtain ⟨_, hcl, hat⟩ := World.cells?_some hc
        have a0 := hat 0 (by decide)
        have a1 := hat 1 (by decide)
        have a2 := hat 2 (by decide)
        have a3 := hat 3 (by decide)
        simp only [NodeR.cells, List.getElem?_cons_zero, List.getElem?_cons_succ] at a0 a1 a2 a3
        have hsp : sp = none := by
          obtain ⟨y', hy'⟩ : ∃ y, elems[0]? = some y := ⟨_, List.getElem?_eq_getElem (by omega)⟩
          obtain ⟨cs0, hc0, ht0⟩ := Option.bind_eq_some_iff.1 ((hi 0 (by omega)).trans hy')
          obtain ⟨r0, hr0, _⟩ := ih n' (by omega) cs0 y' ht0
          subst hr0
          have b0 := (World.cells?_some hc0).2.2 0 (by decide)
          simp only [NodeR.cells, List.getElem?_cons_zero] at b0
          simpa [Addr.add] using World.cell?_spot b0
        subst hsp
        rw [Go.WideShapes.add_plain, Go.WideShapes.add_plain] at a0 a1 a2 a3
        simp only [Nat.add_zero] at a0
        exact ⟨r, rfl, by simpa using World.block_lt_of_cell? W _ a0, ⟨a0, a1, a2, a3⟩, hk, hbd⟩
      obtain ⟨rs, h1, h2⟩ := list_of_allN _ len key
      have hg : ∀ i, i < len → rs[i]? = some (rs.getD i ⟨0, 0, [], none, 0, []⟩) := by
        intro i hi
        rw [List.getD_eq_getElem?_getD, List.getElem?_eq_getElem (by omega)]; rfl
      have hlen2 : (rs.map NodeR.tree).length = len := by simp [h1]
      refine ⟨⟨kn, k1, s0.data.toList, some ⟨b, o, sp⟩, cap, rs.map NodeR.tree⟩, ?_, ?_, ?_⟩
      · simp only [NodeR.cells, hlen2]
      · refine .mk _ _ b o (fun i => (rs.getD i ⟨0, 0, [], none, 0, []⟩).k) (fun i => (rs.getD i ⟨0, 0, [], none, 0, []⟩).num) (fun i => (rs.getD i ⟨0, 0, [], none, 0, []⟩).nm) (fun i => (rs.getD i ⟨0, 0, [], none, 0, []⟩).A) (fun i => (rs.getD i ⟨0, 0, [], none, 0, []⟩).c) (fun i => (rs.getD i ⟨0, 0, [], none, 0, []⟩).kids) (fun hn => ?_) (fun i hi => ?_) (fun i hi => ?_) (fun i hi => ?_)
        · have h0 : 0 < len := by
            rw [← h1]
            exact List.length_pos_iff.2 (by intro e; apply hn; simp [e])
          obtain ⟨hs, hb, _⟩ := h2 0 _ (hg 0 h0)
          subst hs
          exact ⟨rfl, hb, hb⟩
        · rw [hlen2] at hi
          rw [List.getElem?_map, hg i hi]; rfl
        · rw [hlen2] at hi
          exact (h2 i _ (hg i hi)).2.2.1
        · rw [hlen2] at hi
          exact (h2 i _ (hg i hi)).2.2.2.1
      · refine ⟨by show kn ≤ 255; omega, hb1.1, hb1.2, by simpa using hw2, by rw [hlen2]; omega, PP.bdL_of _ (fun i t hi => ?_)⟩
        rw [List.getElem?_map] at hi
        obtain ⟨r, hr, rfl⟩ := Option.map_eq_some_iff.1 hi
        exact (h2 i r hr).2.2.2.2
end Go.Proofs.YtkeehpgnljieeaaDoor
