/- A row of nodes appended to a row of the call's own. -/
import Derived.Test.YtfakdbnfpdalhaaGreatDoorBlk13
import Derived.Maps.AppendAt
import Derived.Deep.AppendLies
namespace Go.Proofs.YtfakdbnfpdalhaaGreatDoor
open Go.RowKit Go.Maps
open PP (Tree)
def elsOf (K : Nat → Nat) (N : Nat → Int) (S : Nat → List UInt8) (AA : Nat → Option Addr) (C : Nat → Nat) (KS : Nat → List Tree) (n : Nat) : List NodeE := (List.range n).map fun i => ⟨K i, N i, S i, AA i, C i, KS i⟩
theorem nodesCells_split : ∀ (xs : List NodeE) (j : Nat) (u : Value), (nodesCells xs)[j]? = some u → ∃ i x, xs[i]? = some x ∧ ((j = i * 4 ∧ u = .int .u8 (x.k : Int)) ∨ (j = i * 4 + 1 ∧ u = .int .i64 x.num) ∨ (j = i * 4 + 2 ∧ u = .string ⟨x.nm.toArray⟩) ∨ (j = i * 4 + 3 ∧ u = .slice x.A x.kids.length x.c))
  | [], j, u, h => by simp [nodesCells] at h
  | x :: xs, j, u, h => by
    have e : nodesCells (x :: xs) = x.cells ++ nodesCells xs := by simp [nodesCells]
    rw [e] at h
    match j, h with
    | 0, h => simp [NodeE.cells] at h; exact ⟨0, x, rfl, .inl ⟨rfl, h.symm⟩⟩
    | 1, h => simp [NodeE.cells] at h; exact ⟨0, x, rfl, .inr (.inl ⟨rfl, h.symm⟩)⟩
    | 2, h => simp [NodeE.cells] at h; exact ⟨0, x, rfl, .inr (.inr (.inl ⟨rfl, h.symm⟩))⟩
    | 3, h => simp [NodeE.cells] at h; exact ⟨0, x, rfl, .inr (.inr (.inr ⟨rfl, h.symm⟩))⟩
    | j + 4, h =>
      have hl : x.cells.length = 4 := rfl
      rw [List.getElem?_append_right (by omega), show j + 4 - x.cells.length = j from by omega] at h
      obtain ⟨i, y, h1, h2⟩ := nodesCells_split xs j u h
      refine ⟨i + 1, y, by simpa using h1, ?_⟩
      rcases h2 with ⟨a, b⟩ | ⟨a, b⟩ | ⟨a, b⟩ | ⟨a, b⟩
      · exact .inl ⟨by omega, b⟩
      · exact .inr (.inl ⟨by omega, b⟩)
      · exact .inr (.inr (.inl ⟨by omega, b⟩))
      · exact .inr (.inr (.inr ⟨by omega, b⟩))
/-- The children of a node as a row of elements. -/
theorem KidsC.els {w : World} {Z : Nat → Prop} {A : Option Addr} {kids : List Tree} (h : KidsC w Z A kids) :
    ∃ els : List NodeE, els.map NodeE.tree = kids ∧ (∀ x ∈ els, KidsC w Z x.A x.kids) ∧ (kids ≠ [] → ∃ a : Addr, A = some a ∧ ∀ j u, (nodesCells els)[j]? = some u → w.cell? (a.add j) = some u) := by
  cases h with
  | mk _ _ g o K N S AA C KS hA hk hc hh =>
    refine ⟨elsOf K N S AA C KS kids.length, ?_, fun x hx => ?_, fun hn => ?_⟩
    · apply List.ext_getElem?
      intro i
      rw [List.getElem?_map]
      unfold elsOf
      rw [List.getElem?_map]
      rcases Nat.lt_or_ge i kids.length with hi | hi
      · rw [List.getElem?_range hi, hk i hi]; rfl
      · rw [List.getElem?_eq_none (by simpa using hi), List.getElem?_eq_none hi]; rfl
    · obtain ⟨i, hi, rfl⟩ := List.mem_map.1 hx
      exact hh i (by simpa using hi)
    · obtain ⟨h1, _, _⟩ := hA hn
      refine ⟨⟨g, o, none⟩, h1, fun j u hj => ?_⟩
      have hadd : (⟨g, o, none⟩ : Addr).add j = ⟨g, o + j, none⟩ := by unfold Addr.add; split <;> simp_all
      rw [hadd]
      obtain ⟨i, x, hx, hcase⟩ := nodesCells_split _ j u hj
      unfold elsOf at hx
      rw [List.getElem?_map] at hx
      obtain ⟨i', hi', rfl⟩ := Option.map_eq_some_iff.1 hx
      have hlt : i < kids.length := by
        rcases Nat.lt_or_ge i kids.length with h | h
        · exact h
        · rw [List.getElem?_eq_none (by simpa using h)] at hi'; cases hi'
      rw [List.getElem?_range hlt] at hi'
      injection hi' with hi'
      subst hi'
      obtain ⟨c0, c1, c2, c3⟩ := hc i hlt
      rcases hcase with ⟨rfl, rfl⟩ | ⟨rfl, rfl⟩ | ⟨rfl, rfl⟩ | ⟨rfl, rfl⟩
      · exact c0
      · rw [← Nat.add_assoc]; exact c1
      · rw [← Nat.add_assoc]; exact c2
      · rw [← Nat.add_assoc]; exact c3
theorem nodesCells_one (xs : List NodeE) : ∀ u ∈ nodesCells xs, u.oneCell' = true := by
  intro u hu
  obtain ⟨x, _, hx⟩ := List.mem_flatMap.1 hu
  simp [NodeE.cells] at hx
  rcases hx with rfl | rfl | rfl | rfl <;> rfl
/-- What the call holds of a row of nodes of its own. -/
structure OwnK (w : World) (base : Nat) (v : Value) (els : List NodeE) : Prop where
  own : w.ownsRow base 36 4 v els.length (nodesCells els)
  ks : ∀ x ∈ els, KidsC w (fun g => v.ownBlock ≠ some g) x.A x.kids
theorem OwnK.kids {w : World} {base : Nat} {v : Value} {els : List NodeE} (h : OwnK w base v els) : ∃ A c, v = .slice A (els.map NodeE.tree).length c ∧ KidsC w (· < w.heap.size) A (els.map NodeE.tree) :=
  kids_of_row h.own (fun x hx => (h.ks x hx).weak (fun _ _ hg => hg)) (fun g hg => (h.own.lt g hg).2)
set_option maxRecDepth 100000 in
theorem append_kids {w : World} {base : Nat} {v : Value} {els : List NodeE} (ho : OwnK w base v els) {A : Option Addr} {kids : List Tree} {c n m : Nat} (hk : KidsC w (· < base) A kids) (hb : base ≤ w.heap.size) (hn : els.length = n) (hm : kids.length = m) (hlen : n + m ≤ 1000000) (ty : TypeId) :
    ∃ v' els' w', (Builtin.append_ #[34, 34] ty #[v, .slice A m c]).run Tryz.prog w = .ok v' w' ∧ OwnK w' base v' els' ∧ els'.map NodeE.tree = els.map NodeE.tree ++ kids ∧ Below base w w' := by
  obtain ⟨i0, hi, hz0, hz1, hz2⟩ := info_parts infoNode
  obtain ⟨xs, hx, hxk, hxc⟩ := hk.els
  subst hn hm
  have hxl : xs.length = kids.length := by rw [← hx]; simp
  by_cases he : kids = []
  · subst he
    have hxe : xs = [] := by cases xs with
      | nil => rfl
      | cons _ _ => simp at hxl
    subst hxe
    refine ⟨v, els, w, ?_, ho, by simp, Below.refl _ _⟩
    have hlc : ∀ a (w : World), Sem.run Tryz.prog (loadCells a 0) w = .ok #[] w := fun _ _ => rfl
    rcases ho.own.2 with ⟨rfl, _⟩ | ⟨g, cap, cur, rfl, _, _, hnc, _⟩
    · cases A <;> simp [Builtin.append_, run_underlying (P := Tryz.prog) Tryz.underlying34, sizeOf, typeInfo, hi, Builtin.lenOf, Builtin.firstCells, hlc]
    · cases A <;> simp [Builtin.append_, run_underlying (P := Tryz.prog) Tryz.underlying34, sizeOf, typeInfo, hi, Builtin.lenOf, Builtin.firstCells, hnc, storeCells, hlc]
  · obtain ⟨a, rfl, hcell⟩ := hxc he
    obtain ⟨v', w', hr, hown', hg, _, hat⟩ := run_append_own_at (P := Tryz.prog) w base 34 ty 36 i0 (.agg #[.int .u8 0, .int .i64 0, .string ⟨#[]⟩, .slice none 0 0]) 4 56 Tryz.underlying34 hi hz0 hz1 hz2 rfl (by decide) v els.length (nodesCells els) ho.own a kids.length c (nodesCells xs) (by rw [nodesCells_length, hxl]) hcell (nodesCells_one xs) (by unfold maxLen; omega) (by omega) hb
    have hvb : ∀ g, v.ownBlock = some g → base ≤ g ∧ g < w.heap.size := fun g hg => ho.own.lt g hg
    have hbel : Below base w w' := (Below.refl _ _).grown hg hb (fun k hk => (hvb k hk).1)
    refine ⟨v', els ++ xs, w', hr, ⟨?_, ?_⟩, by rw [List.map_append, hx], hbel⟩
    · rw [List.length_append, hxl, show nodesCells (els ++ xs) = nodesCells els ++ nodesCells xs from by simp [nodesCells]]
      exact hown'
    · intro y hy
      have hv' : ∀ g, v'.ownBlock = some g → v.ownBlock = some g ∨ g = w.heap.size := fun g h => by
        rcases hat with h1 | h1
        · left; rw [← h1, h]
        · right; rw [h1] at h; injection h with h; exact h.symm
      have kp : ∀ Z : Nat → Prop, (∀ k, Z k → v.ownBlock ≠ some k) → Keep Z w w' := fun Z hz => ⟨hg.size, fun k hk hlt => hg.block k hlt (fun e => hz k hk e.symm)⟩
      rcases List.mem_append.1 hy with hy | hy
      · have h1 := (ho.ks y hy).weak (Z' := fun k => v.ownBlock ≠ some k ∧ k < w.heap.size) (fun k hk hlt => ⟨hk, hlt⟩)
        refine (h1.keep (kp _ (fun k hk => hk.1))).weak (fun k hk _ => ?_)
        intro e
        rcases hv' k e with e | e
        · exact hk.1 e
        · have := hk.2; omega
      · have h1 := (hxk y hy).weak (Z' := fun k => k < base) (fun k hk hlt => hk)
        refine (h1.keep (kp _ (fun k (hk : k < base) e => by have := (hvb k e).1; omega))).weak (fun k hk _ => ?_)
        intro e
        have hk' : k < base := hk
        rcases hv' k e with e | e
        · have := (hvb k e).1; omega
        · omega
theorem step_append_kids {ops : Array Oper} {o : Oper} {a : Act} {K : Act → World → Prop} {Q : Exit → Act → World → Prop} {E : Prop} {w : World} (hgd : o.guard = none) (s x : Operand)
    (ho : o.op = .call { callee := .builtin .append, args := #[s, x], argTypes := #[34, 34] })
    {base : Nat} {v : Value} {els : List NodeE} (hs : a.eval s = v) (hown : OwnK w base v els) {A : Option Addr} {kids : List Tree} {c n m : Nat} (hx : a.eval x = .slice A m c) (hk : KidsC w (· < base) A kids) (hb : base ≤ w.heap.size) (hn : els.length = n) (hm : kids.length = m) (hlen : n + m ≤ 1000000)
    (h : ∀ v' els' w', OwnK w' base v' els' → els'.map NodeE.tree = els.map NodeE.tree ++ kids → Below base w w' → K (a.put o.dst v') w') :
    if Region.wanted o (yielded ops a.tmps) = true then Oper.wp Tryz.prog o a w K Q else E := by
  have hw : Region.wanted o (yielded ops a.tmps) = true := by simp [Region.wanted, hgd]
  rw [if_pos hw]
  obtain ⟨v', els', w', hr, h2, h3, h4⟩ := append_kids hown hk hb hn hm hlen o.type (c := c)
  unfold Oper.wp execOp
  simp only [ho, resolve, invoke, builtin, Sem.run_bind, Sem.run_pure, Result.andThen_ok, List.map_toArray, List.map_cons, List.map_nil, hs, hx, hr]
  exact h v' els' w' h2 h3 h4
/-- The same, the row's end as a tree's children. -/
theorem step_append_kids2 {ops : Array Oper} {o : Oper} {a : Act} {K : Act → World → Prop} {Q : Exit → Act → World → Prop} {E : Prop} {w : World} (hgd : o.guard = none) (s x : Operand)
    (ho : o.op = .call { callee := .builtin .append, args := #[s, x], argTypes := #[34, 34] })
    {base : Nat} {v : Value} {els : List NodeE} {k0 : List Tree} (hs : a.eval s = v) (hown : OwnK w base v els) (hmap : els.map NodeE.tree = k0) {A : Option Addr} {kids : List Tree} {c m : Nat} (hx : a.eval x = .slice A m c) (hk : KidsC w (· < base) A kids) (hb : base ≤ w.heap.size) (hm : kids.length = m) (hlen : k0.length + m ≤ 1000000)
    (h : ∀ A2 c2 w', KidsC w' (· < w'.heap.size) A2 (k0 ++ kids) → Below base w w' → K (a.put o.dst (.slice A2 (k0 ++ kids).length c2)) w') :
    if Region.wanted o (yielded ops a.tmps) = true then Oper.wp Tryz.prog o a w K Q else E := by
  have hl : els.length = k0.length := by rw [← hmap]; simp
  refine step_append_kids hgd s x ho hs hown hx hk hb hl hm hlen ?_
  intro v' els' w' h1 h2 h3
  obtain ⟨A2, c2, hv, hk2⟩ := h1.kids
  rw [h2, hmap] at hv hk2
  rw [hv]
  exact h A2 c2 w' hk2 h3
end Go.Proofs.YtfakdbnfpdalhaaGreatDoor
