/- Code appended to code of the call's own. -/
import Derived.Test.YtgeagpplihecmaaDoorAsL
import Derived.Maps.AppendAt
import Derived.Deep.AppendLies
namespace Go.Proofs.YtgeagpplihecmaaDoor
open Go.RowKit Go.Maps
open AS (Ins)
theorem insCells_length (l : List Ins) : (insCells l).length = l.length * 5 := by
  unfold insCells
  induction l with
  | nil => rfl
  | cons i l ih => rw [List.flatMap_cons, List.length_append, ih]; simp [insV]; omega
theorem insCells_one (l : List Ins) : ∀ u ∈ insCells l, u.oneCell' = true := by
  intro u hu
  obtain ⟨x, _, hx⟩ := List.mem_flatMap.1 hu
  simp [insV] at hx
  rcases hx with rfl | rfl | rfl | rfl | rfl <;> rfl
theorem insCells_app (a b : List Ins) : insCells (a ++ b) = insCells a ++ insCells b := by simp [insCells]
theorem insCells_nil {l : List Ins} : insCells l = [] ↔ l = [] := by
  constructor
  · intro h
    have := insCells_length l
    rw [h] at this
    exact List.eq_nil_of_length_eq_zero (by simp at this; omega)
  · rintro rfl; rfl
set_option maxRecDepth 100000 in
theorem append_ins {w : World} {base : Nat} {v : Value} {xs : List Ins} {n m : Nat} (ho : w.ownsRow base 48 5 v n (insCells xs)) {A : Option Addr} {ys : List Ins} {c : Nat} (hr : Row w A (insCells ys)) (hb : base ≤ w.heap.size) (hm : ys.length = m) (hlen : n + m ≤ 1000000) (ty : TypeId) :
    ∃ v' w', (Builtin.append_ #[22, 22] ty #[v, .slice A m c]).run Tryd.prog w = .ok v' w' ∧ w'.ownsRow base 48 5 v' (n + m) (insCells (xs ++ ys)) ∧ Below base w w' := by
  obtain ⟨i0, hi, hz0, hz1, hz2⟩ := info_parts infoIns
  subst hm
  by_cases he : ys = []
  · subst he
    refine ⟨v, w, ?_, by simpa using ho, Below.refl _ _⟩
    have hlc : ∀ a (w : World), Sem.run Tryd.prog (loadCells a 0) w = .ok #[] w := fun _ _ => rfl
    rcases ho.2 with ⟨rfl, _⟩ | ⟨g, cap, cur, rfl, _, _, hnc, _⟩
    · cases A <;> simp [Builtin.append_, run_underlying (P := Tryd.prog) Tryd.underlying22, sizeOf, typeInfo, hi, Builtin.lenOf, Builtin.firstCells, hlc]
    · cases A <;> simp [Builtin.append_, run_underlying (P := Tryd.prog) Tryd.underlying22, sizeOf, typeInfo, hi, Builtin.lenOf, Builtin.firstCells, hnc, storeCells, hlc]
  · obtain ⟨b, o, rfl, hlt, hc⟩ := hr (fun h => he (insCells_nil.1 h))
    obtain ⟨v', w', h1, h2, h3, _⟩ := run_append_own (P := Tryd.prog) w base 22 ty 48 i0 (.agg #[.int .u8 0, .int .i64 0, .int .i64 0, .int .i64 0, .int .i64 0]) 5 40 Tryd.underlying22 hi hz0 hz1 hz2 rfl (by decide) v n (insCells xs) ho ⟨b, o, none⟩ ys.length c (insCells ys) (insCells_length ys) (fun j u hj => by
      rw [show (⟨b, o, none⟩ : Addr).add j = ⟨b, o + j, none⟩ from by unfold Addr.add; split <;> simp_all]
      exact hc j u hj) (insCells_one ys) (by unfold maxLen; omega) (by omega) hb
    refine ⟨v', w', h1, by rw [insCells_app]; exact h2, ?_⟩
    exact (Below.refl _ _).grown h3 hb (fun k hk => (ho.lt k hk).1)
theorem wpList_append_ins {ops : Array Oper} {rest : List Oper} {o : Oper} {a : Act} {Q : Exit → Act → World → Prop} {w : World} (hgd : Region.wanted o (yielded ops a.tmps) = true) (s x : Operand)
    (ho : o.op = .call { callee := .builtin .append, args := #[s, x], argTypes := #[22, 22] })
    {base : Nat} {v : Value} {xs : List Ins} {n m : Nat} (hs : a.eval s = v) (hown : w.ownsRow base 48 5 v n (insCells xs)) {A : Option Addr} {ys : List Ins} {c : Nat} (hx : a.eval x = .slice A m c) (hr : Row w A (insCells ys)) (hb : base ≤ w.heap.size) (hm : ys.length = m) (hlen : n + m ≤ 1000000)
    (h : ∀ v' w', w'.ownsRow base 48 5 v' (n + m) (insCells (xs ++ ys)) → Below base w w' → wpList Tryd.prog ops Q rest (a.put o.dst v') w') : wpList Tryd.prog ops Q (o :: rest) a w := by
  refine wpList_step fun K hK => ?_
  rw [if_pos hgd]
  obtain ⟨v', w', hrun, h2, h3⟩ := append_ins hown hr hb hm hlen o.type (c := c)
  unfold Oper.wp execOp
  simp only [ho, resolve, invoke, builtin, Sem.run_bind, Sem.run_pure, Result.andThen_ok, List.map_toArray, List.map_cons, List.map_nil, hs, hx, hrun]
  exact hK _ _ (h v' w' h2 h3)
end Go.Proofs.YtgeagpplihecmaaDoor
