/- A plan, a schedule as arguments, opened to cells; the close of a claim. -/
import Derived.Test.YtdlbokcndbbgnaaSlN
import Derived.ProofKit
import Derived.OpenShut
import Derived.Deep.Slices
import Derived.Deep.Fields
namespace Go.Proofs.Ytdlbokcndbbgnaa
open Go.ChangeShapes Go.WideShapes Go.ChangeAt Go.Deep Go.RowKit
open SL (Tk Jb Ms Cd)
theorem own : ownKnob Try.prog.godebug = none := by kernel_rfl
theorem laidOut : laidOutB Try.prog = true := by kernel_rfl
section
variable {H : Type} {enc : TypeId × Value → H} {P : Program}
theorem post_of_below {f : Func} {s : ChangeSpec} {apart fresh handsOn again : Bool} {W W' : World} {args : Array Value} {v : Value} {ds gs : List (DataW H)} {before pa pv : List MemPlace}
    (hW : DataW.Whole enc P f.params.toList s.vars apart W args.toList ds gs before)
    (hres : ∀ (b : Nat) (sp : Nat → Bool) (hd : Bool), DataW.TrodAll enc P W' b sp hd f.resultTypes.toList (v.resultList f.resultTypes.size) (s.fn H (ds ++ gs)).results [])
    (hargs : ∀ sp : Nat → Bool, (∀ p ∈ before, sp p.block = true) → DataW.TrodAll enc P W' 0 sp true f.params.toList args.toList (s.fn H (ds ++ gs)).args pa)
    (hvars : ∀ sp : Nat → Bool, (∀ p ∈ before, sp p.block = true) → DataW.TrodVars enc P W' sp s.vars (s.fn H (ds ++ gs)).vars pv)
    (hps : before = pa ++ pv) (hb : Below W.heap.size W W')
    (hok : ∀ (j : Nat) (t : TypeId) (r : Value), f.resultTypes[j]? = some t → (v.resultList f.resultTypes.size)[j]? = some r → Value.okWide P W' .any 0 t r) :
    s.post enc P f apart fresh handsOn again W args v W' := by
  have hlt : ∀ p ∈ before, p.block < W.heap.size := fun p hp => hW.lt p hp
  have hold : ∀ p ∈ before, (fun b => decide (b < W.heap.size)) p.block = true := fun p hp => by simpa using hlt p hp
  refine ⟨ds, gs, before, [], pa, pv, hW, hres _ _ _, hargs _ hold, hvars _ hold, World.keptBut_mono (fun p hp => ⟨hp, ?_⟩) (hb.frame (· ∈ before)), fun _ => ?_⟩
  · rw [hps, List.mem_append] at hp
    exact Or.inr hp
  · obtain ⟨_, _, _, _, _, hz, hn⟩ := hW
    refine ⟨hok, _, _, ([] ++ pa) ++ pv, ⟨[] ++ pa, pv, trodAll_append (hargs _ (fun _ _ => rfl)) (hres _ _ _), hvars _ (fun _ _ => rfl), rfl, ?_, ?_⟩, ?_⟩
    · intro b off hp
      have hin : MemPlace.cell b off ∈ before := by rw [hps]; simpa using hp
      rw [hb.frozen (hlt _ hin)]
      exact hz b off hin
    · intro ha
      have := hn ha
      rw [hps] at this
      simpa using this
    · intro p hp _
      rw [hps]
      simpa using hp
end
theorem list_of_all {α : Type} (P : Nat → α → Prop) : ∀ (n : Nat), (∀ i, i < n → ∃ r, P i r) → ∃ rs : List α, rs.length = n ∧ ∀ i r, rs[i]? = some r → P i r
  | 0, _ => ⟨[], rfl, fun i r h => by simp at h⟩
  | n + 1, h => by
    obtain ⟨rs, h1, h2⟩ := list_of_all P n (fun i hi => h i (by omega))
    obtain ⟨r, hr⟩ := h n (by omega)
    refine ⟨rs ++ [r], by simp [h1], fun i x hx => ?_⟩
    rcases Nat.lt_or_ge i n with hi | hi
    · rw [List.getElem?_append_left (by omega)] at hx
      exact h2 i x hx
    · rw [List.getElem?_append_right (by omega), h1] at hx
      have : i = n := by
        rcases Nat.eq_or_lt_of_le hi with h | h
        · exact h.symm
        · rw [List.getElem?_eq_none (by simp; omega)] at hx; cases hx
      subst this
      simp at hx
      subst hx
      exact hr
/-- A slice that came in, its elements being of any shape. -/
theorem open_list {H : Type} {enc : TypeId × Value → H} {W : World} {fuel : Nat} {A : Option Addr} {n c : Nat} {x : DataW H × List MemPlace} {α : Type} {t e : TypeId} (ht : Try.prog.underlying t = some (.slice e)) (C : Nat) (hC : Try.prog.cellsOf e = C) (hC0 : 0 < C)
    (f : α → List Value) (hf : ∀ r, (f r).length = C) (Q : α → Prop)
    (one : ∀ (fl : Nat) (cs' : List Value) (y : DataW H × List MemPlace), DataW.trod enc Try.prog W 0 (fun _ => true) true fl e cs' = some y → ∃ r, cs' = f r ∧ Q r)
    (h : DataW.trod enc Try.prog W 0 (fun _ => true) true fuel t [.slice A n c] = some x) : n ≤ maxLen ∧ ∃ l : List α, l.length = n ∧ (∀ r ∈ l, Q r) ∧ Row W A (l.flatMap f) := by
  rcases open_slice ht h with ⟨hcs, _⟩ | ⟨a, len, cap, m, fl, D, Pl, hcs, _, hl, hcm, hm, _, hi⟩
  · simp only [List.cons.injEq, Value.slice.injEq, and_true] at hcs
    obtain ⟨rfl, rfl, rfl⟩ := hcs
    exact ⟨Nat.zero_le _, [], rfl, fun v hv => by simp at hv, fun h => absurd rfl h⟩
  · simp only [List.cons.injEq, Value.slice.injEq, and_true] at hcs
    obtain ⟨rfl, rfl, rfl⟩ := hcs
    simp only [if_true] at hm
    subst hm
    obtain ⟨b, o, sp⟩ := a
    rw [hC] at hi
    have key : ∀ i, i < n → ∃ r : α, sp = none ∧ b < W.heap.size ∧ (∀ j v, (f r)[j]? = some v → W.cell? ⟨b, o + (i * C + j), none⟩ = some v) ∧ Q r := by
      intro i him
      obtain ⟨cs', hc, ht⟩ := hi i (by omega)
      obtain ⟨r, rfl, hr⟩ := one fl cs' _ ht
      obtain ⟨_, hcl, hat⟩ := World.cells?_some hc
      obtain ⟨cs0, hc0, ht0⟩ := hi 0 (by omega)
      obtain ⟨r0, rfl, _⟩ := one fl cs0 _ ht0
      have e0 : (f r0)[0]? = some ((f r0)[0]'(by rw [hf]; exact hC0)) := List.getElem?_eq_getElem (by rw [hf]; exact hC0)
      have h00 := ((World.cells?_some hc0).2.2 0 hC0).trans e0
      have hsp : sp = none := by simpa [Addr.add] using World.cell?_spot h00
      subst hsp
      refine ⟨r, rfl, ?_, fun j v hj => ?_, hr⟩
      · have e1 : (f r)[0]? = some ((f r)[0]'(by rw [hf]; exact hC0)) := List.getElem?_eq_getElem (by rw [hf]; exact hC0)
        have h0 := (hat 0 hC0).trans e1
        rw [Go.WideShapes.add_plain, Go.WideShapes.add_plain] at h0
        simpa using World.block_lt_of_cell? W _ h0
      · have hjl : j < C := by
          have := (List.getElem?_eq_some_iff.1 hj).1
          rw [hf] at this
          exact this
        have h0 := (hat j hjl).trans hj
        rw [Go.WideShapes.add_plain, Go.WideShapes.add_plain] at h0
        rw [← Nat.add_assoc]
        exact h0
    obtain ⟨rs, h1, h2⟩ := list_of_all _ n key
    refine ⟨by omega, rs, h1, fun v hv => ?_, fun hne => ?_⟩
    · obtain ⟨i, hi'⟩ := List.mem_iff_getElem?.1 hv
      exact (h2 i v hi').2.2.2
    · have hne' : rs ≠ [] := by intro e; apply hne; rw [e]; rfl
      obtain ⟨hsp, hb, _⟩ := h2 0 _ (List.getElem?_eq_getElem (List.length_pos_iff.2 hne'))
      subst hsp
      refine ⟨b, o, rfl, hb, fun i v hv => ?_⟩
      obtain ⟨q, j, hj, rfl⟩ : ∃ q j, j < C ∧ i = q * C + j := ⟨i / C, i % C, Nat.mod_lt _ hC0, by rw [Nat.mul_comm]; exact (Nat.div_add_mod i C).symm⟩
      rcases Nat.lt_or_ge q rs.length with hq | hq
      · have hr := List.getElem?_eq_getElem hq
        refine (h2 q _ hr).2.2.1 j v ?_
        rw [flat_at C f hf rs q j _ hr hj] at hv
        exact hv
      · rw [List.getElem?_eq_none (by
          rw [flat_len C f hf]
          have := Nat.mul_le_mul_right C hq
          omega)] at hv
        cases hv
def i64ok (k : Int) : Prop := -9223372036854775808 ≤ k ∧ k ≤ 9223372036854775807
theorem open_ints {H : Type} {enc : TypeId × Value → H} {W : World} {fuel : Nat} {A : Option Addr} {n c : Nat} {x : DataW H × List MemPlace}
    (h : DataW.trod enc Try.prog W 0 (fun _ => true) true fuel 35 [.slice A n c] = some x) : n ≤ maxLen ∧ ∃ l : List Int, l.length = n ∧ (∀ k ∈ l, i64ok k) ∧ Row W A (l.map (Value.int .i64)) := by
  obtain ⟨h1, l, h2, h3, h4⟩ := open_list Try.underlying35 1 (show Try.prog.cellsOf 3 = 1 by kernel_rfl) (by decide) (fun (k : Int) => [Value.int .i64 k]) (fun _ => rfl) i64ok (fun fl cs' y ht => by
    obtain ⟨k, hk, _, hw⟩ := DataW.trod_int Try.underlying3 ht
    exact ⟨k, hk, bounds_i64 hw⟩) h
  refine ⟨h1, l, h2, h3, ?_⟩
  rw [show l.map (Value.int .i64) = l.flatMap (fun k => [Value.int .i64 k]) from by rw [List.map_eq_flatMap]]
  exact h4
/-- A slice of slices of ints that came in. -/
theorem open_rels {H : Type} {enc : TypeId × Value → H} {W : World} {fuel : Nat} {A : Option Addr} {n c : Nat} {x : DataW H × List MemPlace} {t : TypeId} (ht : Try.prog.underlying t = some (.slice 35))
    (h : DataW.trod enc Try.prog W 0 (fun _ => true) true fuel t [.slice A n c] = some x) : n ≤ maxLen ∧ ∃ rs : List (List Int), rs.length = n ∧ (∀ r ∈ rs, r.length ≤ maxLen ∧ ∀ k ∈ r, i64ok k) ∧ RelV W (.slice A n c) rs := by
  have hC : Try.prog.cellsOf 35 = 1 := by kernel_rfl
  obtain ⟨h1, l, h2, h3, h4⟩ := open_list ht 1 hC (by decide) (fun (q : Value × List Int) => [q.1]) (fun _ => rfl) (fun q => ∃ Ai ci, q.1 = .slice Ai q.2.length ci ∧ q.2.length ≤ maxLen ∧ (∀ k ∈ q.2, i64ok k) ∧ Row W Ai (q.2.map (Value.int .i64))) (fun fl cs' y ht' => by
    rcases open_slice Try.underlying35 ht' with ⟨hcs, _⟩ | ⟨a, len, cap, m, fl', D, Pl, hcs, _, hl, hcm, hm, _, hi⟩
    · exact ⟨(.slice none 0 0, []), hcs, none, 0, rfl, Nat.zero_le _, fun k hk => by simp at hk, fun hn => absurd rfl hn⟩
    · subst hcs
      obtain ⟨g1, l, g2, g3, g4⟩ := open_ints ht'
      subst g2
      exact ⟨(.slice (some a) l.length cap, l), rfl, some a, cap, rfl, g1, g3, g4⟩) h
  subst h2
  refine ⟨h1, l.map (·.2), by simp, fun r hr => ?_, A, c, l.map (·.1), by simp, by simp, ?_, fun i r hr => ?_⟩
  · obtain ⟨q, hq, rfl⟩ := List.mem_map.1 hr
    obtain ⟨_, _, _, g2, g3, _⟩ := h3 q hq
    exact ⟨g2, g3⟩
  · rw [show l.map (·.1) = l.flatMap (fun q => [q.1]) from by rw [List.map_eq_flatMap]]
    exact h4
  · rw [List.getElem?_map] at hr
    obtain ⟨q, hq, rfl⟩ := Option.map_eq_some_iff.1 hr
    obtain ⟨Ai, ci, g1, _, _, g4⟩ := h3 q (List.mem_of_getElem? hq)
    exact ⟨Ai, ci, by rw [List.getElem?_map, hq]; exact congrArg some g1, g4⟩
set_option maxRecDepth 100000 in
theorem open_tasks {H : Type} {enc : TypeId × Value → H} {W : World} {fuel : Nat} {A : Option Addr} {n c : Nat} {x : DataW H × List MemPlace}
    (h : DataW.trod enc Try.prog W 0 (fun _ => true) true fuel 22 [.slice A n c] = some x) : n ≤ maxLen ∧ ∃ l : List Tk, l.length = n ∧ Row W A (tkRow l) := by
  have hC : Try.prog.cellsOf 34 = 3 := by kernel_rfl
  have hCs : Try.prog.cellsOf 9 = 1 := by kernel_rfl
  have hCi : Try.prog.cellsOf 3 = 1 := by kernel_rfl
  obtain ⟨h1, l, h2, _, h4⟩ := open_list Try.underlying22 3 hC (by decide) (fun (q : Tk) => (tkV q).toList) (fun _ => rfl) (fun _ => True) (fun fl cs' y ht => by
    obtain ⟨xs, nn, rfl, _, hlen, hxl, hf⟩ := DataW.trod_struct Try.underlying34 ht
    rw [hC] at hlen
    obtain ⟨v0, v1, v2, rfl⟩ : ∃ v0 v1 v2, cs' = [v0, v1, v2] := by
      match cs', hlen with
      | [a, b, c], _ => exact ⟨a, b, c, rfl⟩
    have hx : ∀ i, i < 3 → ∃ y, xs[i]? = some y := fun i hi => ⟨_, List.getElem?_eq_getElem (by rw [hxl]; exact hi)⟩
    obtain ⟨y0, e0⟩ := hx 0 (by decide)
    obtain ⟨y1, e1⟩ := hx 1 (by decide)
    obtain ⟨y2, e2⟩ := hx 2 (by decide)
    have t0 : DataW.trod enc Try.prog W 0 (fun _ => true) true nn 9 (List.take (Try.prog.cellsOf 9) (List.drop 0 [v0, v1, v2])) = some y0 := (hf 0 _ rfl).trans e0
    have t1 : DataW.trod enc Try.prog W 0 (fun _ => true) true nn 3 (List.take (Try.prog.cellsOf 3) (List.drop 1 [v0, v1, v2])) = some y1 := (hf 1 _ rfl).trans e1
    have t2 : DataW.trod enc Try.prog W 0 (fun _ => true) true nn 3 (List.take (Try.prog.cellsOf 3) (List.drop 2 [v0, v1, v2])) = some y2 := (hf 2 _ rfl).trans e2
    rw [hCs] at t0
    rw [hCi] at t1 t2
    obtain ⟨k0, q0, _⟩ := DataW.trod_string Try.underlying9 t0
    obtain ⟨k1, q1, _, _⟩ := DataW.trod_int Try.underlying3 t1
    obtain ⟨k2, q2, _, _⟩ := DataW.trod_int Try.underlying3 t2
    simp only [List.drop_zero, List.drop_succ_cons, List.take_succ_cons, List.take_zero, List.cons.injEq, and_true] at q0 q1 q2
    subst q0 q1 q2
    exact ⟨⟨k0, k1, k2⟩, rfl, trivial⟩) h
  exact ⟨h1, l, h2, h4⟩
set_option maxRecDepth 100000 in
/-- A plan that came in. -/
theorem open_plan {H : Type} {enc : TypeId × Value → H} {W : World} {base : Nat} {v : Value} {d : DataW H} {p : List MemPlace}
    (hv : Value.okWide Try.prog W .any base 25 v) (h : DataW.Trod enc Try.prog W 0 (fun _ => true) true 25 v d p) :
    ∃ q : Pl, v = .agg (plV q) ∧ PlIn W q ∧ i64ok q.cores ∧ i64ok q.untl ∧ ∀ r ∈ q.m.rs, ∀ k ∈ r, i64ok k := by
  obtain ⟨cs, rfl, hsz⟩ := okWide_struct Try.underlying25 hv
  obtain ⟨fuel, hf0⟩ := h
  have hC : Try.prog.cellsOf 25 = 4 := by kernel_rfl
  have hC1 : Try.prog.cellsOf 22 = 1 := by kernel_rfl
  have hC2 : Try.prog.cellsOf 23 = 1 := by kernel_rfl
  have hCi : Try.prog.cellsOf 3 = 1 := by kernel_rfl
  rw [hC] at hsz
  obtain ⟨v0, v1, v2, v3, rfl⟩ : ∃ v0 v1 v2 v3, cs = #[v0, v1, v2, v3] := by
    obtain ⟨l⟩ := cs
    match l, hsz with
    | [a, b, c, d], _ => exact ⟨a, b, c, d, rfl⟩
  rw [show (Value.agg #[v0, v1, v2, v3]).cells.toList = [v0, v1, v2, v3] from rfl] at hf0
  obtain ⟨xs, nn, rfl, _, hlen, hxl, hf⟩ := DataW.trod_struct Try.underlying25 hf0
  have hx : ∀ i, i < 4 → ∃ y, xs[i]? = some y := fun i hi => ⟨_, List.getElem?_eq_getElem (by rw [hxl]; exact hi)⟩
  obtain ⟨y0, e0⟩ := hx 0 (by decide)
  obtain ⟨y1, e1⟩ := hx 1 (by decide)
  obtain ⟨y2, e2⟩ := hx 2 (by decide)
  obtain ⟨y3, e3⟩ := hx 3 (by decide)
  have t0 : DataW.trod enc Try.prog W 0 (fun _ => true) true nn 22 (List.take (Try.prog.cellsOf 22) (List.drop 0 [v0, v1, v2, v3])) = some y0 := (hf 0 _ rfl).trans e0
  have t1 : DataW.trod enc Try.prog W 0 (fun _ => true) true nn 3 (List.take (Try.prog.cellsOf 3) (List.drop 1 [v0, v1, v2, v3])) = some y1 := (hf 1 _ rfl).trans e1
  have t2 : DataW.trod enc Try.prog W 0 (fun _ => true) true nn 23 (List.take (Try.prog.cellsOf 23) (List.drop 2 [v0, v1, v2, v3])) = some y2 := (hf 2 _ rfl).trans e2
  have t3 : DataW.trod enc Try.prog W 0 (fun _ => true) true nn 3 (List.take (Try.prog.cellsOf 3) (List.drop 3 [v0, v1, v2, v3])) = some y3 := (hf 3 _ rfl).trans e3
  rw [hC1] at t0
  rw [hC2] at t2
  rw [hCi] at t1 t3
  simp only [List.drop_zero, List.drop_succ_cons, List.take_succ_cons, List.take_zero] at t0 t1 t2 t3
  obtain ⟨k1, q1, _, hw1⟩ := DataW.trod_int Try.underlying3 t1
  obtain ⟨k3, q3, _, hw3⟩ := DataW.trod_int Try.underlying3 t3
  simp only [List.cons.injEq, and_true] at q1 q3
  subst q1 q3
  have sl : ∀ {fl : Nat} {t e : TypeId} {v : Value} {y : DataW H × List MemPlace}, Try.prog.underlying t = some (.slice e) → DataW.trod enc Try.prog W 0 (fun _ => true) true fl t [v] = some y → ∃ A n c, v = .slice A n c := by
    intro fl t e v y ht h
    rcases open_slice ht h with ⟨hcs, _⟩ | ⟨a, len, cap, m, fl', D, Pl, hcs, _⟩
    · exact ⟨none, 0, 0, by simpa using hcs⟩
    · exact ⟨some a, len, cap, by simpa using hcs⟩
  obtain ⟨A, n, c, rfl⟩ := sl Try.underlying22 t0
  obtain ⟨rA, rn, rc, rfl⟩ := sl Try.underlying23 t2
  obtain ⟨g1, ts, rfl, g3⟩ := open_tasks t0
  obtain ⟨f1, rs, rfl, f3, f4⟩ := open_rels Try.underlying23 t2
  exact ⟨⟨⟨ts, A, c, rs, rA, rc⟩, k1, k3⟩, rfl, ⟨g3, f4, g1, f1, fun r hr => ⟨(f3 r hr).1, fun x hx => ((f3 r hr).2 x hx).2⟩⟩, bounds_i64 hw1, bounds_i64 hw3, fun r hr => (f3 r hr).2⟩
end Go.Proofs.Ytdlbokcndbbgnaa
