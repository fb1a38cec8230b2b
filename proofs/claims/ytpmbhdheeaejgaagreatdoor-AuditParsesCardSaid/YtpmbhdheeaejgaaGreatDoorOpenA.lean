/- Tasks, events as arguments, opened to cells; the close of a claim. -/
import Derived.Test.YtpmbhdheeaejgaaGreatDoorAuM
import Derived.ProofKit
import Derived.OpenShut
import Derived.Deep.Slices
import Derived.Deep.Fields
namespace Go.Proofs.YtpmbhdheeaejgaaGreatDoor
open Go.ChangeShapes Go.WideShapes Go.ChangeAt Go.Deep Go.RowKit
open SL (Tk Cd)
open AU (Ev)
theorem own : ownKnob Tryz.prog.godebug = none := by kernel_rfl
theorem laidOut : laidOutB Tryz.prog = true := by kernel_rfl
section
variable {H : Type} {enc : TypeId × Value → H} {P : Program}
theorem post_of_below {f : Func} {s : ChangeSpec} {apart fresh handsOn again : Bool} {W W' : World} {args : Array Value} {v : Value} {ds gs : List (DataW H)} {before pa pv : List MemPlace}
    (hW : DataW.Whole enc P f.params.toList s.vars apart W args.toList ds gs before)
    (hres : ∀ (b : Nat) (sp : Nat → Bool) (hd : Bool), DataW.TrodAll enc P W' b sp hd f.resultTypes.toList (v.resultList f.resultTypes.size) (s.fn H (ds ++ gs)).results [])
    (hargs : ∀ sp : Nat → Bool, (∀ p ∈ before, sp p.block = true) → DataW.TrodAll enc P W' 0 sp true f.params.toList args.toList (s.fn H (ds ++ gs)).args pa)
    (hvars : ∀ sp : Nat → Bool, (∀ p ∈ before, sp p.block = true) → DataW.TrodVars enc P W' sp s.vars (s.fn H (ds ++ gs)).vars pv)
    (hps : before = pa ++ pv) (hb : Below W.heap.size W W')
    (hok : ∀ (j : Nat) (t : TypeId) (r : Value), f.resultTypes[j]? = some t → (v.resultList f.resultTypes.size)[j]? = some r → Value.okWide P W' .any 0 t r) :
    s.post enc P f apart fresh handsOn again W args v W' := by
  have hlt : ∀ p ∈ before, p.block < W.heap.size := fun p hp => hW.lt p hp
  have hold : ∀ p ∈ before, (fun b => decide (b < W.heap.size)) p.block = true := fun p hp => by simpa using hlt p hp
  refine ⟨ds, gs, before, [], pa, pv, hW, hres _ _ _, hargs _ hold, hvars _ hold, World.keptBut_mono (fun p hp => ⟨hp, ?_⟩) (hb.frame (· ∈ before)), fun _ => ?_⟩
  · rw [hps, List.mem_append] at hp
    exact Or.inr hp
  · obtain ⟨_, _, _, _, _, hz, hn⟩ := hW
    refine ⟨hok, _, _, ([] ++ pa) ++ pv, ⟨[] ++ pa, pv, trodAll_append (hargs _ (fun _ _ => rfl)) (hres _ _ _), hvars _ (fun _ _ => rfl), rfl, ?_, ?_⟩, ?_⟩
    · intro b off hp
      have hin : MemPlace.cell b off ∈ before := by rw [hps]; simpa using hp
      rw [hb.frozen (hlt _ hin)]
      exact hz b off hin
    · intro ha
      have := hn ha
      rw [hps] at this
      simpa using this
    · intro p hp _
      rw [hps]
      simpa using hp
end
theorem list_of_all {α : Type} (P : Nat → α → Prop) : ∀ (n : Nat), (∀ i, i < n → ∃ r, P i r) → ∃ rs : List α, rs.length = n ∧ ∀ i r, rs[i]? = some r → P i r
  | 0, _ => ⟨[], rfl, fun i r h => by simp at h⟩
  | n + 1, h => by
    obtain ⟨rs, h1, h2⟩ := list_of_all P n (fun i hi => h i (by omega))
    obtain ⟨r, hr⟩ := h n (by omega)
    refine ⟨rs ++ [r], by simp [h1], fun i x hx => ?_⟩
    rcases Nat.lt_or_ge i n with hi | hi
    · rw [List.getElem?_append_left (by omega)] at hx
      exact h2 i x hx
    · rw [List.getElem?_append_right (by omega), h1] at hx
      have : i = n := by
        rcases Nat.eq_or_lt_of_le hi with h | h
        · exact h.symm
        · rw [List.getElem?_eq_none (by simp; omega)] at hx; cases hx
      subst this
      simp at hx
      subst hx
      exact hr
/-- A slice that came in, its elements being of any shape. -/
theorem open_list {H : Type} {enc : TypeId × Value → H} {W : World} {fuel : Nat} {A : Option Addr} {n c : Nat} {x : DataW H × List MemPlace} {α : Type} {t e : TypeId} (ht : Tryz.prog.underlying t = some (.slice e)) (C : Nat) (hC : Tryz.prog.cellsOf e = C) (hC0 : 0 < C)
    (f : α → List Value) (hf : ∀ r, (f r).length = C) (Q : α → Prop)
    (one : ∀ (fl : Nat) (cs' : List Value) (y : DataW H × List MemPlace), DataW.trod enc Tryz.prog W 0 (fun _ => true) true fl e cs' = some y → ∃ r, cs' = f r ∧ Q r)
    (h : DataW.trod enc Tryz.prog W 0 (fun _ => true) true fuel t [.slice A n c] = some x) : n ≤ maxLen ∧ ∃ l : List α, l.length = n ∧ (∀ r ∈ l, Q r) ∧ Row W A (l.flatMap f) := by
  rcases open_slice ht h with ⟨hcs, _⟩ | ⟨a, len, cap, m, fl, D, Pl, hcs, _, hl, hcm, hm, _, hi⟩
  · simp only [List.cons.injEq, Value.slice.injEq, and_true] at hcs
    obtain ⟨rfl, rfl, rfl⟩ := hcs
    exact ⟨Nat.zero_le _, [], rfl, fun v hv => by simp at hv, fun h => absurd rfl h⟩
  · simp only [List.cons.injEq, Value.slice.injEq, and_true] at hcs
    obtain ⟨rfl, rfl, rfl⟩ := hcs
    simp only [if_true] at hm
    subst hm
    obtain ⟨b, o, sp⟩ := a
    rw [hC] at hi
    have key : ∀ i, i < n → ∃ r : α, sp = none ∧ b < W.heap.size ∧ (∀ j v, (f r)[j]? = some v → W.cell? ⟨b, o + (i * C + j), none⟩ = some v) ∧ Q r := by
      intro i him
      obtain ⟨cs', hc, ht⟩ := hi i (by omega)
      obtain ⟨r, rfl, hr⟩ := one fl cs' _ ht
      obtain ⟨_, hcl, hat⟩ := World.cells?_some hc
      obtain ⟨cs0, hc0, ht0⟩ := hi 0 (by omega)
      obtain ⟨r0, rfl, _⟩ := one fl cs0 _ ht0
      have e0 : (f r0)[0]? = some ((f r0)[0]'(by rw [hf]; exact hC0)) := List.getElem?_eq_getElem (by rw [hf]; exact hC0)
      have h00 := ((World.cells?_some hc0).2.2 0 hC0).trans e0
      have hsp : sp = none := by simpa [Addr.add] using World.cell?_spot h00
      subst hsp
      refine ⟨r, rfl, ?_, fun j v hj => ?_, hr⟩
      · have e1 : (f r)[0]? = some ((f r)[0]'(by rw [hf]; exact hC0)) := List.getElem?_eq_getElem (by rw [hf]; exact hC0)
        have h0 := (hat 0 hC0).trans e1
        rw [Go.WideShapes.add_plain, Go.WideShapes.add_plain] at h0
        simpa using World.block_lt_of_cell? W _ h0
      · have hjl : j < C := by
          have := (List.getElem?_eq_some_iff.1 hj).1
          rw [hf] at this
          exact this
        have h0 := (hat j hjl).trans hj
        rw [Go.WideShapes.add_plain, Go.WideShapes.add_plain] at h0
        rw [← Nat.add_assoc]
        exact h0
    obtain ⟨rs, h1, h2⟩ := list_of_all _ n key
    refine ⟨by omega, rs, h1, fun v hv => ?_, fun hne => ?_⟩
    · obtain ⟨i, hi'⟩ := List.mem_iff_getElem?.1 hv
      exact (h2 i v hi').2.2.2
    · have hne' : rs ≠ [] := by intro e; apply hne; rw [e]; rfl
      obtain ⟨hsp, hb, _⟩ := h2 0 _ (List.getElem?_eq_getElem (List.length_pos_iff.2 hne'))
      subst hsp
      refine ⟨b, o, rfl, hb, fun i v hv => ?_⟩
      obtain ⟨q, j, hj, rfl⟩ : ∃ q j, j < C ∧ i = q * C + j := ⟨i / C, i % C, Nat.mod_lt _ hC0, by rw [Nat.mul_comm]; exact (Nat.div_add_mod i C).symm⟩
      rcases Nat.lt_or_ge q rs.length with hq | hq
      · have hr := List.getElem?_eq_getElem hq
        refine (h2 q _ hr).2.2.1 j v ?_
        rw [flat_at C f hf rs q j _ hr hj] at hv
        exact hv
      · rw [List.getElem?_eq_none (by
          rw [flat_len C f hf]
          have := Nat.mul_le_mul_right C hq
          omega)] at hv
        cases hv
def i64ok (k : Int) : Prop := -9223372036854775808 ≤ k ∧ k ≤ 9223372036854775807
set_option maxRecDepth 100000 in
theorem open_tasks {H : Type} {enc : TypeId × Value → H} {W : World} {fuel : Nat} {A : Option Addr} {n c : Nat} {x : DataW H × List MemPlace}
    (h : DataW.trod enc Tryz.prog W 0 (fun _ => true) true fuel 35 [.slice A n c] = some x) : n ≤ maxLen ∧ ∃ l : List Tk, l.length = n ∧ Row W A (tkRow l) := by
  have hC : Tryz.prog.cellsOf 34 = 3 := by kernel_rfl
  have hCs : Tryz.prog.cellsOf 9 = 1 := by kernel_rfl
  have hCi : Tryz.prog.cellsOf 3 = 1 := by kernel_rfl
  obtain ⟨h1, l, h2, _, h4⟩ := open_list Tryz.underlying35 3 hC (by decide) (fun (q : Tk) => (tkV q).toList) (fun _ => rfl) (fun _ => True) (fun fl cs' y ht => by
    obtain ⟨xs, nn, rfl, _, hlen, hxl, hf⟩ := DataW.trod_struct Tryz.underlying34 ht
    rw [hC] at hlen
    obtain ⟨v0, v1, v2, rfl⟩ : ∃ v0 v1 v2, cs' = [v0, v1, v2] := by
      match cs', hlen with
      | [a, b, c], _ => exact ⟨a, b, c, rfl⟩
    have hx : ∀ i, i < 3 → ∃ y, xs[i]? = some y := fun i hi => ⟨_, List.getElem?_eq_getElem (by rw [hxl]; exact hi)⟩
    obtain ⟨y0, e0⟩ := hx 0 (by decide)
    obtain ⟨y1, e1⟩ := hx 1 (by decide)
    obtain ⟨y2, e2⟩ := hx 2 (by decide)
    have t0 : DataW.trod enc Tryz.prog W 0 (fun _ => true) true nn 9 (List.take (Tryz.prog.cellsOf 9) (List.drop 0 [v0, v1, v2])) = some y0 := (hf 0 _ rfl).trans e0
    have t1 : DataW.trod enc Tryz.prog W 0 (fun _ => true) true nn 3 (List.take (Tryz.prog.cellsOf 3) (List.drop 1 [v0, v1, v2])) = some y1 := (hf 1 _ rfl).trans e1
    have t2 : DataW.trod enc Tryz.prog W 0 (fun _ => true) true nn 3 (List.take (Tryz.prog.cellsOf 3) (List.drop 2 [v0, v1, v2])) = some y2 := (hf 2 _ rfl).trans e2
    rw [hCs] at t0
    rw [hCi] at t1 t2
    obtain ⟨k0, q0, _⟩ := DataW.trod_string Tryz.underlying9 t0
    obtain ⟨k1, q1, _, _⟩ := DataW.trod_int Tryz.underlying3 t1
    obtain ⟨k2, q2, _, _⟩ := DataW.trod_int Tryz.underlying3 t2
    simp only [List.drop_zero, List.drop_succ_cons, List.take_succ_cons, List.take_zero, List.cons.injEq, and_true] at q0 q1 q2
    subst q0 q1 q2
    exact ⟨⟨k0, k1, k2⟩, rfl, trivial⟩) h
  exact ⟨h1, l, h2, h4⟩
set_option maxRecDepth 100000 in
theorem open_events {H : Type} {enc : TypeId × Value → H} {W : World} {fuel : Nat} {A : Option Addr} {n c : Nat} {x : DataW H × List MemPlace}
    (h : DataW.trod enc Tryz.prog W 0 (fun _ => true) true fuel 22 [.slice A n c] = some x) : n ≤ maxLen ∧ ∃ l : List Ev, l.length = n ∧ Row W A (evC l) := by
  have hC : Tryz.prog.cellsOf 26 = 8 := by kernel_rfl
  have hCb : Tryz.prog.cellsOf 5 = 1 := by kernel_rfl
  have hCi : Tryz.prog.cellsOf 3 = 1 := by kernel_rfl
  obtain ⟨h1, l, h2, _, h4⟩ := open_list Tryz.underlying22 8 hC (by decide) (fun (q : Ev) => (evV q).toList) (fun _ => rfl) (fun _ => True) (fun fl cs' y ht => by
    obtain ⟨xs, nn, rfl, _, hlen, hxl, hf⟩ := DataW.trod_struct Tryz.underlying26 ht
    rw [hC] at hlen
    obtain ⟨v0, v1, v2, v3, v4, v5, v6, v7, rfl⟩ : ∃ v0 v1 v2 v3 v4 v5 v6 v7, cs' = [v0, v1, v2, v3, v4, v5, v6, v7] := by
      match cs', hlen with
      | [a, b, c, d, e, f, g, h], _ => exact ⟨a, b, c, d, e, f, g, h, rfl⟩
    have hx : ∀ i, i < 8 → ∃ y, xs[i]? = some y := fun i hi => ⟨_, List.getElem?_eq_getElem (by rw [hxl]; exact hi)⟩
    obtain ⟨y0, e0⟩ := hx 0 (by decide)
    obtain ⟨y1, e1⟩ := hx 1 (by decide)
    obtain ⟨y2, e2⟩ := hx 2 (by decide)
    obtain ⟨y3, e3⟩ := hx 3 (by decide)
    obtain ⟨y4, e4⟩ := hx 4 (by decide)
    obtain ⟨y5, e5⟩ := hx 5 (by decide)
    obtain ⟨y6, e6⟩ := hx 6 (by decide)
    obtain ⟨y7, e7⟩ := hx 7 (by decide)
    have t0 : DataW.trod enc Tryz.prog W 0 (fun _ => true) true nn 3 (List.take (Tryz.prog.cellsOf 3) (List.drop 0 [v0, v1, v2, v3, v4, v5, v6, v7])) = some y0 := (hf 0 _ rfl).trans e0
    have t1 : DataW.trod enc Tryz.prog W 0 (fun _ => true) true nn 3 (List.take (Tryz.prog.cellsOf 3) (List.drop 1 [v0, v1, v2, v3, v4, v5, v6, v7])) = some y1 := (hf 1 _ rfl).trans e1
    have t2 : DataW.trod enc Tryz.prog W 0 (fun _ => true) true nn 3 (List.take (Tryz.prog.cellsOf 3) (List.drop 2 [v0, v1, v2, v3, v4, v5, v6, v7])) = some y2 := (hf 2 _ rfl).trans e2
    have t3 : DataW.trod enc Tryz.prog W 0 (fun _ => true) true nn 3 (List.take (Tryz.prog.cellsOf 3) (List.drop 3 [v0, v1, v2, v3, v4, v5, v6, v7])) = some y3 := (hf 3 _ rfl).trans e3
    have t4 : DataW.trod enc Tryz.prog W 0 (fun _ => true) true nn 5 (List.take (Tryz.prog.cellsOf 5) (List.drop 4 [v0, v1, v2, v3, v4, v5, v6, v7])) = some y4 := (hf 4 _ rfl).trans e4
    have t5 : DataW.trod enc Tryz.prog W 0 (fun _ => true) true nn 3 (List.take (Tryz.prog.cellsOf 3) (List.drop 5 [v0, v1, v2, v3, v4, v5, v6, v7])) = some y5 := (hf 5 _ rfl).trans e5
    have t6 : DataW.trod enc Tryz.prog W 0 (fun _ => true) true nn 3 (List.take (Tryz.prog.cellsOf 3) (List.drop 6 [v0, v1, v2, v3, v4, v5, v6, v7])) = some y6 := (hf 6 _ rfl).trans e6
    have t7 : DataW.trod enc Tryz.prog W 0 (fun _ => true) true nn 3 (List.take (Tryz.prog.cellsOf 3) (List.drop 7 [v0, v1, v2, v3, v4, v5, v6, v7])) = some y7 := (hf 7 _ rfl).trans e7
    rw [hCb] at t4
    rw [hCi] at t0 t1 t2 t3 t5 t6 t7
    obtain ⟨k0, q0, _, _⟩ := DataW.trod_int Tryz.underlying3 t0
    obtain ⟨k1, q1, _, _⟩ := DataW.trod_int Tryz.underlying3 t1
    obtain ⟨k2, q2, _, _⟩ := DataW.trod_int Tryz.underlying3 t2
    obtain ⟨k3, q3, _, _⟩ := DataW.trod_int Tryz.underlying3 t3
    obtain ⟨k4, q4, _, hw4⟩ := DataW.trod_int Tryz.underlying5 t4
    obtain ⟨k5, q5, _, _⟩ := DataW.trod_int Tryz.underlying3 t5
    obtain ⟨k6, q6, _, _⟩ := DataW.trod_int Tryz.underlying3 t6
    obtain ⟨k7, q7, _, _⟩ := DataW.trod_int Tryz.underlying3 t7
    simp only [List.drop_zero, List.drop_succ_cons, List.take_succ_cons, List.take_zero, List.cons.injEq, and_true] at q0 q1 q2 q3 q4 q5 q6 q7
    subst q0 q1 q2 q3 q4 q5 q6 q7
    have hb4 := Go.bounds_u8 hw4
    obtain ⟨kn, rfl⟩ := Int.eq_ofNat_of_zero_le hb4.1
    exact ⟨⟨k0, k1, k2, k3, kn, k5, k6, k7⟩, rfl, trivial⟩) h
  exact ⟨h1, l, h2, h4⟩
end Go.Proofs.YtpmbhdheeaejgaaGreatDoor
