/- An argument that is a program, opened to cells. -/
import Derived.Test.YtfakdbnfpdalhaaGreatDoorOpenN
import Derived.Test.YtfakdbnfpdalhaaGreatDoorSmallP
namespace Go.Proofs.YtfakdbnfpdalhaaGreatDoor
open Go.ChangeShapes Go.WideShapes Go.Deep Go.RowKit
open PP (Tree ArrD TaskD ProgD)
/-- A slice, opened by its elements. -/
theorem open_row {H : Type} {enc : TypeId × Value → H} {W : World} {s e : TypeId} {K : Nat} {α : Type} (hu : Tryz.prog.underlying s = some (.slice e)) (hK : Tryz.prog.cellsOf e = K) (hK1 : 0 < K) (cells : α → List Value) (Good : α → Prop)
    (hel : ∀ (fuel : Nat) (cs : List Value) (x : DataW H × List MemPlace), DataW.trod enc Tryz.prog W 0 (fun _ => true) true fuel e cs = some x → ∃ r : α, cs = cells r ∧ Good r)
    {fuel : Nat} {v : Value} {x : DataW H × List MemPlace} (h : DataW.trod enc Tryz.prog W 0 (fun _ => true) true fuel s [v] = some x) :
    ∃ (A : Option Addr) (c : Nat) (rs : List α), v = .slice A rs.length c ∧ (∀ r ∈ rs, Good r) ∧ (rs ≠ [] → ∃ b o, A = some ⟨b, o, none⟩ ∧ b < W.heap.size ∧ ∀ (i : Nat) r, rs[i]? = some r → ∀ j, j < K → W.cell? ⟨b, o + i * K + j, none⟩ = (cells r)[j]?) := by
  rcases DataW.trod_slice hu h with ⟨hcs, _⟩ | ⟨a, len, cap, elems, rest, n', rfl, hcs, _, _, hl, hm, hlen, hi, _⟩
  · simp only [List.cons.injEq, and_true] at hcs
    exact ⟨none, 0, [], by simpa using hcs, by simp, by simp⟩
  · simp only [List.cons.injEq, and_true] at hcs
    subst hcs
    obtain ⟨b, o, sp⟩ := a
    rw [hK] at hi
    have key : ∀ i, i < len → ∃ r : α, (sp = none ∧ b < W.heap.size ∧ ∀ j, j < K → W.cell? ⟨b, o + i * K + j, none⟩ = (cells r)[j]?) ∧ Good r := by
      intro i hil
      obtain ⟨y, hy⟩ : ∃ y, elems[i]? = some y := ⟨_, List.getElem?_eq_getElem (by omega)⟩
      obtain ⟨cs', hc, ht⟩ := Option.bind_eq_some_iff.1 ((hi i hil).trans hy)
      obtain ⟨r, hr, hg⟩ := hel n' cs' y ht
      subst hr
      obtain ⟨_, hcl, hat⟩ := World.cells?_some hc
      have a0 := hat 0 hK1
      have hsp : sp = none := by
        obtain ⟨y', hy'⟩ : ∃ y, elems[0]? = some y := ⟨_, List.getElem?_eq_getElem (by omega)⟩
        obtain ⟨cs0, hc0, ht0⟩ := Option.bind_eq_some_iff.1 ((hi 0 (by omega)).trans hy')
        obtain ⟨_, hcl0, hat0⟩ := World.cells?_some hc0
        have b0 := hat0 0 hK1
        rw [List.getElem?_eq_getElem (by omega)] at b0
        simpa [Addr.add] using World.cell?_spot b0
      subst hsp
      refine ⟨r, ⟨rfl, ?_, fun j hj => ?_⟩, hg⟩
      · rw [List.getElem?_eq_getElem (by omega), Go.WideShapes.add_plain, Go.WideShapes.add_plain] at a0
        simpa using World.block_lt_of_cell? W _ a0
      · have := hat j hj
        rw [Go.WideShapes.add_plain, Go.WideShapes.add_plain] at this
        exact this
    obtain ⟨rs, h1, h2⟩ := list_of_allN _ len key
    refine ⟨some ⟨b, o, sp⟩, cap, rs, by rw [h1], fun r hr => ?_, fun hn => ?_⟩
    · obtain ⟨i, hi⟩ := List.mem_iff_getElem?.1 hr
      exact (h2 i r hi).2
    · obtain ⟨r, hr⟩ : ∃ r, rs[0]? = some r := ⟨_, List.getElem?_eq_getElem (List.length_pos_iff.2 hn)⟩
      obtain ⟨⟨rfl, hb, _⟩, _⟩ := h2 0 r hr
      exact ⟨b, o, rfl, hb, fun i r hi => (h2 i r hi).1.2.2⟩
theorem arrCells_len (rs : List ArrD) : (arrCells rs).length = 2 * rs.length := by
  induction rs with
  | nil => rfl
  | cons a l ih =>
    rw [show arrCells (a :: l) = [Value.string ⟨a.name.toArray⟩, Value.int .i64 a.len] ++ arrCells l from rfl, List.length_append, ih]
    simp only [List.length_cons, List.length_nil]
    omega
theorem cellsArr : Tryz.prog.cellsOf 52 = 2 := by kernel_rfl
theorem cellsTask : Tryz.prog.cellsOf 58 = 8 := by kernel_rfl
theorem cellsSS : Tryz.prog.cellsOf 56 = 1 := by kernel_rfl
theorem cellsSA : Tryz.prog.cellsOf 23 = 1 := by kernel_rfl
theorem cellsST : Tryz.prog.cellsOf 24 = 1 := by kernel_rfl
section
variable {H : Type} {enc : TypeId × Value → H} {W : World}
theorem open_str1 (fuel : Nat) (cs : List Value) (x : DataW H × List MemPlace) (h : DataW.trod enc Tryz.prog W 0 (fun _ => true) true fuel 9 cs = some x) : ∃ r : List UInt8, cs = [Value.string ⟨r.toArray⟩] ∧ True := by
  obtain ⟨s0, q2, _, hw2⟩ := DataW.trod_string Tryz.underlying9 h
  exact ⟨s0.data.toList, q2, trivial⟩
set_option maxRecDepth 100000 in
theorem open_arr1 (fuel : Nat) (cs : List Value) (x : DataW H × List MemPlace) (h : DataW.trod enc Tryz.prog W 0 (fun _ => true) true fuel 52 cs = some x) : ∃ r : ArrD, cs = [Value.string ⟨r.name.toArray⟩, Value.int .i64 r.len] ∧ True := by
  obtain ⟨xs, n, rfl, _, hlen, hxl, hf⟩ := DataW.trod_struct Tryz.underlying52 h
  rw [cellsArr] at hlen
  obtain ⟨v0, v1, rfl⟩ : ∃ v0 v1, cs = [v0, v1] := by
    match cs, hlen with
    | [a, b], _ => exact ⟨a, b, rfl⟩
  have hx : ∀ i, i < 2 → ∃ y, xs[i]? = some y := fun i hi => ⟨_, List.getElem?_eq_getElem (by rw [hxl]; exact hi)⟩
  obtain ⟨y0, e0⟩ := hx 0 (by decide)
  obtain ⟨y1, e1⟩ := hx 1 (by decide)
  have t0 : DataW.trod enc Tryz.prog W 0 (fun _ => true) true n 9 (List.take (Tryz.prog.cellsOf 9) (List.drop 0 [v0, v1])) = some y0 := (hf 0 _ rfl).trans e0
  rw [cellsS] at t0
  have t1 : DataW.trod enc Tryz.prog W 0 (fun _ => true) true n 3 (List.take (Tryz.prog.cellsOf 3) (List.drop 1 [v0, v1])) = some y1 := (hf 1 _ rfl).trans e1
  rw [cellsI] at t1
  obtain ⟨s0, q0, _, _⟩ := DataW.trod_string Tryz.underlying9 t0
  obtain ⟨k1, q1, _, _⟩ := DataW.trod_int Tryz.underlying3 t1
  simp only [List.drop_zero, List.drop_succ_cons, List.take_succ_cons, List.take_zero, List.cons.injEq, and_true] at q0 q1
  subst q0 q1
  exact ⟨⟨s0.data.toList, k1⟩, rfl, trivial⟩
theorem row_strs {s : TypeId} {fuel : Nat} {v : Value} {x : DataW H × List MemPlace} (hu : Tryz.prog.underlying s = some (.slice 9)) (h : DataW.trod enc Tryz.prog W 0 (fun _ => true) true fuel s [v] = some x) : ∃ (A : Option Addr) (c : Nat) (vs : List (List UInt8)), v = .slice A vs.length c ∧ Row W A (strCells vs) := by
  obtain ⟨A, c, rs, rfl, _, hat⟩ := open_row (K := 1) hu cellsS (by decide) (fun r : List UInt8 => [Value.string ⟨r.toArray⟩]) (fun _ => True) open_str1 h
  refine ⟨A, c, rs, rfl, fun hn => ?_⟩
  obtain ⟨b, o, rfl, hb, hc⟩ := hat (by intro e; apply hn; rw [e]; rfl)
  refine ⟨b, o, rfl, hb, fun i v hi => ?_⟩
  simp only [strCells, List.getElem?_map, Option.map_eq_some_iff] at hi
  obtain ⟨r, hr, rfl⟩ := hi
  have := hc i r hr 0 (by decide)
  simpa using this
theorem row_arrs {s : TypeId} {fuel : Nat} {v : Value} {x : DataW H × List MemPlace} (hu : Tryz.prog.underlying s = some (.slice 52)) (h : DataW.trod enc Tryz.prog W 0 (fun _ => true) true fuel s [v] = some x) : ∃ (A : Option Addr) (c : Nat) (vs : List ArrD), v = .slice A vs.length c ∧ Row W A (arrCells vs) := by
  obtain ⟨A, c, rs, rfl, _, hat⟩ := open_row (K := 2) hu cellsArr (by decide) (fun r : ArrD => [Value.string ⟨r.name.toArray⟩, Value.int .i64 r.len]) (fun _ => True) open_arr1 h
  refine ⟨A, c, rs, rfl, fun hn => ?_⟩
  obtain ⟨b, o, rfl, hb, hc⟩ := hat (by intro e; apply hn; rw [e]; rfl)
  refine ⟨b, o, rfl, hb, fun i v hi => ?_⟩
  have hil : i < (arrCells rs).length := (List.getElem?_eq_some_iff.1 hi).1
  have hll := arrCells_len rs
  obtain ⟨r, hr⟩ : ∃ r, rs[i / 2]? = some r := ⟨_, List.getElem?_eq_getElem (by omega)⟩
  obtain ⟨a0, a1⟩ := arr_at hr
  have c0 := hc (i / 2) r hr 0 (by decide)
  have c1 := hc (i / 2) r hr 1 (by decide)
  rcases Nat.mod_two_eq_zero_or_one i with h2 | h2
  · have hi2 : i / 2 * 2 = i := by omega
    rw [hi2] at a0 c0
    rw [hi] at a0
    rw [Option.some.inj a0]
    exact c0
  · have hi2 : i / 2 * 2 + 1 = i := by omega
    rw [hi2] at a1
    rw [hi] at a1
    rw [Nat.add_assoc, hi2] at c1
    rw [Option.some.inj a1]
    exact c1
/-- What is known of one task that is read. -/
structure TaskRd where
  t : TaskD
  vA : Option Addr
  vc : Nat
  aA : Option Addr
  ac : Nat
  k : Nat
  num : Int
  nm : List UInt8
  kids : List Tree
  kA : Option Addr
  kc : Nat
def TaskRd.cells (r : TaskRd) : List Value := [.string ⟨r.t.name.toArray⟩, .int .i64 r.t.period, .slice r.vA r.t.vars.length r.vc, .slice r.aA r.t.arrays.length r.ac, .int .u8 (r.k : Int), .int .i64 r.num, .string ⟨r.nm.toArray⟩, .slice r.kA r.kids.length r.kc]
structure TaskRd.Good (W : World) (r : TaskRd) : Prop where
  bd : r.t.body = .node r.k r.num r.nm r.kids
  rv : Row W r.vA (strCells r.t.vars)
  ra : Row W r.aA (arrCells r.t.arrays)
  ks : KidsC W (fun _ => True) r.kA r.kids
  bt : PP.bdT r.t.body
set_option maxRecDepth 100000 in
theorem open_task1 (fuel : Nat) (cs : List Value) (x : DataW H × List MemPlace) (h : DataW.trod enc Tryz.prog W 0 (fun _ => true) true fuel 58 cs = some x) : ∃ r : TaskRd, cs = r.cells ∧ r.Good W := by
  obtain ⟨xs, n, rfl, _, hlen, hxl, hf⟩ := DataW.trod_struct Tryz.underlying58 h
  rw [cellsTask] at hlen
  obtain ⟨v0, v1, v2, v3, v4, v5, v6, v7, rfl⟩ : ∃ v0 v1 v2 v3 v4 v5 v6 v7, cs = [v0, v1, v2, v3, v4, v5, v6, v7] := by
    match cs, hlen with
    | [a, b, c, d, e, f, g, h], _ => exact ⟨a, b, c, d, e, f, g, h, rfl⟩
  have hx : ∀ i, i < 5 → ∃ y, xs[i]? = some y := fun i hi => ⟨_, List.getElem?_eq_getElem (by rw [hxl]; exact hi)⟩
  obtain ⟨y0, e0⟩ := hx 0 (by decide)
  obtain ⟨y1, e1⟩ := hx 1 (by decide)
  obtain ⟨y2, e2⟩ := hx 2 (by decide)
  obtain ⟨y3, e3⟩ := hx 3 (by decide)
  obtain ⟨y4, e4⟩ := hx 4 (by decide)
  have t0 : DataW.trod enc Tryz.prog W 0 (fun _ => true) true n 9 (List.take (Tryz.prog.cellsOf 9) (List.drop 0 [v0, v1, v2, v3, v4, v5, v6, v7])) = some y0 := (hf 0 _ rfl).trans e0
  rw [cellsS] at t0
  have t1 : DataW.trod enc Tryz.prog W 0 (fun _ => true) true n 3 (List.take (Tryz.prog.cellsOf 3) (List.drop 1 [v0, v1, v2, v3, v4, v5, v6, v7])) = some y1 := (hf 1 _ rfl).trans e1
  rw [cellsI] at t1
  have t2 : DataW.trod enc Tryz.prog W 0 (fun _ => true) true n 56 (List.take (Tryz.prog.cellsOf 56) (List.drop 2 [v0, v1, v2, v3, v4, v5, v6, v7])) = some y2 := (hf 2 _ rfl).trans e2
  rw [cellsSS] at t2
  have t3 : DataW.trod enc Tryz.prog W 0 (fun _ => true) true n 23 (List.take (Tryz.prog.cellsOf 23) (List.drop 3 [v0, v1, v2, v3, v4, v5, v6, v7])) = some y3 := (hf 3 _ rfl).trans e3
  rw [cellsSA] at t3
  have t4 : DataW.trod enc Tryz.prog W 0 (fun _ => true) true n 36 (List.take (Tryz.prog.cellsOf 36) (List.drop 4 [v0, v1, v2, v3, v4, v5, v6, v7])) = some y4 := (hf 4 _ rfl).trans e4
  rw [cellsNode] at t4
  simp only [List.drop_zero, List.drop_succ_cons, List.take_succ_cons, List.take_zero] at t0 t1 t2 t3 t4
  obtain ⟨s0, q0, _, _⟩ := DataW.trod_string Tryz.underlying9 t0
  obtain ⟨k1, q1, _, _⟩ := DataW.trod_int Tryz.underlying3 t1
  obtain ⟨vA, vc, vs, q2, hv⟩ := row_strs Tryz.underlying56 t2
  obtain ⟨aA, ac, ars, q3, ha⟩ := row_arrs Tryz.underlying23 t3
  obtain ⟨r, q4, hk, hbd⟩ := open_node n _ _ t4
  simp only [List.cons.injEq, and_true] at q0 q1
  simp only [NodeR.cells, List.cons.injEq, and_true] at q4
  obtain ⟨q4, q5, q6, q7⟩ := q4
  subst q0 q1 q2 q3 q4 q5 q6 q7
  exact ⟨⟨⟨s0.data.toList, k1, vs, ars, r.tree⟩, vA, vc, aA, ac, r.k, r.num, r.nm, r.kids, r.A, r.c⟩, rfl, ⟨rfl, hv, ha, hk.weak (fun _ _ _ => trivial), hbd⟩⟩
set_option maxRecDepth 100000 in
theorem row_tasks {s : TypeId} {fuel : Nat} {v : Value} {x : DataW H × List MemPlace} (hu : Tryz.prog.underlying s = some (.slice 58)) (h : DataW.trod enc Tryz.prog W 0 (fun _ => true) true fuel s [v] = some x) : ∃ (A : Option Addr) (c : Nat) (ts : List TaskD), v = .slice A ts.length c ∧ TasksU W A ts := by
  obtain ⟨A, c, rs, rfl, hgood, hat⟩ := open_row (K := 8) hu cellsTask (by decide) TaskRd.cells (fun r => r.Good W) open_task1 h
  refine ⟨A, c, rs.map TaskRd.t, by simp, fun hn => ?_⟩
  obtain ⟨b, o, rfl, hb, hc⟩ := hat (by intro e; apply hn; rw [e]; rfl)
  refine ⟨b, o, rfl, hb, fun i t hi => ?_⟩
  rw [List.getElem?_map] at hi
  obtain ⟨r, hr, rfl⟩ := Option.map_eq_some_iff.1 hi
  have g := hgood r (List.mem_of_getElem? hr)
  exact ⟨r.vA, r.vc, r.aA, r.ac, r.k, r.num, r.nm, r.kids, r.kA, r.kc, ⟨hc i r hr 0 (by decide), hc i r hr 1 (by decide), hc i r hr 2 (by decide), hc i r hr 3 (by decide), hc i r hr 4 (by decide), hc i r hr 5 (by decide), hc i r hr 6 (by decide), hc i r hr 7 (by decide), g.bd, g.rv, g.ra, g.ks, g.bt⟩⟩
set_option maxRecDepth 100000 in
/-- A program that is handed in. -/
theorem open_argP {base : Nat} {v : Value} {d : DataW H} {p : List MemPlace} (hv : Value.okWide Tryz.prog W .any base 26 v) (h : DataW.Trod enc Tryz.prog W 0 (fun _ => true) true 26 v d p) :
    ∃ (A T : Option Addr) (c d : Nat) (q : ProgD), v = .agg #[.slice A q.shared.length c, .slice T q.tasks.length d] ∧ ProgU W A T q := by
  obtain ⟨cs, rfl, _⟩ := okWide_struct Tryz.underlying26 hv
  obtain ⟨fuel, hf⟩ := h
  obtain ⟨xs, n, rfl, _, hlen, hxl, hf⟩ := DataW.trod_struct Tryz.underlying26 hf
  rw [show Tryz.prog.cellsOf 26 = 2 from by kernel_rfl] at hlen
  simp only [Value.cells] at hlen hf
  obtain ⟨v0, v1, hcs⟩ : ∃ v0 v1, cs.toList = [v0, v1] := by
    match hc : cs.toList, hlen with
    | [a, b], _ => exact ⟨a, b, rfl⟩
  have hcs' : cs = #[v0, v1] := Array.ext' hcs
  subst hcs'
  have hx : ∀ i, i < 2 → ∃ y, xs[i]? = some y := fun i hi => ⟨_, List.getElem?_eq_getElem (by rw [hxl]; exact hi)⟩
  obtain ⟨y0, e0⟩ := hx 0 (by decide)
  obtain ⟨y1, e1⟩ := hx 1 (by decide)
  have t0 : DataW.trod enc Tryz.prog W 0 (fun _ => true) true n 23 (List.take (Tryz.prog.cellsOf 23) (List.drop 0 [v0, v1])) = some y0 := (hf 0 _ rfl).trans e0
  rw [cellsSA] at t0
  have t1 : DataW.trod enc Tryz.prog W 0 (fun _ => true) true n 24 (List.take (Tryz.prog.cellsOf 24) (List.drop 1 [v0, v1])) = some y1 := (hf 1 _ rfl).trans e1
  rw [cellsST] at t1
  simp only [List.drop_zero, List.drop_succ_cons, List.take_succ_cons, List.take_zero] at t0 t1
  obtain ⟨A, c, ars, q0, ha⟩ := row_arrs Tryz.underlying23 t0
  obtain ⟨T, d', ts, q1, ht⟩ := row_tasks Tryz.underlying24 t1
  subst q0 q1
  exact ⟨A, T, c, d', ⟨ars, ts⟩, rfl, ⟨ha, ht⟩⟩
end
/-- What the laws of the printer's that take a program are handed. -/
structure PLArg (w : World) (A T : Option Addr) (p : ProgD) : Prop where
  pr : ProgU w A T p
  ops : OpsIs w
  pow : PowIs w
  sg : SignsIs w
theorem PLArg.below {w w' : World} {A T : Option Addr} {p : ProgD} (h : PLArg w A T p) (hb : Below w.heap.size w w') : PLArg w' A T p :=
  ⟨h.pr.below hb, h.ops.below hb, h.pow.below hb h.pow.lt, h.sg.belowS hb⟩
end Go.Proofs.YtfakdbnfpdalhaaGreatDoor
